/- The laws of stealing together. No condition. -/
import Derived.Test.YtplpmelpoajpdaaSlLib6
import Derived.Test.YtplpmelpoajpdaaSlLib5
import Derived.Test.YtplpmelpoajpdaaSlLib4
namespace Go.Proofs.Ytplpmelpoajpdaa.Ev
open Go Go.Proofs
open Go.RowKit (wrap64)
set_option linter.unusedVariables false
set_option linter.unusedSimpArgs false
set_option maxRecDepth 100000
set_option maxHeartbeats 2000000
theorem int_beq {a b : Int} : (a == b) = decide (a = b) := rfl
theorem dec_no {p : Prop} [Decidable p] (h : ¬ p) : decide p = false := decide_eq_false h
section
variable {X : Prims} (hX : Low X)
include hX
theorem ints_g (a b : List Int) (ha : a.length ≤ 100000) : Gv P X 27 [L a, L b] (B (decide (a = b))) := by
  refine gv_of (hX _ (by decide)) fun27 rfl ?_
  simp +decide only [Try.f27, go_sem]
  refine Wif_of (fun h => ?_) (fun h => ?_)
  · have hne : a ≠ b := fun e => by subst e; simp at h
    simp +decide only [go_sem]
    exact ⟨_, rfl, rfl, by rw [dec_no hne]⟩
  · have hl : a.length = b.length := by simp at h; omega
    simp +decide only [go_sem]
    refine W_ind (fun k st => ∃ i : Nat, i + k = a.length ∧ FrIs 26 [(0, L a), (1, L b), (5, I i)] st.fr ∧ st.S = [] ∧ st.T = [] ∧ a.take i = b.take i) ?_ (n := a.length) ⟨0, by omega, ⟨rfl, rfl, rfl, rfl, trivial⟩, rfl, rfl, rfl⟩
    rintro k ⟨L', S, T⟩ ih ⟨i, hi, hF, rfl, rfl, he⟩
    obtain ⟨j, rfl⟩ := hF.ex
    have hw := wrap_nat i (by omega)
    simp +decide only [fr, jl, Nat.reduceAdd, go_sem]
    refine Wif_of (fun h => ?_) (fun h => ?_)
    · have hlt : i < a.length := by simpa using h
      have hx := rd_at hlt
      have hy := rd_at (show i < b.length by omega)
      simp +decide only [go_sem]
      refine W_draw hmx (by kernel_rfl) ?_
      simp +decide only [go_sem, hx, hy]
      refine Wif_of (fun h => ?_) (fun h => ?_)
      · have hne : a ≠ b := fun e => by subst e; simp at h
        simp +decide only [go_sem]
        exact ⟨_, rfl, rfl, by rw [dec_no hne]⟩
      · simp +decide only [go_sem, hw]
        exact ih (k - 1) _ (by omega) ⟨i + 1, by omega, ⟨rfl, rfl, rfl, rfl, trivial⟩, rfl, rfl, by rw [take_snoc hx, take_snoc hy, he]; simp at h; rw [h]⟩
    · have hi' : i = a.length := by simp at h; omega
      subst hi'
      have heq : a = b := by rw [List.take_length, hl, List.take_length] at he; exact he
      simp +decide only [go_sem]
      exact ⟨_, rfl, rfl, by rw [decide_eq_true heq]⟩
theorem rsame_g (x y : SRr) (hx : x.f1.length ≤ 100000) : Gv P X 57 [encG x, encG y] (B (decide (x = y))) := by
  refine gv_of (hX _ (by decide)) fun57 rfl ?_
  obtain ⟨n, a⟩ := x
  obtain ⟨m, b⟩ := y
  have e : decide ((⟨n, a⟩ : SRr) = ⟨m, b⟩) = ((n == m) && decide (a = b)) := by
    rw [show (n == m) = decide (n = m) from rfl, ← Bool.decide_and]; exact decide_eq_decide.mpr (by simp)
  rw [e]
  simp +decide only [Try.f57, encG, go_sem, Nat.reduceAdd]
  cases h : (n == m)
  · simp +decide only [go_sem]
    refine WO_not rfl ?_
    simp +decide only [go_sem]
    exact ⟨_, rfl, rfl, rfl⟩
  · simp +decide only [go_sem]
    refine WO_call rfl rfl rfl rfl rfl (ints_g hX a b hx) ?_
    simp +decide only [go_sem]
    exact ⟨_, rfl, rfl, rfl⟩
theorem same_g (t t' : List SVtx) (a a' : Int) (R R' : List SRr) (H H' : List (List Int)) (s s' : Int) (f : Fw R H) : Gv P X 25 [encRR t a R H s, encRR t' a' R' H' s'] (B (decide (R = R' ∧ H = H' ∧ s = s'))) := by
  refine gv_of (hX _ (by decide)) fun25 rfl ?_
  have hr := f.r
  have hh := f.h
  cases c1 : ((R.length : Int) != (R'.length : Int))
  case true =>
    simp +decide only [Try.f25, encRR, go_sem, Nat.reduceAdd, c1]
    exact ⟨_, rfl, rfl, by rw [dec_no (fun h => by rw [h.1] at c1; simp at c1)]⟩
  cases c2 : ((H.length : Int) != (H'.length : Int))
  case true =>
    simp +decide only [Try.f25, encRR, go_sem, Nat.reduceAdd, c1, c2]
    exact ⟨_, rfl, rfl, by rw [dec_no (fun h => by rw [h.2.1] at c2; simp at c2)]⟩
  cases c3 : (s != s')
  case true =>
    simp +decide only [Try.f25, encRR, go_sem, Nat.reduceAdd, c1, c2, c3]
    exact ⟨_, rfl, rfl, by rw [dec_no (fun h => by rw [h.2.2] at c3; simp at c3)]⟩
  have l1 : R.length = R'.length := by simp at c1; omega
  have l2 : H.length = H'.length := by simp at c2; omega
  have hs : s = s' := by simpa using c3
  simp +decide only [Try.f25, encRR, go_sem, Nat.reduceAdd, c1, c2, c3]
  refine W_ind (fun k st => ∃ i : Nat, i + k = R.length ∧ FrIs 68 [(2, .ptr 0 0), (3, .ptr 1 0), (5, I i)] st.fr ∧ st.S = [.var false [encT t, I a, .sl .no (R.map encG), .sl .no (H.map L), U s], .var false [encT t', I a', .sl .no (R'.map encG), .sl .no (H'.map L), U s']] ∧ st.T = [] ∧ R.take i = R'.take i) ?_ (n := R.length) ⟨0, by omega, ⟨rfl, rfl, rfl, rfl, trivial⟩, rfl, rfl, rfl⟩
  rintro k ⟨L', S, T⟩ ih ⟨i, hi, hF, rfl, rfl, he⟩
  obtain ⟨j, rfl⟩ := hF.ex
  have hw := wrap_nat i (by omega)
  simp +decide only [fr, jl, Nat.reduceAdd, go_sem]
  refine Wif_of (fun h => ?_) (fun h => ?_)
  · have hlt : i < R.length := by simpa using h
    obtain ⟨x, hx, hm⟩ := getE hlt
    obtain ⟨y, hy, hn⟩ := getE (show i < R'.length by omega)
    have := f.rl x hm
    simp +decide only [go_sem, Nat.reduceAdd]
    refine W_draw hmx (by kernel_rfl) ?_
    simp +decide only [go_sem, Nat.reduceAdd, hx, hy, encG]
    refine WO_call rfl rfl rfl rfl rfl (rsame_g hX x y (by omega)) ?_
    by_cases hxy : x = y
    · simp +decide only [go_sem, Nat.reduceAdd, hxy, hw]
      exact ih (k - 1) _ (by omega) ⟨i + 1, by omega, ⟨rfl, rfl, rfl, rfl, trivial⟩, rfl, rfl, by rw [take_snoc hx, take_snoc hy, he, hxy]⟩
    · simp +decide only [go_sem, Nat.reduceAdd, hxy]
      exact ⟨_, rfl, rfl, by rw [dec_no (fun h => hxy (by rw [h.1, hy] at hx; exact (Option.some.inj hx).symm))]⟩
  · have hi' : i = R.length := by simp at h; omega
    subst hi'
    have hR : R = R' := by rw [List.take_length, l1, List.take_length] at he; exact he
    clear ih
    simp +decide only [go_sem, Nat.reduceAdd]
    refine W_ind (fun k st => ∃ i : Nat, i + k = H.length ∧ FrIs 68 [(2, .ptr 0 0), (3, .ptr 1 0), (6, I i)] st.fr ∧ st.S = [.var false [encT t, I a, .sl .no (R.map encG), .sl .no (H.map L), U s], .var false [encT t', I a', .sl .no (R'.map encG), .sl .no (H'.map L), U s']] ∧ st.T = [] ∧ H.take i = H'.take i) ?_ (n := H.length) ⟨0, by omega, ⟨rfl, rfl, rfl, rfl, trivial⟩, rfl, rfl, rfl⟩
    rintro k ⟨L', S, T⟩ ih ⟨i, hi, hF, rfl, rfl, he⟩
    obtain ⟨j, rfl⟩ := hF.ex
    have hw := wrap_nat i (by omega)
    simp +decide only [fr, jl, Nat.reduceAdd, go_sem]
    refine Wif_of (fun h => ?_) (fun h => ?_)
    · have hlt : i < H.length := by simpa using h
      obtain ⟨x, hx, hm⟩ := getE hlt
      obtain ⟨y, hy, hn⟩ := getE (show i < H'.length by omega)
      have := f.hl x hm
      simp +decide only [go_sem, Nat.reduceAdd]
      refine W_draw hmx (by kernel_rfl) ?_
      simp +decide only [go_sem, Nat.reduceAdd, hx, hy]
      refine WO_call rfl rfl rfl rfl rfl (ints_g hX x y (by omega)) ?_
      by_cases hxy : x = y
      · simp +decide only [go_sem, Nat.reduceAdd, hxy, hw]
        exact ih (k - 1) _ (by omega) ⟨i + 1, by omega, ⟨rfl, rfl, rfl, rfl, trivial⟩, rfl, rfl, by rw [take_snoc hx, take_snoc hy, he, hxy]⟩
      · simp +decide only [go_sem, Nat.reduceAdd, hxy]
        exact ⟨_, rfl, rfl, by rw [dec_no (fun h => hxy (by rw [h.2.1, hy] at hx; exact (Option.some.inj hx).symm))]⟩
    · have hi' : i = H.length := by simp at h; omega
      subst hi'
      have hH : H = H' := by rw [List.take_length, l2, List.take_length] at he; exact he
      simp +decide only [go_sem, Nat.reduceAdd]
      exact ⟨_, rfl, rfl, by rw [decide_eq_true ⟨hR, hH, hs⟩]⟩
end
end Go.Proofs.Ytplpmelpoajpdaa.Ev
namespace Go.Proofs.Ytplpmelpoajpdaa.Ev
open Go Go.Proofs
open Go.RowKit (wrap64)
set_option linter.unusedVariables false
set_option linter.unusedSimpArgs false
set_option maxRecDepth 100000
set_option maxHeartbeats 2000000
theorem inP_at {t : List SVtx} {a : Int} {R : List SRr} {H : List (List Int)} {s p : Int} (hm : May t a R H s) (hp : inP t p) : 0 ≤ p ∧ R[p.toNat]? = some (rg R p) ∧ rg R p ∈ R ∧ 0 ≤ nodeOf t p ∧ H[(nodeOf t p).toNat]? = some (hrow H (nodeOf t p)) ∧ hrow H (nodeOf t p) ∈ H := by
  obtain ⟨h0, h1⟩ := hm.inP.mp hp
  obtain ⟨n0, n1⟩ := node_at hp
  have e1 : R[p.toNat]? = some (rg R p) := by simp [rg, show p.toNat < R.length by omega]
  have e2 : H[(nodeOf t p).toNat]? = some (hrow H (nodeOf t p)) := by
    have : (nodeOf t p).toNat < H.length := by rw [hm.h]; omega
    simp [hrow, this]
  exact ⟨h0, e1, List.mem_of_getElem? e1, n0, e2, List.mem_of_getElem? e2⟩
section
variable {X : Prims} (hX : Low X)
include hX
theorem thief_g (t : List SVtx) (a : Int) (R : List SRr) (H : List (List Int)) (s p : Int) (ht : t.length ≤ 64) (hs : U64 s) (f : Fw R H) : Gv P X 30 [encRR t a R H s, I p] (B (thiefB t a R H s p)) := by
  refine gv_of (hX _ (by decide)) fun30 rfl ?_
  unfold thiefB
  simp +decide only [Try.f30, encRR, go_sem, Nat.reduceAdd]
  refine WO_call rfl rfl rfl rfl rfl (rmay_g hX t a R H s ht hs f) ?_
  cases hM : mayB t a R H s
  · simp +decide only [go_sem]
    refine WO_not rfl ?_
    simp +decide only [go_sem]
    exact ⟨_, rfl, rfl, rfl⟩
  simp +decide only [go_sem, Nat.reduceAdd]
  refine WO_call rfl rfl rfl rfl rfl (on_g hX hs t a R H p) ?_
  cases hO : tb s p
  · simp +decide only [go_sem]
    exact ⟨_, rfl, rfl, rfl⟩
  have hm := may_iff.mp hM
  have hp := hm.inP.mpr ⟨tb_nn hO, hm.on p hO⟩
  obtain ⟨h0, e1, m1, n0, e2, m2⟩ := inP_at hm hp
  have l1 := f.rl _ m1
  simp +decide only [go_sem, Nat.reduceAdd]
  refine W_draw hmx (by kernel_rfl) ?_
  simp +decide only [go_sem, Nat.reduceAdd, h0, e1, encG]
  refine WO_call rfl rfl rfl rfl rfl (rring_all_g hX (rg R p).f0 (rg R p).f1 (by omega)) ?_
  change WO P X _ _ _ _ _ ⟨put _ _ (L (rAll (rg R p))), _, _⟩ _
  simp +decide only [go_sem, Nat.reduceAdd]
  cases hz : (((rAll (rg R p)).length : Int) == 0)
  · have hz' : ¬ (rAll (rg R p)).length = 0 := fun e => by rw [e] at hz; exact absurd hz (by decide)
    simp +decide only [go_sem]
    refine WO_not rfl ?_
    simp +decide only [go_sem, Nat.reduceAdd]
    exact ⟨_, rfl, rfl, by rw [decide_eq_false hz']; rfl⟩
  · have hz' : (rAll (rg R p)).length = 0 := by have := eq_of_beq hz; omega
    simp +decide only [go_sem, Nat.reduceAdd]
    refine WO_call rfl rfl rfl rfl rfl (rnode_g hX t p (by omega)) ?_
    simp +decide only [go_sem, Nat.reduceAdd, n0, e2]
    refine ⟨_, rfl, rfl, ?_⟩
    rw [decide_eq_true hz']
    have e : (((hrow H (nodeOf t p)).length : Int) == 0) = decide ((hrow H (nodeOf t p)).length = 0) := decide_eq_decide.mpr (by omega)
    rw [← e]; rfl
end
end Go.Proofs.Ytplpmelpoajpdaa.Ev
namespace Go.Proofs.Ytplpmelpoajpdaa.Ev
open Go Go.Proofs
open Go.RowKit (wrap64)
set_option linter.unusedVariables false
set_option linter.unusedSimpArgs false
set_option maxRecDepth 100000
set_option maxHeartbeats 2000000
theorem nearOf_len {t : List SVtx} {p : Int} : (nearOf t p).length ≤ 96 := by
  have h32 := procN_le t
  have key : ∀ (q : Int) (n : Nat) (far : Int) (m i : Nat), (rowN t q n far m i).length ≤ m := by
    intro q n far m
    induction m with
    | zero => intro i; exact Nat.le_refl 0
    | succ m ih =>
      intro i
      have := ih (i + 1)
      unfold rowN
      split
      · simp; omega
      · omega
  unfold nearOf
  split
  · have h1 := key p (procN t) 1 (procN t - 1) 1
    have h2 := key p (procN t) 2 (procN t - 1) 1
    have h3 := key p (procN t) 3 (procN t - 1) 1
    simp only [rowOf, List.length_append]
    omega
  · simp

def scanB (s : Int) : List Int → Int
  | [] => -1
  | q :: r => if tb s q = true then q else scanB s r
theorem scanB_mem {s : Int} : ∀ {l : List Int}, scanB s l = -1 ∨ scanB s l ∈ l
  | [] => .inl rfl
  | q :: r => by
    rw [scanB]
    split
    · exact .inr (by simp)
    · exact (scanB_mem (l := r)).imp id (List.mem_cons_of_mem _)
theorem scanB_congr {s s' : Int} : ∀ {l : List Int}, (∀ x ∈ l, tb s x = tb s' x) → scanB s l = scanB s' l
  | [], _ => rfl
  | q :: r, h => by
    rw [scanB, scanB, h q (by simp), scanB_congr fun x hx => h x (List.mem_cons_of_mem _ hx)]
theorem app_near (t : List SVtx) (p : Int) (S : Obs) (T : Toks) : appX P false 48 (.sl .full [I p]) (t3 (nearR t p S).1) (nearR t p S).2 T = some (.sl (.own T.length) ((p :: nearOf t p).map I), (nearR t p S).2, T ++ [some 3]) := by
  have h1 := ty48.2.2.2.2
  have h2 := ty3.1
  have h3 := ty3.2.2.1
  have h4 := ty3.2.2.2
  have hn := @nearOf_len t p
  have key : ∀ l : List Int, l.length ≤ 96 → appA P 48 (.sl .full [I p]) (.sl .no (l.map I)) T = some (.sl (.own T.length) ((p :: l).map I), T ++ [some 3]) := fun l hl => by
    have hu : uni 1 [I p] = true := rfl
    simp only [appA, h1, h2, h3, h4]
    rw [if_pos ⟨by decide, rfl, uniI l, allI l, by simp; omega, by simp [maxLen]; omega⟩, if_pos hu]
    rfl
  unfold nearR
  by_cases hp : inP t p
  · rw [if_pos hp]
    by_cases h0 : nearOf t p = []
    · rw [if_pos h0]
      have := key [] (by simp)
      rw [h0]
      simp only [appX, Bool.false_eq_true, if_false, isSl, t3, t2, t1, t0, Bool.and_self, if_true]
      rw [show (AV.sl .no [] : AV) = .sl .no (([] : List Int).map I) from rfl, this]; rfl
    · rw [if_neg h0]
      have := key _ hn
      simp only [appX, Bool.false_eq_true, if_false, isSl, t3, t2, t1, t0, Bool.and_false, srcL, rowA]
      simp only [List.getElem?_append_right (Nat.le_refl _), Nat.sub_self, List.getElem?_cons_zero, if_true, List.length_map, Nat.le_refl]
      rw [List.take_of_length_le (by simp), this]; rfl
  · rw [if_neg hp]
    have h0 : nearOf t p = [] := by unfold nearOf; rw [if_neg hp]
    have := key [] (by simp)
    rw [h0]
    simp only [appX, Bool.false_eq_true, if_false, isSl, t3, t2, t1, t0, Bool.and_self, if_true]
    have e : appA P 48 (.sl .full [I p]) (.sl .nil []) T = appA P 48 (.sl .full [I p]) (.sl .no []) T := rfl
    rw [e, show (AV.sl .no [] : AV) = .sl .no (([] : List Int).map I) from rfl, this]; rfl
theorem near_app (o : Tok) (t : List SVtx) (p : Int) (ht : t.length ≤ 1000) (S : Obs) : Gs P XN 45 [.sl o (t.map encV), I p] S fun r S' => ∀ T, appX P false 48 (.sl .full [I p]) r S' T = some (.sl (.own T.length) ((p :: nearOf t p).map I), S', T ++ [some 3]) :=
  (near_gs o t p ht S).mono fun r S' h T => by rw [h.1, h.2]; exact app_near t p S T
theorem scan_drop {w : Int} {l : List Int} {i : Nat} {x : Int} (h : l[i]? = some x) : scanB w (l.drop i) = if tb w x = true then x else scanB w (l.drop (i + 1)) := by
  obtain ⟨hi, rfl⟩ := List.getElem?_eq_some_iff.mp h
  rw [List.drop_eq_getElem_cons hi, scanB]
theorem wake_g (t : List SVtx) (a : Int) (R : List SRr) (H : List (List Int)) (s i p : Int) (ht : t.length ≤ 64) (hs : U64 s) (hi : U64 i) (f : Fw R H) (hM : mayB t a R H s = true) (h0 : 0 ≤ p) (h1 : p < (R.length : Int)) : Gv P XN 15 [encRR t a R H s, U i, I p] (I (scanB (Go.bits .and .u64 i s) (p :: nearOf t p))) := by
  refine gv_of (lowN _ (by decide)) fun15 rfl ?_
  have n0 : ¬ p < 0 := by omega
  have n1 : ¬ (R.length : Int) ≤ p := by omega
  have hmay := runs_may_g lowN t a R H s ht hs f
  rw [hM] at hmay
  simp +decide only [Try.f15, encRR, go_sem, Nat.reduceAdd]
  refine WO_call rfl rfl rfl rfl rfl hmay ?_
  simp +decide only [go_sem, n0, n1, and_eq]
  refine WO_calls rfl rfl rfl rfl rfl rfl ((near_app .no t p (by omega) _).mono fun r S' h => ?_)
  have happ := h []
  have hlen := @nearOf_len t p
  clear h
  have hand := and_tb hi hs
  simp +decide only [go_sem, happ, and_eq, Nat.reduceAdd]
  change W P XN _ _ ⟨[_, _, _, _, _, _, _, _, U (Go.bits .and .u64 i s), _, _, _, _, _, _, _, _, _, _, _, _, _, _, _, _, _, _, _, _, _, _, _, _, _, _, _, _, _, _, _, _, _, _, _, _, _, _], _, _⟩ _
  generalize Go.bits .and .u64 i s = w at hand
  generalize hl : p :: nearOf t p = l
  have hll : l.length ≤ 97 := by rw [← hl, List.length_cons]; omega
  refine W_ind (fun k st => ∃ i : Nat, i + k = l.length ∧ FrIs 47 [(7, I (-1)), (8, U w), (35, .sl (.own 0) (l.map I)), (36, I l.length), (37, I i)] st.fr ∧ scanB w l = scanB w (l.drop i)) ?_ (n := l.length) ⟨0, by omega, ⟨rfl, rfl, rfl, by rw [← hl]; rfl, by rw [← hl]; rfl, rfl, trivial⟩, rfl⟩
  rintro k ⟨L', S, T⟩ ih ⟨i, hi, hF, hsc⟩
  obtain ⟨j, rfl⟩ := hF.ex
  have hw := wrap_nat i (by omega)
  simp +decide only [fr, jl, Nat.reduceAdd, go_sem]
  refine Wif_of (fun h => ?_) (fun h => ?_)
  · have hlt : i < l.length := by simpa using h
    obtain ⟨x, hx, hm⟩ := getE hlt
    rw [scan_drop hx] at hsc
    simp +decide only [go_sem, hx]
    refine WO_call rfl rfl rfl rfl rfl (has_g lowN hand.1 x) ?_
    simp +decide only [go_sem]
    refine Wif_of (fun h => ?_) (fun h => ?_)
    · rw [if_pos h] at hsc
      simp +decide only [go_sem]
      exact ⟨_, rfl, rfl, by rw [hsc]⟩
    · rw [if_neg (by rw [h]; decide)] at hsc
      simp +decide only [go_sem, hw]
      exact ih (k - 1) _ (by omega) ⟨i + 1, by omega, ⟨rfl, rfl, rfl, rfl, rfl, rfl, trivial⟩, hsc⟩
  · have hi' : i = l.length := by simp at h; omega
    subst hi'
    rw [List.drop_length] at hsc
    simp +decide only [go_sem]
    exact ⟨_, rfl, rfl, by rw [hsc]; rfl⟩
end Go.Proofs.Ytplpmelpoajpdaa.Ev
namespace Go.Proofs.Ytplpmelpoajpdaa.Ev
open Go Go.Proofs
open Go.RowKit (wrap64)
set_option linter.unusedVariables false
set_option linter.unusedSimpArgs false
set_option maxRecDepth 100000
set_option maxHeartbeats 4000000
theorem appK0 (a : List Int) (ha : a.length ≤ 100000) : appX P false 48 (.ms 0 0 0) (.sl .no (a.map I)) [.row true 0 1 3 []] [] = some (.sl (.own 0) (a.map I), [.dead], [some 3]) := by
  have h1 := ty48.2.2.2.2
  have h2 := ty3.1
  have h3 := ty3.2.2.1
  have h4 := ty3.2.2.2
  simp only [appX, isSl, Bool.false_eq_true, if_false, Bool.false_and, appK, rowA, List.getElem?_cons_zero, if_true, srcL, h1, h2, h3, h4]
  rw [if_pos ⟨by decide, rfl, uniI a, allI a, trivial, trivial, by simp, by simp; omega, by simp [maxLen]; omega⟩]
  rfl
theorem concat_g (a b : List Int) (ha : a.length ≤ 50000) (hb : b.length ≤ 50000) : Gv P XN 87 [.sl .no [L a, L b]] (L (a ++ b)) := by
  refine gv_of (lowN _ (by decide)) fun87 rfl ?_
  have e1 : IntKind.i64.wrap (0 + 1) = 1 := by decide
  have e2 : IntKind.i64.wrap (1 + 1) = 2 := by decide
  have w1 : IntKind.i64.wrap (0 + (a.length : Int)) = a.length := by rw [wrap64_of (by omega)]; omega
  have w2 : IntKind.i64.wrap ((a.length : Int) + (b.length : Int)) = ((a.length + b.length : Nat) : Int) := by rw [wrap64_of (by omega)]; omega
  have n1 : ¬ (a.length : Int) < 0 := by omega
  have n2 : ¬ ((a.length + b.length : Nat) : Int) < 0 := by omega
  simp +decide only [Try.f87, go_sem, Nat.reduceAdd]
  refine W_unroll ?_
  simp +decide only [Int.reduceToNat, go_sem, w1, n1, e1]
  refine W_unroll ?_
  simp +decide only [Int.reduceToNat, go_sem, w2, n2, e2]
  refine W_unroll ?_
  simp +decide only [Int.reduceToNat, go_sem]
  refine WO_calls rfl rfl rfl rfl rfl rfl ((grow_gs ((a.length + b.length : Nat) : Int) (by omega) _).mono fun r S' h => ?_)
  rcases h with ⟨hz, rfl, rfl⟩ | ⟨hz, rfl, rfl⟩
  · obtain rfl : a = [] := List.eq_nil_of_length_eq_zero (by omega)
    obtain rfl : b = [] := List.eq_nil_of_length_eq_zero (by omega)
    obtain ⟨v1, T1, happ1, hA1⟩ := app_ints (T := []) App.nil (l := []) [] .no (by simp)
    obtain ⟨v2, T2, happ2, hA2⟩ := app_ints hA1 [] .no (by simp)
    simp only [List.map_nil] at happ1 happ2
    simp +decide only [Int.reduceToNat, go_sem]
    refine W_unroll ?_
    simp +decide only [Int.reduceToNat, go_sem, happ1, e1]
    refine W_unroll ?_
    simp +decide only [Int.reduceToNat, go_sem, happ2, e2]
    refine W_unroll ?_
    simp +decide only [Int.reduceToNat, go_sem]
    obtain ⟨o, rfl⟩ := hA2.is
    exact ⟨_, rfl, rfl, rfl⟩
  · have hA1 : App P 3 [some 3] (.sl (.own 0) (a.map I)) (a.map I) := .inr (.inr ⟨0, rfl, rfl⟩)
    obtain ⟨v2, T2, happ2, hA2⟩ := app_ints hA1 b .no (by omega)
    have hk := appK0 a (by omega)
    simp +decide only [Int.reduceToNat, go_sem]
    refine W_unroll ?_
    simp +decide only [Int.reduceToNat, go_sem, hk, e1]
    refine W_unroll ?_
    simp +decide only [Int.reduceToNat, go_sem, happ2, e2]
    refine W_unroll ?_
    simp +decide only [Int.reduceToNat, go_sem]
    obtain ⟨o, rfl⟩ := hA2.is
    exact ⟨_, rfl, rfl, rfl⟩
theorem farOf_le {t : List SVtx} {a b : Int} : farOf t a b ≤ 3 := by
  unfold farOf
  split
  · have := farV_le t (vx t a) (vx t b); omega
  · decide
theorem vclos_g (t : List SVtx) (a : Int) (R : List SRr) (H : List (List Int)) (s p far q : Int) (ht : t.length ≤ 64) (f : Fw R H) (hq : 0 ≤ q) (hr : q < (R.length : Int)) (S : Obs)
    (h0 : S[0]? = some (.var false [encT t, I a, .sl .no (R.map encG), .sl .no (H.map L), U s])) (h1 : S[1]? = some (.var false [I p])) (h2 : S[2]? = some (.var false [I far])) :
    Gs P XN 59 [I q, .ptr 0 0, .ptr 1 0, .ptr 2 0] S fun r S' => r = B (!victP t R p far q) ∧ S' = S := by
  refine gs_of (rw := false) (kf := false) (lowN _ (by decide)) fun59 rfl ?_
  have e1 : R[q.toNat]? = some (rg R q) := by simp [rg, show q.toNat < R.length by omega]
  have l1 := f.rl _ (List.mem_of_getElem? e1)
  simp +decide only [Try.f59, go_sem, Nat.reduceAdd]
  refine W_draw hmx (by kernel_rfl) ?_
  simp +decide only [go_sem, Nat.reduceAdd, h0, h1, h2, hq, e1, encG]
  refine WO_call rfl rfl rfl rfl rfl (ring_all_g lowN (rg R q).f0 (rg R q).f1 (by omega)) ?_
  change WO P XN _ _ _ _ _ ⟨put _ _ (L (rAll (rg R q))), _, _⟩ _
  unfold victP
  simp +decide only [go_sem, Nat.reduceAdd]
  cases hz : (((rAll (rg R q)).length : Int) == 0)
  · have hz' : 0 < (rAll (rg R q)).length := by
      rcases Nat.eq_zero_or_pos (rAll (rg R q)).length with h | h
      · rw [h] at hz; exact absurd hz (by decide)
      · exact h
    simp +decide only [go_sem, Nat.reduceAdd, h0, h1, h2, encT]
    refine WO_call rfl rfl rfl rfl rfl (far_g lowN t p q (by omega)) ?_
    simp +decide only [go_sem, Nat.reduceAdd, h0, h1, h2]
    refine ⟨_, rfl, ?_, by simp [killIds]⟩
    rw [decide_eq_true hz', Bool.true_and]
    have hf := @farOf_le t p q
    have e : (!decide (farOf t p q ≤ far)) = decide ((if (3 : Int) < far then (3 : Int) else far) < farOf t p q) := by
      rw [← decide_not]
      refine decide_eq_decide.mpr ?_
      split <;> omega
    rw [e]
  · have hz' : ¬ 0 < (rAll (rg R q)).length := by have := eq_of_beq hz; omega
    simp +decide only [go_sem, Nat.reduceAdd]
    refine WO_not rfl ?_
    simp +decide only [go_sem, Nat.reduceAdd]
    refine ⟨_, rfl, ?_, by simp [killIds]⟩
    rw [decide_eq_false hz']; rfl
theorem vict_g (t : List SVtx) (a : Int) (R : List SRr) (H : List (List Int)) (s p far : Int) (ht : t.length ≤ 64) (hs : U64 s) (f : Fw R H) : Gv P XN 28 [encRR t a R H s, I p, I far] (L (victOf t a R H s p far)) := by
  refine gm_of (rw := false) (lowN _ (by decide)) fun28 rfl ?_
  unfold victOf
  simp +decide only [Try.f28, encRR, go_sem, Nat.reduceAdd]
  refine WO_call rfl rfl rfl rfl rfl (runs_may_g lowN t a R H s ht hs f) ?_
  cases hM : mayB t a R H s
  · simp +decide only [go_sem]
    exact ⟨_, rfl, rfl, rfl⟩
  have hm := may_iff.mp hM
  simp +decide only [go_sem, Nat.reduceAdd]
  refine WO_calls rfl rfl rfl rfl rfl rfl ((near_gs .no t p (by omega) _).mono fun r S' h => ?_)
  obtain ⟨rfl, rfl⟩ := h
  unfold nearR
  by_cases hp : inP t p
  · by_cases hn : nearOf t p = []
    · simp only [if_pos hp, hn, if_true, List.filter_nil]
      simp +decide only [go_sem, Nat.reduceAdd]
      refine WO_calls (g := 58) (cap := []) rfl rfl rfl rfl rfl rfl ((del0_g lowN .no 59 [.ptr 0 0, .ptr 1 0, .ptr 2 0] _ ⟨rfl, rfl, rfl, rfl, rfl, rfl⟩ rfl).mono fun r S' h => ?_)
      obtain ⟨rfl, J, rfl⟩ := h
      simp +decide only [go_sem, Nat.reduceAdd]
      exact ⟨_, rfl, rfl, rfl⟩
    · simp only [if_pos hp, if_neg hn]
      simp +decide only [go_sem, Nat.reduceAdd]
      have hlen := @nearOf_len t p
      have hdel := del_g lowN (nearOf t p) (by omega) 59 [.ptr 0 0, .ptr 1 0, .ptr 2 0] ([.var false [encT t, I a, .sl .no (R.map encG), .sl .no (H.map L), U s], .var false [I p], .var false [I far], .row true 0 1 3 ((nearOf t p).map I)]) (id := 3) (ver := 0) rfl (fun q => !victP t R p far q) ⟨rfl, rfl, rfl, rfl, rfl, rfl⟩ (fun q hq S1 _ hold => by
        have hqi := hm.inP.mp ((nearOf_mem hp).mp hq).1
        refine (vclos_g t a R H s p far q ht f hqi.1 hqi.2 S1 ?_ ?_ ?_).mono fun r S' h => ⟨h.1, [], by rw [h.2, List.append_nil]⟩
        · rw [hold 0 (by simp) (by decide)]; rfl
        · rw [hold 1 (by simp) (by decide)]; rfl
        · rw [hold 2 (by simp) (by decide)]; rfl)
      simp only [Bool.not_not] at hdel
      refine WO_calls (g := 58) (cap := []) rfl rfl rfl rfl rfl rfl (hdel.mono fun r S' h => ?_)
      obtain ⟨c, rfl, hS3, hcl, hck⟩ := h
      simp +decide only [go_sem, Nat.reduceAdd]
      have hle : (List.filter (victP t R p far) (nearOf t p)).length ≤ c.length := by rw [hcl]; exact List.length_filter_le _ _
      have hz : fz0 S' 0 (.ms 3 0 (List.filter (victP t R p far) (nearOf t p)).length) = .sl .no ((List.filter (victP t R p far) (nearOf t p)).map I) := by
        simp only [fz0, Nat.zero_le, if_true, rowA, hS3, List.length_map, hle]
        rw [← List.map_take, hck]
      refine ⟨_, rfl, ?_, ?_⟩
      · show d3 (fz3 S' 0 (rt [.ms 3 0 (List.filter (victP t R p far) (nearOf t p)).length])) = true
        rw [show fz3 S' 0 (rt [.ms 3 0 (List.filter (victP t R p far) (nearOf t p)).length]) = _ from hz]; rfl
      · show s3 (fz3 S' 0 (rt [.ms 3 0 (List.filter (victP t R p far) (nearOf t p)).length])) = _
        rw [show fz3 S' 0 (rt [.ms 3 0 (List.filter (victP t R p far) (nearOf t p)).length]) = _ from hz]; rfl
  · have hn : nearOf t p = [] := by unfold nearOf; rw [if_neg hp]
    simp only [if_neg hp, hn, List.filter_nil]
    simp +decide only [go_sem, Nat.reduceAdd]
    refine WO_calls (g := 58) (cap := []) rfl rfl rfl rfl rfl rfl ((del0_g lowN .nil 59 [.ptr 0 0, .ptr 1 0, .ptr 2 0] _ ⟨rfl, rfl, rfl, rfl, rfl, rfl⟩ rfl).mono fun r S' h => ?_)
    obtain ⟨rfl, J, rfl⟩ := h
    simp +decide only [go_sem, Nat.reduceAdd]
    exact ⟨_, rfl, rfl, rfl⟩
end Go.Proofs.Ytplpmelpoajpdaa.Ev
namespace Go.Proofs.Ytplpmelpoajpdaa.Ev
open Go Go.Proofs
open Go.RowKit (wrap64)
set_option linter.unusedVariables false
set_option linter.unusedSimpArgs false
set_option maxRecDepth 100000
set_option maxHeartbeats 4000000
structure Fo where
  R : List SRr
  H : List (List Int)
  g : Int
  w : Int
def ownOf (R : List SRr) (H : List (List Int)) (p : Int) : Fo := if (takeR (rg R p)).2 = 0 then ⟨R, H, 0, 0⟩ else ⟨R.set p.toNat (takeR (rg R p)).1, H, (takeR (rg R p)).2, if (rg R p).f0 = 0 then 2 else 1⟩
def rowOf1 (R : List SRr) (H : List (List Int)) (n : Int) : Fo := if hrow H n = [] then ⟨R, H, 0, 0⟩ else ⟨R, H.set n.toNat (hrow H n).tail, (hrow H n).headD 0, 3⟩
def encFo (t : List SVtx) (a : Int) (s : Int) (x : Fo) : AV := .tup [encRR t a x.R x.H s, I x.g, I x.w]
theorem own_g (t : List SVtx) (a : Int) (R : List SRr) (H : List (List Int)) (s p : Int) (f : Fw R H) (h0 : 0 ≤ p) (h1 : p < (R.length : Int)) : Gv P XN 79 [encRR t a R H s, I p] (encFo t a s (ownOf R H p)) := by
  refine gm_of (rw := false) (lowN _ (by decide)) fun79 rfl ?_
  have e1 : R[p.toNat]? = some (rg R p) := by simp [rg, show p.toNat < R.length by omega]
  have l1 := f.rl _ (List.mem_of_getElem? e1)
  have hr := f.r
  have hne : R ≠ [] := fun e => by rw [e] at h1; simp at h1; omega
  have htk := take_g (rg R p) (by omega)
  unfold encFo ownOf
  have key : ∀ w : Int, (w = if (rg R p).f0 = 0 then 2 else 1) → True := fun _ _ => trivial
  simp +decide only [Try.f79, encRR, go_sem, Nat.reduceAdd, h0, e1, encG]
  generalize hg : takeR (rg R p) = y at htk
  obtain ⟨x', g⟩ := y
  simp only at htk
  cases hz : ((rg R p).f0 != 0)
  · have hz' : (rg R p).f0 = 0 := by simpa using hz
    simp +decide only [go_sem, Nat.reduceAdd, h0, e1, encG]
    refine WO_call rfl rfl rfl rfl rfl htk ?_
    simp +decide only [go_sem, Nat.reduceAdd, wrc, splice, encG]
    cases hgz : (g == 0)
    · have hgz' : ¬ g = 0 := by simpa using hgz
      simp +decide only [go_sem, Nat.reduceAdd, wrc, splice, encG]
      refine WO_calls rfl rfl rfl rfl rfl rfl ((clG_gs .no R hne (by omega) _).mono fun r S' h => ?_)
      obtain ⟨rfl, rfl⟩ := h
      simp +decide only [go_sem, Nat.reduceAdd, wrc, splice, elM, h0, h1, e1, encG, killL, killA, isMs, msNd, ofCells, List.any_cons, List.any_nil, List.length_map, Nat.le_refl]
      refine ⟨_, rfl, ?_, ?_⟩
      · simp +decide only [go_sem, Nat.reduceAdd, List.length_map, List.length_set, Nat.le_refl, Nat.zero_le, encT]
      · simp +decide only [go_sem, Nat.reduceAdd, List.length_map, List.length_set, Nat.le_refl, Nat.zero_le, encT]
        rw [List.take_of_length_le (by simp), if_neg hgz', if_pos hz']
        simp only [encRR, List.map_set, encG]
    · have hgz' : g = 0 := by simpa using hgz
      simp +decide only [go_sem, Nat.reduceAdd, wrc, splice, encG, encT]
      exact ⟨_, rfl, rfl, by rw [if_pos hgz']; rfl⟩
  · have hz' : ¬ (rg R p).f0 = 0 := by simpa using hz
    simp +decide only [go_sem, Nat.reduceAdd, h0, e1, encG]
    refine WO_call rfl rfl rfl rfl rfl htk ?_
    simp +decide only [go_sem, Nat.reduceAdd, wrc, splice, encG]
    cases hgz : (g == 0)
    · have hgz' : ¬ g = 0 := by simpa using hgz
      simp +decide only [go_sem, Nat.reduceAdd, wrc, splice, encG]
      refine WO_calls rfl rfl rfl rfl rfl rfl ((clG_gs .no R hne (by omega) _).mono fun r S' h => ?_)
      obtain ⟨rfl, rfl⟩ := h
      simp +decide only [go_sem, Nat.reduceAdd, wrc, splice, elM, h0, h1, e1, encG, killL, killA, isMs, msNd, ofCells, List.any_cons, List.any_nil, List.length_map, Nat.le_refl]
      refine ⟨_, rfl, ?_, ?_⟩
      · simp +decide only [go_sem, Nat.reduceAdd, List.length_map, List.length_set, Nat.le_refl, Nat.zero_le, encT]
      · simp +decide only [go_sem, Nat.reduceAdd, List.length_map, List.length_set, Nat.le_refl, Nat.zero_le, encT]
        rw [List.take_of_length_le (by simp), if_neg hgz', if_neg hz']
        simp only [encRR, List.map_set, encG]
    · have hgz' : g = 0 := by simpa using hgz
      simp +decide only [go_sem, Nat.reduceAdd, wrc, splice, encG, encT]
      exact ⟨_, rfl, rfl, by rw [if_pos hgz']; rfl⟩
theorem row_g (t : List SVtx) (a : Int) (R : List SRr) (H : List (List Int)) (s n : Int) (f : Fw R H) (h0 : 0 ≤ n) (h1 : n < (H.length : Int)) : Gv P XN 81 [encRR t a R H s, I n] (encFo t a s (rowOf1 R H n)) := by
  refine gm_of (rw := false) (lowN _ (by decide)) fun81 rfl ?_
  have e1 : H[n.toNat]? = some (hrow H n) := by simp [hrow, show n.toNat < H.length by omega]
  have l1 := f.hl _ (List.mem_of_getElem? e1)
  have hr := f.h
  have hne : H ≠ [] := fun e => by rw [e] at h1; simp at h1; omega
  unfold encFo rowOf1
  simp +decide only [Try.f81, encRR, go_sem, Nat.reduceAdd, h0, e1]
  cases hz : hrow H n with
  | nil =>
    refine Wif_of (fun _ => ?_) (fun h => absurd h (by decide))
    simp +decide only [go_sem, Nat.reduceAdd, wrc, splice, encT]
    exact ⟨_, rfl, rfl, rfl⟩
  | cons g l =>
    rw [hz] at l1
    have l2 : l.length ≤ 499 := by simp at l1; omega
    have hz0 : (((g :: l).length : Int) == 0) = false := by
      cases e : (((g :: l).length : Int) == 0)
      · rfl
      · have := eq_of_beq e; rw [List.length_cons] at this; omega
    have hb1 : (1 : Int) ≤ ((g :: l).length : Int) := by rw [List.length_cons]; omega
    have hu : uni 1 (List.map I (g :: l)) = true := uniI _
    have htk : List.take l.length (List.map I l) = List.map I l := List.take_of_length_le (by simp)
    simp only [List.map_cons, List.length_cons] at hu hb1 hz0
    simp +decide only [hz0, go_sem, Nat.reduceAdd, wrc, splice, List.length_cons]
    refine WO_calls rfl rfl rfl rfl rfl rfl ((clH_gs .no H hne (by omega) _).mono fun r S' h => ?_)
    obtain ⟨rfl, rfl⟩ := h
    simp +decide only [go_sem, Nat.reduceAdd, wrc, splice]
    refine W_drawL ⟨true, none, some 3, [88]⟩ hmx (by kernel_rfl) ?_
    simp +decide only [go_sem, Nat.reduceAdd, mdOK, rdOK, rdId, wrOK, slA, hb1, hu, Int.reduceToNat, htk]
    refine WO_calln (b := 3) rfl rfl rfl rfl (Nat.le_refl 3) rfl rfl ((clI_gs .no l (by omega) _).mono fun r S' h => ?_)
    rcases h with ⟨rfl, rfl, rfl⟩ | ⟨hne2, rfl, rfl⟩
    · refine ⟨⟨[], rfl⟩, ?_⟩
      simp +decide only [go_sem, Nat.reduceAdd, mdOK, rdOK, rdId, wrOK, wrc, splice, elM, h0, h1, e1, killL, killA, isMs, msNd, ofCells, List.any_cons, List.any_nil, List.length_map, Nat.le_refl]
      refine W_drawL ⟨true, some 1, none, []⟩ hmx (by kernel_rfl) ?_
      simp +decide only [go_sem, Nat.reduceAdd, mdOK, rdOK, rdId, wrOK, wrc, splice, encT, Int.reduceToNat]
      refine ⟨_, rfl, ?_, ?_⟩
      · simp +decide only [go_sem, Nat.reduceAdd, List.length_map, List.length_set, Nat.le_refl, Nat.zero_le, encT]
      · simp +decide only [go_sem, Nat.reduceAdd, List.length_map, List.length_set, Nat.le_refl, Nat.zero_le, encT]
        rw [List.take_of_length_le (by simp)]
        simp only [encRR, List.map_set]; rfl
    · refine ⟨⟨_, rfl⟩, ?_⟩
      simp +decide only [go_sem, Nat.reduceAdd, mdOK, rdOK, rdId, wrOK, wrc, splice, elM, h0, h1, e1, killL, killA, isMs, msNd, ofCells, List.any_cons, List.any_nil, List.length_map, Nat.le_refl, Nat.zero_le]
      refine W_drawL ⟨true, some 1, none, []⟩ hmx (by kernel_rfl) ?_
      simp +decide only [go_sem, Nat.reduceAdd, mdOK, rdOK, rdId, wrOK, wrc, splice, encT, Int.reduceToNat]
      refine ⟨_, rfl, ?_, ?_⟩
      · simp +decide only [go_sem, Nat.reduceAdd, List.length_map, List.length_set, Nat.le_refl, Nat.zero_le, encT]
      · simp +decide only [go_sem, Nat.reduceAdd, List.length_map, List.length_set, Nat.le_refl, Nat.zero_le, encT]
        rw [List.take_of_length_le (by simp), htk]
        simp only [encRR, List.map_set]; rfl
theorem own_c (t : List SVtx) (a : Int) (R : List SRr) (H : List (List Int)) (s p : Int) (f : Fw R H) (h0 : 0 ≤ p) (h1 : p < (R.length : Int)) (S : Obs) {i j : Nat} (e1 : S[i]? = some (.var false [encT t, I a, .sl .no (R.map encG), .sl .no (H.map L), U s])) (e2 : S[j]? = some (.var false [I p])) :
    Gs P XN 78 [.ptr i 0, .ptr j 0] S fun r S' => r = encFo t a s (ownOf R H p) ∧ ∃ J, S' = S ++ J := by
  refine gs_of (rw := false) (kf := false) (lowN _ (by decide)) fun78 rfl ?_
  have h := own_g t a R H s p f h0 h1
  have hg : ∀ m, (S ++ m)[i]? = some (.var false [encT t, I a, .sl .no (R.map encG), .sl .no (H.map L), U s]) := fun m => gOld e1
  have hg2 : ∀ m, (S ++ m)[j]? = some (.var false [I p]) := fun m => gOld e2
  simp +decide only [Try.f78, go_sem, Nat.reduceAdd, hg, hg2, encT]
  refine WO_call rfl rfl rfl rfl rfl h ?_
  simp +decide only [go_sem, Nat.reduceAdd, encFo, encRR, wrc, splice, gA0, sA0, encT]
  refine ⟨_, rfl, rfl, _, rfl⟩
theorem row_c (t : List SVtx) (a : Int) (R : List SRr) (H : List (List Int)) (s p : Int) (f : Fw R H) (h0 : 0 ≤ p) (h1 : p < (H.length : Int)) (S : Obs) {i j : Nat} (e1 : S[i]? = some (.var false [encT t, I a, .sl .no (R.map encG), .sl .no (H.map L), U s])) (e2 : S[j]? = some (.var false [I p])) :
    Gs P XN 80 [.ptr i 0, .ptr j 0] S fun r S' => r = encFo t a s (rowOf1 R H p) ∧ ∃ J, S' = S ++ J := by
  refine gs_of (rw := false) (kf := false) (lowN _ (by decide)) fun80 rfl ?_
  have h := row_g t a R H s p f h0 h1
  have hg : ∀ m, (S ++ m)[i]? = some (.var false [encT t, I a, .sl .no (R.map encG), .sl .no (H.map L), U s]) := fun m => gOld e1
  have hg2 : ∀ m, (S ++ m)[j]? = some (.var false [I p]) := fun m => gOld e2
  simp +decide only [Try.f80, go_sem, Nat.reduceAdd, hg, hg2, encT]
  refine WO_call rfl rfl rfl rfl rfl h ?_
  simp +decide only [go_sem, Nat.reduceAdd, encFo, encRR, wrc, splice, gA0, sA0, encT]
  refine ⟨_, rfl, rfl, _, rfl⟩
theorem tyF : tsz P 93 = some 1 ∧ tagg P 93 = some false ∧ tzero P 93 = some [.v .nilFunc] := by and_intros <;> kernel_rfl
theorem turn_g (n : Int) : Gv P XN 82 [I n] (B (n.tmod 61 == 0)) := by
  refine gv_of (lowN _ (by decide)) fun82 rfl ?_
  have h : ¬ (61 : Int) = 0 := by decide
  simp +decide only [Try.f82, go_sem, h]
  exact ⟨_, rfl, rfl, rfl⟩
def localOf (t : List SVtx) (a : Int) (R : List SRr) (H : List (List Int)) (s p : Int) : Fo :=
  if (mayB t a R H s && tb s p) = true then (if (ownOf R H p).g = 0 then (if (rowOf1 R H (nodeOf t p)).g = 0 then ⟨R, H, 0, 0⟩ else rowOf1 R H (nodeOf t p)) else ownOf R H p) else ⟨R, H, 0, 0⟩
theorem local_g (t : List SVtx) (a : Int) (R : List SRr) (H : List (List Int)) (s p : Int) (ht : t.length ≤ 64) (hs : U64 s) (f : Fw R H) : Gv P XN 49 [encRR t a R H s, I p, I 1] (encFo t a s (localOf t a R H s p)) := by
  refine gm_of (rw := true) (lowN _ (by decide)) fun49 rfl ?_
  have tt := turn_g 1
  rw [show ((1 : Int).tmod 61 == 0) = false from rfl] at tt
  unfold localOf
  simp +decide only [Try.f49, encRR, go_sem, Nat.reduceAdd]
  refine WO_call rfl rfl rfl rfl rfl (runs_may_g lowN t a R H s ht hs f) ?_
  cases hM : mayB t a R H s
  · simp +decide only [go_sem, Nat.reduceAdd]
    refine WO_not rfl ?_
    simp +decide only [go_sem, Nat.reduceAdd, wrc, splice]
    exact ⟨_, rfl, rfl, rfl⟩
  simp +decide only [go_sem, Nat.reduceAdd]
  refine WO_call rfl rfl rfl rfl rfl (has_g lowN hs p) ?_
  cases hO : tb s p
  · simp +decide only [go_sem, Nat.reduceAdd, wrc, splice]
    exact ⟨_, rfl, rfl, rfl⟩
  have hm := may_iff.mp hM
  have hp := hm.inP.mpr ⟨tb_nn hO, hm.on p hO⟩
  have hp2 := hm.inP.mp hp
  have hn2 := node_at hp
  rw [← hm.h] at hn2
  simp +decide only [go_sem, Nat.reduceAdd]
  refine WO_call rfl rfl rfl rfl rfl (node_g lowN t p (by omega)) ?_
  simp +decide only [go_sem, Nat.reduceAdd, wrc, splice, rwO, lit, qO, usesT, appsT, isT, Nat.reduceBEq, stf, List.any_cons, List.any_nil, Option.isSome_some, tyF, capOk]
  refine WO_call rfl rfl rfl rfl rfl tt ?_
  simp +decide only [go_sem, Nat.reduceAdd]
  have e1 : IntKind.i64.wrap (0 + 1) = 1 := by decide
  have e2 : IntKind.i64.wrap (1 + 1) = 2 := by decide
  refine W_unroll ?_
  simp +decide only [go_sem, Nat.reduceAdd, Int.reduceToNat, elM, tyF]
  refine WO_calls (g := 78) (cap := [.ptr 0 0, .ptr 1 0]) rfl rfl rfl rfl rfl rfl ?_
  refine (own_c t a R H s p f hp2.1 hp2.2 _ (i := 0) (j := 1) rfl rfl).mono fun r S' h => ?_
  obtain ⟨rfl, J, rfl⟩ := h
  unfold encFo
  cases hg : (ownOf R H p).g == 0
  · have hg' : ¬ (ownOf R H p).g = 0 := by simpa using hg
    have hg2 : ((ownOf R H p).g != 0) = true := by simpa using hg'
    simp +decide only [go_sem, Nat.reduceAdd, wrc, splice, encRR, hg2]
    refine ⟨_, rfl, ?_, ?_⟩
    · simp +decide only [go_sem, Nat.reduceAdd, encT]
    · simp +decide only [go_sem, Nat.reduceAdd, encT]
      rw [if_neg hg']
  · have hg' : (ownOf R H p).g = 0 := by simpa using hg
    have hg2 : ((ownOf R H p).g != 0) = false := by rw [hg']; rfl
    simp +decide only [go_sem, Nat.reduceAdd, wrc, splice, encRR, hg2, e1]
    generalize J ++ [Ob.var false [encT t, I a, .sl .no ((ownOf R H p).R.map encG), .sl .no ((ownOf R H p).H.map L), U s]] = K
    refine W_unroll ?_
    simp +decide only [go_sem, Nat.reduceAdd, Int.reduceToNat, elM, tyF]
    refine WO_calls (g := 80) (cap := [.ptr 0 0, .ptr 3 0]) rfl rfl rfl rfl rfl rfl ?_
    refine (row_c t a R H s (nodeOf t p) f hn2.1 hn2.2 _ (i := 0) (j := 3) rfl rfl).mono fun r S' h => ?_
    obtain ⟨rfl, J2, rfl⟩ := h
    simp only [List.cons_append]
    generalize K ++ J2 = K2
    unfold encFo
    cases hr : (rowOf1 R H (nodeOf t p)).g == 0
    · have hr' : ¬ (rowOf1 R H (nodeOf t p)).g = 0 := by simpa using hr
      have hr2 : ((rowOf1 R H (nodeOf t p)).g != 0) = true := by simpa using hr'
      simp +decide only [go_sem, Nat.reduceAdd, wrc, splice, encRR, hr2]
      refine ⟨_, rfl, ?_, ?_⟩
      · simp +decide only [go_sem, Nat.reduceAdd, encT]
      · simp +decide only [go_sem, Nat.reduceAdd, encT]
        rw [if_pos hg', if_neg hr']
    · have hr' : (rowOf1 R H (nodeOf t p)).g = 0 := by simpa using hr
      have hr2 : ((rowOf1 R H (nodeOf t p)).g != 0) = false := by rw [hr']; rfl
      simp +decide only [go_sem, Nat.reduceAdd, wrc, splice, encRR, hr2, e2]
      refine W_unroll ?_
      simp +decide only [go_sem, Nat.reduceAdd, Int.reduceToNat, wrc, splice, encT]
      refine ⟨_, rfl, rfl, ?_⟩
      rw [if_pos hg', if_pos hr']
      rfl
end Go.Proofs.Ytplpmelpoajpdaa.Ev
namespace Go.Proofs.Ytplpmelpoajpdaa.Ev
open Go Go.Proofs
open Go.RowKit (wrap64)
set_option linter.unusedVariables false
set_option linter.unusedSimpArgs false
set_option maxRecDepth 100000
set_option maxHeartbeats 4000000
def encSto (t : List SVtx) (a : Int) (s : Int) (x : Sto) : AV := .tup [encRR t a x.R x.H s, I x.g, I x.d]
theorem halfR_ne {x : SRr} (h : rAll x ≠ []) : (halfR x).2 ≠ [] := by
  obtain ⟨n, l⟩ := x
  unfold halfR
  by_cases hl : l = []
  · subst hl
    have hn : ¬ n = 0 := fun e => h (by subst e; rfl)
    rw [if_pos rfl]
    simp [hn]
  · rw [if_neg hl]
    have h0 : 0 < l.length := by cases l <;> simp at hl ⊢
    intro e
    have h1 : (l.take ((l.length + 1) / 2)).length = 0 := by rw [show l.take ((l.length + 1) / 2) = [] from e]; rfl
    rw [List.length_take] at h1; omega
theorem halfR_len {x : SRr} : (halfR x).2.length ≤ x.f1.length + 1 ∧ (halfR x).1.f1.length ≤ x.f1.length := by
  unfold halfR
  by_cases hl : x.f1 = []
  · rw [if_pos hl]
    by_cases hn : x.f0 = 0
    · simp [hn]
    · simp [hn]
  · rw [if_neg hl]; simp; omega
theorem stake_g (t : List SVtx) (a : Int) (R : List SRr) (H : List (List Int)) (s p q : Int) (ht : t.length ≤ 64) (f : Fw R H) (ha : 0 ≤ a) (hp : inP t p) (p0 : 0 ≤ p) (p1 : p < (R.length : Int)) (q0 : 0 ≤ q) (q1 : q < (R.length : Int)) (n0 : 0 ≤ nodeOf t p) (n1 : nodeOf t p < (H.length : Int)) (hne : rAll (rg R q) ≠ []) :
    Gv P XN 50 [encRR t a R H s, I p, I q] (encSto t a s (takeOf t a R H p q)) := by
  refine gm_of (rw := false) (lowN _ (by decide)) fun50 rfl ?_
  have eq : R[q.toNat]? = some (rg R q) := by simp [rg, show q.toNat < R.length by omega]
  have ep : R[p.toNat]? = some (rg R p) := by simp [rg, show p.toNat < R.length by omega]
  have en : H[(nodeOf t p).toNat]? = some (hrow H (nodeOf t p)) := by simp [hrow, show (nodeOf t p).toNat < H.length by omega]
  have lq := f.rl _ (List.mem_of_getElem? eq)
  have ln := f.hl _ (List.mem_of_getElem? en)
  have hr := f.r
  have hh := f.h
  have hR : R ≠ [] := fun e => by rw [e] at p1; simp at p1; omega
  have hH : H ≠ [] := fun e => by rw [e] at n1; simp at n1; omega
  have hhf := half_g (rg R q) (by omega)
  have hb := halfR_ne hne
  have hbl := halfR_len (x := rg R q)
  have hnd := node_g lowN t p (by omega)
  have hfr := far_g lowN t p q (by omega)
  unfold encSto takeOf
  generalize hrow H (nodeOf t p) = hn at *
  generalize nodeOf t p = nd at *
  generalize farOf t p q = fd at *
  generalize halfR (rg R q) = y at *
  obtain ⟨x', b⟩ := y
  simp only at hhf hb hbl ⊢
  obtain ⟨g, o, rfl⟩ := List.exists_cons_of_ne_nil hb
  have hol : o.length ≤ 500 := by have := hbl.1; simp at this; omega
  have hb1 : (1 : Int) ≤ ((g :: o).length : Int) := by rw [List.length_cons]; omega
  have hu : uni 1 (List.map I (g :: o)) = true := uniI _
  have htk : List.take o.length (List.map I o) = List.map I o := List.take_of_length_le (by simp)
  simp only [List.map_cons, List.length_cons] at hu hb1
  have hk : (if a < (o.length : Int) then a else (o.length : Int)) = ((min o.length a.toNat : Nat) : Int) := by split <;> omega
  have hk2 : o.take a.toNat = o.take (min o.length a.toNat) := by
    by_cases h : a.toNat ≤ o.length
    · rw [Nat.min_eq_right h]
    · rw [Nat.min_eq_left (by omega), List.take_length, List.take_of_length_le (by omega)]
  have hk3 : o.drop a.toNat = o.drop (min o.length a.toNat) := by
    by_cases h : a.toNat ≤ o.length
    · rw [Nat.min_eq_right h]
    · rw [Nat.min_eq_left (by omega), List.drop_length, List.drop_eq_nil_of_le (by omega)]
  have hkl : min o.length a.toNat ≤ o.length := Nat.min_le_left _ _
  rw [List.tail_cons, List.headD_cons, hk2, hk3]
  generalize min o.length a.toNat = k at *
  have k0 : (0 : Int) ≤ (k : Int) := by omega
  have k1 : (k : Int) ≤ (o.length : Int) := by omega
  have hcc := concat_g hn (o.drop k) (by omega) (by simp; omega)
  have hdl : List.drop k (List.take o.length (List.map I o)) = (o.drop k).map I := by rw [htk, List.map_drop]
  have hdl2 : List.drop k (List.map I o) = (o.drop k).map I := by rw [List.map_drop]
  have htl2 : List.take k (List.map I o) = (o.take k).map I := by rw [List.map_take]
  have huo : uni 1 (List.map I o) = true := uniI _
  simp +decide only [Try.f50, encRR, go_sem, Nat.reduceAdd, q0, eq, encG]
  refine WO_call rfl rfl rfl rfl rfl hhf ?_
  simp +decide only [go_sem, Nat.reduceAdd, wrc, splice, encG]
  refine W_drawL ⟨true, none, some 3, [85, 86]⟩ hmx (by kernel_rfl) ?_
  simp +decide only [go_sem, Nat.reduceAdd, mdOK, rdOK, rdId, wrOK]
  refine WO_calln (b := 3) rfl rfl rfl rfl (Nat.le_refl 3) rfl rfl ((clG_gs .no R hR (by omega) _).mono fun r S' h => ?_)
  obtain ⟨rfl, rfl⟩ := h
  refine ⟨⟨_, rfl⟩, ?_⟩
  simp +decide only [go_sem, Nat.reduceAdd, mdOK, rdOK, rdId, wrOK]
  refine WO_calln (b := 3) rfl rfl rfl rfl (Nat.le_succ 3) rfl rfl ((clH_gs .no H hH (by omega) _).mono fun r S' h => ?_)
  obtain ⟨rfl, rfl⟩ := h
  refine ⟨⟨_, rfl⟩, ?_⟩
  simp +decide only [go_sem, Nat.reduceAdd, mdOK, rdOK, rdId, wrOK, wrc, splice, elM, q0, q1, eq, encG, killL, killA, isMs, msNd, ofCells, List.any_cons, List.any_nil, List.length_map, Nat.le_refl, slA, hb1, hu, Int.reduceToNat, htk, hk]
  have hfold : (R.map encG).set q.toNat (.agg [I x'.f0, .sl .no (x'.f1.map I)]) = (R.set q.toNat x').map encG := by rw [List.map_set]; rfl
  simp only [hfold]
  have hrl : (R.set q.toNat x').length = R.length := by simp
  generalize R.set q.toNat x' = R1 at hrl
  have ep1 : R1[p.toNat]? = some (rg R1 p) := by simp [rg, show p.toNat < R1.length by omega]
  refine W_drawM true hmx (by kernel_rfl) ?_
  simp +decide only [go_sem, Nat.reduceAdd, mdOK, rdOK, rdId, wrOK, wrc, splice, elM, p0, p1, ep1, encG, killL, killA, isMs, msNd, ofCells, List.any_cons, List.any_nil, List.length_map, Nat.le_refl, slA, hrl, fillA, places, k0, k1, huo, hu]
  refine WO_call rfl rfl rfl rfl rfl hnd ?_
  simp +decide only [go_sem, Nat.reduceAdd]
  refine W_drawM true hmx (by kernel_rfl) ?_
  simp +decide only [go_sem, Nat.reduceAdd, mdOK, rdOK, rdId, wrOK, wrc, splice, elM, n0, n1, en, encG, killL, killA, isMs, msNd, ofCells, List.any_cons, List.any_nil, List.length_map, Nat.le_refl, slA, k0, k1, huo, hdl, hdl2]
  refine WO_call rfl rfl rfl rfl rfl hcc ?_
  simp +decide only [go_sem, Nat.reduceAdd, mdOK, rdOK, rdId, wrOK, wrc, splice, elM, n0, n1, en, encG, killL, killA, isMs, msNd, ofCells, List.any_cons, List.any_nil, List.length_map, Nat.le_refl]
  refine W_drawL ⟨true, some 1, none, []⟩ hmx (by kernel_rfl) ?_
  simp +decide only [go_sem, Nat.reduceAdd, mdOK, rdOK, rdId, wrOK, wrc, splice, encT, Int.reduceToNat]
  refine WO_call rfl rfl rfl rfl rfl hfr ?_
  simp +decide only [go_sem, Nat.reduceAdd, mdOK, rdOK, rdId, wrOK, wrc, splice, encT, Int.reduceToNat]
  refine ⟨_, rfl, ?_, ?_⟩
  · simp +decide only [go_sem, Nat.reduceAdd, List.length_map, List.length_set, Nat.le_refl, Nat.zero_le, encT, hrl]
  · simp +decide only [go_sem, Nat.reduceAdd, List.length_map, List.length_set, Nat.le_refl, Nat.zero_le, encT, hrl]
    have t1 : ∀ i x, List.take R.length ((R1.map encG).set i x) = (R1.map encG).set i x := fun i x => List.take_of_length_le (by simp [hrl])
    have t2 : ∀ i x, List.take H.length ((H.map L).set i x) = (H.map L).set i x := fun i x => List.take_of_length_le (by simp)
    simp only [t1, t2, encRR, List.map_set, encG, htl2]
theorem srow_g (t : List SVtx) (a : Int) (R : List SRr) (H : List (List Int)) (s p : Int) (ht : t.length ≤ 64) (f : Fw R H) (hp : inP t p) (n0 : 0 ≤ nodeOf t p) (n1 : nodeOf t p < (H.length : Int)) :
    Gv P XN 51 [encRR t a R H s, I p] (encSto t a s (rowOfS t R H p)) := by
  refine gm_of (rw := false) (lowN _ (by decide)) fun51 rfl ?_
  have hh := f.h
  have hH : H ≠ [] := fun e => by rw [e] at n1; simp at n1; omega
  have hnd := node_g lowN t p (by omega)
  unfold encSto rowOfS
  obtain ⟨nd, hnde⟩ : ∃ nd : Nat, nodeOf t p = nd := ⟨(nodeOf t p).toNat, by omega⟩
  rw [hnde] at hnd n1 ⊢
  rw [Int.toNat_natCast]
  simp +decide only [Try.f51, encRR, go_sem, Nat.reduceAdd]
  refine W_draw hmx (by kernel_rfl) ?_
  simp +decide only [go_sem, Nat.reduceAdd]
  refine WO_call rfl rfl rfl rfl rfl hnd ?_
  simp +decide only [go_sem, Nat.reduceAdd]
  refine W_ind (fun m st => ∃ k : Nat, k + m = H.length ∧ 1 ≤ k ∧ FrIs 53 [(2, .ptr 0 0), (4, .ptr 1 0), (7, I H.length), (8, I nd), (9, I k)] st.fr ∧ st.S = [.var false [encT t, I a, .sl .no (R.map encG), .sl .no (H.map L), U s], .var false [.sl .nil [], I 0, .sl .nil [], .sl .nil [], U 0]] ∧ st.T = [] ∧ scanRow H nd (H.length - 1) 1 = scanRow H nd m k) ?_ (n := H.length - 1) ⟨1, by omega, Nat.le_refl 1, ⟨rfl, rfl, rfl, rfl, rfl, rfl, trivial⟩, rfl, rfl, rfl⟩
  rintro m ⟨L', S, T⟩ ih ⟨k, hk, hk1, hF, rfl, rfl, hsc⟩
  obtain ⟨j, rfl⟩ := hF.ex
  have hw := wrap_nat k (by omega)
  simp +decide only [fr, jl, Nat.reduceAdd, go_sem]
  refine Wif_of (fun h => ?_) (fun h => ?_)
  · have hlt : k < H.length := by simpa using h
    obtain ⟨m, rfl⟩ : ∃ x, m = x + 1 := ⟨m - 1, by omega⟩
    have hw2 : IntKind.i64.wrap ((nd : Int) + (k : Int)) = ((nd + k : Nat) : Int) := wrap64_of (by omega)
    have hmd : Int.tmod ((nd + k : Nat) : Int) (H.length : Int) = (((nd + k) % H.length : Nat) : Int) := rfl
    have hx0 : (nd + k) % H.length < H.length := Nat.mod_lt _ (by omega)
    have hz0 : ¬ (H.length : Int) = 0 := by omega
    rw [scanRow] at hsc
    generalize (nd + k) % H.length = x at *
    have ex := hrow_at hx0
    have l1 := f.hl _ (List.mem_of_getElem? ex)
    simp +decide only [go_sem, Nat.reduceAdd, hw2, hz0, hmd, ex]
    cases hz : hrow H (x : Int) with
    | nil =>
      rw [hz] at hsc
      refine Wif_of (fun h => absurd h (by decide)) (fun _ => ?_)
      simp +decide only [go_sem, hw]
      exact ih m _ (by omega) ⟨k + 1, by omega, by omega, ⟨rfl, rfl, rfl, rfl, rfl, rfl, trivial⟩, rfl, rfl, hsc⟩
    | cons g l =>
      clear ih
      rw [hz, if_neg (by simp)] at hsc
      rw [hz] at l1
      have l2 : l.length ≤ 499 := by simp at l1; omega
      have hb0 : (0 : Int) < ((g :: l).length : Int) := by rw [List.length_cons]; omega
      have hb1 : (1 : Int) ≤ ((g :: l).length : Int) := by rw [List.length_cons]; omega
      have hu : uni 1 (List.map I (g :: l)) = true := uniI _
      have htk : List.take l.length (List.map I l) = List.map I l := List.take_of_length_le (by simp)
      have hi1 : (x : Int) < (H.length : Int) := by omega
      simp only [List.map_cons, List.length_cons] at hu hb1 hb0
      have t2 : ∀ i x, List.take H.length ((H.map L).set i x) = (H.map L).set i x := fun i x => List.take_of_length_le (by simp)
      simp +decide only [List.length_cons, hb0, go_sem, Nat.reduceAdd, encT]
      refine WO_calls rfl rfl rfl rfl rfl rfl ((clH_gs .no H hH (by omega) _).mono fun r S' h => ?_)
      obtain ⟨rfl, rfl⟩ := h
      simp +decide only [go_sem, Nat.reduceAdd, wrc, splice]
      refine W_drawL ⟨true, none, some 3, [88]⟩ hmx (by kernel_rfl) ?_
      simp +decide only [go_sem, Nat.reduceAdd, mdOK, rdOK, rdId, wrOK, slA, hb1, hu, Int.reduceToNat, htk]
      refine WO_calln (b := 3) rfl rfl rfl rfl (Nat.le_refl 3) rfl rfl ((clI_gs .no l (by omega) _).mono fun r S' h => ?_)
      rcases h with ⟨rfl, rfl, rfl⟩ | ⟨hne2, rfl, rfl⟩
      · refine ⟨⟨[], rfl⟩, ?_⟩
        simp +decide only [go_sem, Nat.reduceAdd, mdOK, rdOK, rdId, wrOK, wrc, splice, elM, hi1, ex, killL, killA, isMs, msNd, ofCells, List.any_cons, List.any_nil, List.length_map, Nat.le_refl]
        refine W_drawL ⟨true, some 1, none, []⟩ hmx (by kernel_rfl) ?_
        simp +decide only [go_sem, Nat.reduceAdd, mdOK, rdOK, rdId, wrOK, wrc, splice, encT, Int.reduceToNat]
        refine ⟨_, rfl, ?_, ?_⟩
        · simp +decide only [go_sem, Nat.reduceAdd, List.length_map, List.length_set, Nat.le_refl, Nat.zero_le, encT]
        · simp +decide only [go_sem, Nat.reduceAdd, List.length_map, List.length_set, Nat.le_refl, Nat.zero_le, encT, hsc, hz]
          simp only [t2, encRR, List.map_set]; rfl
      · refine ⟨⟨_, rfl⟩, ?_⟩
        simp +decide only [go_sem, Nat.reduceAdd, mdOK, rdOK, rdId, wrOK, wrc, splice, elM, hi1, ex, killL, killA, isMs, msNd, ofCells, List.any_cons, List.any_nil, List.length_map, Nat.le_refl, Nat.zero_le]
        refine W_drawL ⟨true, some 1, none, []⟩ hmx (by kernel_rfl) ?_
        simp +decide only [go_sem, Nat.reduceAdd, mdOK, rdOK, rdId, wrOK, wrc, splice, encT, Int.reduceToNat]
        refine ⟨_, rfl, ?_, ?_⟩
        · simp +decide only [go_sem, Nat.reduceAdd, List.length_map, List.length_set, Nat.le_refl, Nat.zero_le, encT]
        · simp +decide only [go_sem, Nat.reduceAdd, List.length_map, List.length_set, Nat.le_refl, Nat.zero_le, encT, hsc, hz]
          simp only [t2, htk, encRR, List.map_set]; rfl
  · have hm : m = 0 := by simp at h; omega
    subst hm
    simp +decide only [go_sem, Nat.reduceAdd, wrc, splice, encT]
    exact ⟨_, rfl, rfl, by rw [hsc]; rfl⟩
theorem local_z {t : List SVtx} {a : Int} {R : List SRr} {H : List (List Int)} {s p : Int} (hm : May t a R H s) (ho : tb s p = true) (f : Fw R H) : ((localOf t a R H s p).g = 0) ↔ rAll (rg R p) = [] ∧ hrow H (nodeOf t p) = [] := by
  have hp := hm.inP.mpr ⟨tb_nn ho, hm.on p ho⟩
  obtain ⟨h0, e1, m1, n0, e2, m2⟩ := inP_at hm hp
  have pos1 : ∀ x ∈ rAll (rg R p), 1 ≤ x := fun x hx => hm.pos x (List.mem_append_left _ (List.mem_flatMap.mpr ⟨_, m1, hx⟩))
  have pos2 : ∀ x ∈ hrow H (nodeOf t p), 1 ≤ x := fun x hx => hm.pos x (List.mem_append_right _ (List.mem_flatten.mpr ⟨_, m2, hx⟩))
  have o1 : (ownOf R H p).g = 0 ↔ rAll (rg R p) = [] := by
    unfold ownOf takeR rAll ringAll at *
    by_cases hn : (rg R p).f0 = 0
    · rw [if_pos hn] at pos1 ⊢
      rw [if_pos hn]
      cases hl : (rg R p).f1 with
      | nil => simp [hn]
      | cons g l =>
        rw [hl] at pos1
        have := pos1 g (by simp)
        have hg : ¬ g = 0 := by omega
        simp [hg, hn]
    · rw [if_neg hn, if_neg hn]
      simp [hn]
  have o2 : (rowOf1 R H (nodeOf t p)).g = 0 ↔ hrow H (nodeOf t p) = [] := by
    unfold rowOf1
    cases hl : hrow H (nodeOf t p) with
    | nil => simp
    | cons g l =>
      rw [hl] at pos2
      have := pos2 g (by simp)
      have hg : ¬ g = 0 := by omega
      simp [hg]
  unfold localOf
  rw [if_pos (by rw [may_iff.mpr hm, ho]; rfl)]
  by_cases h1 : (ownOf R H p).g = 0
  · rw [if_pos h1]
    by_cases h2 : (rowOf1 R H (nodeOf t p)).g = 0
    · rw [if_pos h2]; exact ⟨fun _ => ⟨o1.mp h1, o2.mp h2⟩, fun _ => rfl⟩
    · rw [if_neg h2]; exact ⟨fun h => absurd h h2, fun h => absurd (o2.mpr h.2) h2⟩
  · rw [if_neg h1]; exact ⟨fun h => absurd h h1, fun h => absurd (o1.mpr h.1) h1⟩
end Go.Proofs.Ytplpmelpoajpdaa.Ev
namespace Go.Proofs.Ytplpmelpoajpdaa.Ev
open Go Go.Proofs
open Go.RowKit (wrap64)
set_option linter.unusedVariables false
set_option linter.unusedSimpArgs false
set_option maxRecDepth 100000
set_option maxHeartbeats 4000000
theorem vict_mem {t : List SVtx} {a : Int} {R : List SRr} {H : List (List Int)} {s p far q : Int} (hm : May t a R H s) (hp : inP t p) : q ∈ victOf t a R H s p far ↔ inP t q ∧ q ≠ p ∧ rAll (rg R q) ≠ [] ∧ farOf t p q ≤ far := by
  unfold victOf victP
  rw [if_pos (may_iff.mpr hm), List.mem_filter, nearOf_mem hp, Bool.and_eq_true, decide_eq_true_eq, decide_eq_true_eq, List.length_pos_iff]
  exact ⟨fun h => ⟨h.1.1, h.1.2, h.2.1, h.2.2⟩, fun h => ⟨⟨h.1, h.2.1⟩, h.2.2.1, h.2.2.2⟩⟩
theorem steal_g (t : List SVtx) (a : Int) (R : List SRr) (H : List (List Int)) (s p far : Int) (ht : t.length ≤ 64) (hs : U64 s) (f : Fw R H) : Gv P XN 23 [encRR t a R H s, I p, I far] (encSto t a s (stealOf t a R H s p far)) := by
  refine gv_of (lowN _ (by decide)) fun23 rfl ?_
  unfold encSto stealOf
  have hlo := local_g t a R H s p ht hs f
  have hvi := vict_g t a R H s p far ht hs f
  simp +decide only [Try.f23, encRR, go_sem, Nat.reduceAdd]
  refine WO_call rfl rfl rfl rfl rfl (runs_may_g lowN t a R H s ht hs f) ?_
  cases hM : mayB t a R H s
  · have hth : ¬ thiefB t a R H s p = true := by unfold thiefB; rw [hM]; exact Bool.false_ne_true
    rw [if_neg hth]
    simp +decide only [go_sem, Nat.reduceAdd]
    refine WO_not rfl ?_
    simp +decide only [go_sem, Nat.reduceAdd, wrc, splice]
    exact ⟨_, rfl, rfl, rfl⟩
  simp +decide only [go_sem, Nat.reduceAdd]
  refine WO_call rfl rfl rfl rfl rfl (has_g lowN hs p) ?_
  cases hO : tb s p
  · have hth : ¬ thiefB t a R H s p = true := by unfold thiefB; rw [hM, hO]; exact Bool.false_ne_true
    rw [if_neg hth]
    simp +decide only [go_sem, Nat.reduceAdd, wrc, splice]
    exact ⟨_, rfl, rfl, rfl⟩
  have hm := may_iff.mp hM
  have hp := hm.inP.mpr ⟨tb_nn hO, hm.on p hO⟩
  have hp2 := hm.inP.mp hp
  have hn2 := node_at hp
  rw [← hm.h] at hn2
  have hz := local_z hm hO f
  simp +decide only [go_sem, Nat.reduceAdd]
  refine WO_call rfl rfl rfl rfl rfl hlo ?_
  unfold encFo
  simp +decide only [go_sem, Nat.reduceAdd, wrc, splice, encRR]
  cases hg : ((localOf t a R H s p).g != 0)
  case true =>
    have hth : ¬ thiefB t a R H s p = true := fun h => by
      have := thief_iff.mp h
      have h2 := hz.mpr ⟨this.e, this.n⟩
      rw [h2] at hg; exact absurd hg (by decide)
    rw [if_neg hth]
    simp +decide only [go_sem, Nat.reduceAdd, wrc, splice, encT]
    exact ⟨_, rfl, rfl, rfl⟩
  case false =>
    have hg' : (localOf t a R H s p).g = 0 := by simpa using hg
    obtain ⟨z1, z2⟩ := hz.mp hg'
    have hth : thiefB t a R H s p = true := thief_iff.mpr ⟨hm, hO, z1, z2⟩
    rw [if_pos hth]
    simp +decide only [go_sem, Nat.reduceAdd]
    refine WO_call rfl rfl rfl rfl rfl hvi ?_
    have hvm := fun q => vict_mem (q := q) (far := far) hm hp
    cases hv : victOf t a R H s p far with
    | cons q l =>
      rw [hv] at hvm
      obtain ⟨hq, -, hqe, -⟩ := (hvm q).mp (by simp)
      have hq2 := hm.inP.mp hq
      have htk := stake_g t a R H s p q ht f (by have := hm.a2; omega) hp hp2.1 hp2.2 hq2.1 hq2.2 hn2.1 hn2.2 hqe
      unfold encSto at htk
      have hb0 : (0 : Int) < ((q :: l).length : Int) := by rw [List.length_cons]; omega
      simp only [List.length_cons] at hb0
      simp +decide only [List.map_cons, List.length_cons, List.length_map, hb0, go_sem, Nat.reduceAdd]
      refine W_drawL ⟨true, some 1, none, []⟩ hmx (by kernel_rfl) ?_
      simp +decide only [go_sem, Nat.reduceAdd, mdOK, rdOK, rdId, wrOK, wrc, splice, encT, Int.reduceToNat]
      refine WO_call rfl rfl rfl rfl rfl htk ?_
      simp +decide only [go_sem, Nat.reduceAdd, mdOK, rdOK, rdId, wrOK, wrc, splice, encT, encRR]
      exact ⟨_, rfl, rfl, rfl⟩
    | nil =>
      simp +decide only [go_sem, Nat.reduceAdd]
      by_cases h3 : 3 ≤ far
      · have hsr := srow_g t a R H s p ht f hp hn2.1 hn2.2
        unfold encSto at hsr
        simp +decide only [go_sem, Nat.reduceAdd, h3, encT]
        refine WO_call rfl rfl rfl rfl rfl hsr ?_
        simp +decide only [go_sem, Nat.reduceAdd, wrc, splice, encT, encRR]
        exact ⟨_, rfl, rfl, rfl⟩
      · simp +decide only [go_sem, Nat.reduceAdd, h3, wrc, splice, encT, encRR]
        exact ⟨_, rfl, rfl, rfl⟩
end Go.Proofs.Ytplpmelpoajpdaa.Ev
namespace Go.Proofs.Ytplpmelpoajpdaa.Ev
open Go Go.Proofs
set_option linter.unusedVariables false
set_option linter.unusedSimpArgs false
set_option maxRecDepth 100000
theorem filt_pre {α : Type} {g : α → Int} {v : α → Bool} {c c' : Int} (hc : c ≤ c') : ∀ {l : List α}, l.Pairwise (fun a b => g a ≤ g b) → (l.filter fun x => v x && decide (g x ≤ c)) <+: l.filter fun x => v x && decide (g x ≤ c')
  | [], _ => List.prefix_rfl
  | a :: l, hp => by
    rw [List.pairwise_cons] at hp
    have ih := filt_pre (v := v) hc hp.2
    cases hv : v a with
    | false => simp only [List.filter_cons, hv, Bool.false_and, Bool.false_eq_true, if_false]; exact ih
    | true =>
      by_cases h1 : g a ≤ c
      · have h2 : g a ≤ c' := by omega
        simp only [List.filter_cons, hv, Bool.true_and, decide_eq_true h1, decide_eq_true h2, if_true]
        exact (List.prefix_cons_inj a).mpr ih
      · have he : (l.filter fun x => v x && decide (g x ≤ c)) = [] := List.filter_eq_nil_iff.mpr fun x hx => by
          have := hp.1 x hx
          have h3 : ¬ g x ≤ c := by omega
          rw [decide_eq_false h3]; simp
        simp only [List.filter_cons, hv, Bool.true_and, decide_eq_false h1, Bool.false_eq_true, if_false, he]
        exact List.nil_prefix
section
variable {t : List SVtx} {a : Int} {R : List SRr} {H : List (List Int)} {s p : Int}
theorem vict_pre {far far' : Int} (hm : May t a R H s) (hp : inP t p) (h : far ≤ far') : victOf t a R H s p far <+: victOf t a R H s p far' := by
  unfold victOf
  rw [if_pos (may_iff.mpr hm), if_pos (may_iff.mpr hm)]
  exact filt_pre (v := fun q => decide (0 < (rAll (rg R q)).length)) h ((nearOf_sorted hp).imp fun h => by
    rcases h with h | h
    · exact Int.le_of_lt h
    · exact Int.le_of_eq h.1)
/-! The rows that are asked. -/
theorem scan_some {H : List (List Int)} {own x : Nat} : ∀ {m k : Nat}, scanRow H own m k = some x → hrow H (x : Int) ≠ [] ∧ ∃ j, k ≤ j ∧ j < k + m ∧ x = (own + j) % H.length
  | 0, k, h => by cases h
  | m + 1, k, h => by
    rw [scanRow] at h
    split at h
    · obtain ⟨h1, j, h2, h3, h4⟩ := scan_some h
      exact ⟨h1, j, by omega, by omega, h4⟩
    · rename_i hne
      cases h
      exact ⟨fun e => hne (by rw [e]; rfl), k, Nat.le_refl _, by omega, rfl⟩
theorem scan_none {H : List (List Int)} {own : Nat} : ∀ {m k : Nat}, scanRow H own m k = none → ∀ j, k ≤ j → j < k + m → hrow H (((own + j) % H.length : Nat) : Int) = []
  | 0, k, h, j, h1, h2 => by omega
  | m + 1, k, h, j, h1, h2 => by
    rw [scanRow] at h
    split at h
    · rename_i he
      by_cases hj : j = k
      · subst hj; exact List.eq_nil_of_length_eq_zero he
      · exact scan_none h j (by omega) (by omega)
    · cases h
/-! Who stands where, counted. -/
theorem count_set {α : Type} {f : α → List Int} {z : Int} : ∀ {l : List α} {i : Nat} {y : α}, l[i]? = some y → ∀ x, ((l.set i x).flatMap f).count z + (f y).count z = (l.flatMap f).count z + (f x).count z
  | [], i, y, h, x => by simp at h
  | a :: l, 0, y, h, x => by
    simp at h; subst h
    simp only [List.set_cons_zero, List.flatMap_cons, List.count_append]; omega
  | a :: l, i + 1, y, h, x => by
    have := count_set (f := f) (z := z) (l := l) (i := i) (y := y) (by simpa using h) x
    simp only [List.set_cons_succ, List.flatMap_cons, List.count_append]; omega
theorem count_setH {z : Int} {H : List (List Int)} {i : Nat} {y : List Int} (h : H[i]? = some y) (x : List Int) : ((H.set i x).flatten).count z + y.count z = H.flatten.count z + x.count z := by
  have := count_set (f := fun l : List Int => l) (z := z) h x
  simpa [List.flatMap_id'] using this
theorem half_count {x : SRr} (z : Int) : (rAll (halfR x).1).count z + (halfR x).2.count z = (rAll x).count z := by
  obtain ⟨n, l⟩ := x
  unfold halfR rAll ringAll
  by_cases hl : l = []
  · subst hl
    by_cases hn : n = 0
    · simp [hn]
    · simp [hn]
  · have e : l.count z = (l.drop ((l.length + 1) / 2)).count z + (l.take ((l.length + 1) / 2)).count z := by
      rw [Nat.add_comm, ← List.count_append, List.take_append_drop]
    rw [if_neg hl]
    by_cases hn : n = 0
    · simp only [hn, if_true]; omega
    · simp only [if_neg hn, List.count_cons]; omega
theorem rg_set {i : Nat} {x : SRr} (h : i < R.length) (j : Nat) : rg (R.set i x) (j : Int) = if i = j then x else rg R (j : Int) := by
  unfold rg
  rw [List.getD_eq_getElem?_getD, List.getD_eq_getElem?_getD, Int.toNat_natCast, List.getElem?_set]
  split
  · rename_i e; subst e; rfl
  · rfl
/-- What stays when somebody is taken. -/
structure Stays (t : List SVtx) (a : Int) (R : List SRr) (H : List (List Int)) (s : Int) (x : Sto) : Prop where
  g : x.g ≠ 0
  perm : (x.g :: allR x.R x.H).Perm (allR R H)
  rl : x.R.length = R.length
  hl : x.H.length = H.length
  len : ∀ j : Nat, j < R.length → ((rg x.R j).f1.length : Int) ≤ a
  off : ∀ j : Nat, j < R.length → tb s j = false → rAll (rg x.R j) = []
theorem Stays.may {x : Sto} (hm : May t a R H s) (h : Stays t a R H s x) : May t a x.R x.H s := by
  have hnd := h.perm.symm.nodup hm.nd
  rw [List.nodup_cons] at hnd
  refine ⟨hm.v, hm.a2, hm.a16, by rw [h.rl]; exact hm.r, by rw [h.hl]; exact hm.h, hm.s0, fun m hs => by rw [h.rl]; exact hm.on m hs, fun j hj => h.len j (by rw [← h.rl]; exact hj), fun j hj ho => h.off j (by rw [← h.rl]; exact hj) ho, fun y hy => hm.pos y (h.perm.mem_iff.mp (List.mem_cons_of_mem _ hy)), hnd.2⟩
theorem take_stays {q : Int} (th : Thief t a R H s p) (hq : inP t q) (hqp : q ≠ p) (hqe : rAll (rg R q) ≠ []) : Stays t a R H s (takeOf t a R H p q) := by
  have hm := th.m
  have hp := th.p
  obtain ⟨p0, ep, mp, n0, en, mn⟩ := inP_at hm hp
  obtain ⟨q0, eq, mq, _, _, _⟩ := inP_at hm hq
  have p1 := (hm.inP.mp hp).2
  have q1 := (hm.inP.mp hq).2
  have hb := halfR_ne hqe
  have hbl := halfR_len (x := rg R q)
  have hcnt := fun z => half_count (x := rg R q) z
  have hqpn : q.toNat ≠ p.toNat := by omega
  have hon : ∀ j : Nat, (j : Int) = q → tb s (j : Int) = true := fun j e => by
    cases ho : tb s (j : Int) with
    | true => rfl
    | false =>
      have := hm.off j (by omega) ho
      rw [e] at this; exact absurd this hqe
  have hlq := hm.len q.toNat (by omega)
  rw [show ((q.toNat : Nat) : Int) = q by omega] at hlq
  unfold takeOf
  generalize hyx : halfR (rg R q) = y at *
  obtain ⟨x', b⟩ := y
  simp only at hb hbl hcnt ⊢
  obtain ⟨g, o, rfl⟩ := List.exists_cons_of_ne_nil hb
  rw [List.tail_cons, List.headD_cons]
  have ep1 : (R.set q.toNat x')[p.toNat]? = some (rg R p) := by rw [List.getElem?_set_ne hqpn]; exact ep
  have hperm : (g :: allR ((R.set q.toNat x').set p.toNat ⟨0, o.take a.toNat⟩) (H.set (nodeOf t p).toNat (hrow H (nodeOf t p) ++ o.drop a.toNat))).Perm (allR R H) := by
    refine List.perm_iff_count.mpr fun z => ?_
    have c1 := count_set (f := rAll) (z := z) eq x'
    have c2 := count_set (f := rAll) (z := z) ep1 ⟨0, o.take a.toNat⟩
    have c3 := count_setH (z := z) en (hrow H (nodeOf t p) ++ o.drop a.toNat)
    have c4 := hcnt z
    have c5 : (o.take a.toNat).count z + (o.drop a.toNat).count z = o.count z := by rw [← List.count_append, List.take_append_drop]
    have e6 : rAll ⟨0, o.take a.toNat⟩ = o.take a.toNat := rfl
    rw [th.e, e6, List.count_nil] at c2
    rw [List.count_append] at c3
    simp only [allR, List.count_cons, List.count_append] at c4 ⊢
    omega
  have hg : g ∈ allR R H := hperm.mem_iff.mp List.mem_cons_self
  have hg1 := hm.pos g hg
  have hrg : ∀ j : Nat, j < R.length → rg ((R.set q.toNat x').set p.toNat ⟨0, o.take a.toNat⟩) (j : Int) = if p.toNat = j then ⟨0, o.take a.toNat⟩ else if q.toNat = j then x' else rg R (j : Int) := fun j hj => by
    rw [rg_set (by simp; omega), rg_set (by omega)]
  have ha := hm.a2
  refine ⟨by simp only; omega, hperm, by simp, by simp, fun j hj => ?_, fun j hj ho => ?_⟩
  · simp only
    rw [hrg j hj]
    split
    · simp; omega
    · split
      · have := hbl.2; omega
      · exact hm.len j hj
  · simp only
    rw [hrg j hj]
    split
    · rename_i e
      have : (j : Int) = p := by omega
      rw [this, th.on] at ho; cases ho
    · split
      · rename_i e
        rw [hon j (by omega)] at ho; cases ho
      · exact hm.off j hj ho
theorem row_stays {m : Nat} (th : Thief t a R H s p) (hml : m < H.length) (hne : hrow H (m : Int) ≠ []) : Stays t a R H s ⟨R, H.set m (hrow H m).tail, (hrow H m).headD 0, 3⟩ := by
  have hm := th.m
  have em := hrow_at hml
  obtain ⟨g, l, hgl⟩ := List.exists_cons_of_ne_nil hne
  rw [hgl] at em ⊢
  rw [List.tail_cons, List.headD_cons]
  have hperm : (g :: allR R (H.set m l)).Perm (allR R H) := by
    refine List.perm_iff_count.mpr fun z => ?_
    have c3 := count_setH (z := z) em l
    simp only [allR, List.count_cons, List.count_append] at c3 ⊢
    omega
  have hg1 := hm.pos g (hperm.mem_iff.mp List.mem_cons_self)
  exact ⟨by simp only; omega, hperm, rfl, by simp, hm.len, hm.off⟩
/-- What is told of a thief. -/
theorem steal_cases (far : Int) (th : Thief t a R H s p) :
    (∃ q l, victOf t a R H s p far = q :: l ∧ stealOf t a R H s p far = takeOf t a R H p q) ∨
    (victOf t a R H s p far = [] ∧ 3 ≤ far ∧ ∃ m, m < H.length ∧ hrow H (m : Int) ≠ [] ∧ stealOf t a R H s p far = ⟨R, H.set m (hrow H m).tail, (hrow H m).headD 0, 3⟩) ∨
    (victOf t a R H s p far = [] ∧ stealOf t a R H s p far = ⟨R, H, 0, -1⟩ ∧ (3 ≤ far → H.flatten = [])) := by
  unfold stealOf
  rw [if_pos (thief_iff.mpr th)]
  have hn := node_at th.p
  rw [← th.m.h] at hn
  cases hv : victOf t a R H s p far with
  | cons q l => exact .inl ⟨q, l, rfl, rfl⟩
  | nil =>
    by_cases h3 : 3 ≤ far
    · simp only [if_pos h3]
      unfold rowOfS
      cases hs : scanRow H (nodeOf t p).toNat (H.length - 1) 1 with
      | some m =>
        obtain ⟨h1, j, h2, h4, rfl⟩ := scan_some hs
        exact .inr (.inl ⟨trivial, h3, _, Nat.mod_lt _ (by omega), h1, rfl⟩)
      | none =>
        refine .inr (.inr ⟨trivial, rfl, fun _ => ?_⟩)
        refine List.flatten_eq_nil_iff.mpr fun l hl => ?_
        obtain ⟨i, hi, rfl⟩ := List.getElem_of_mem hl
        have e1 : hrow H (i : Int) = H[i] := by simp [hrow, hi]
        rw [← e1]
        by_cases hin : i = (nodeOf t p).toNat
        · rw [hin, show (((nodeOf t p).toNat : Nat) : Int) = nodeOf t p by omega]; exact th.n
        · have hsn := scan_none hs
          generalize hnd : (nodeOf t p).toNat = nd at *
          have hndl : nd < H.length := by omega
          by_cases hlt : nd < i
          · have := hsn (i - nd) (by omega) (by omega)
            rwa [show (nd + (i - nd)) % H.length = i by rw [Nat.add_sub_cancel' (by omega)]; exact Nat.mod_eq_of_lt hi] at this
          · have := hsn (H.length + i - nd) (by omega) (by omega)
            rwa [show (nd + (H.length + i - nd)) % H.length = i by rw [show nd + (H.length + i - nd) = i + H.length by omega, Nat.add_mod_right]; exact Nat.mod_eq_of_lt hi] at this
    · simp only [if_neg h3]
      exact .inr (.inr ⟨trivial, trivial, fun h => absurd h h3⟩)
/-- As far as all, a thief finds somebody just if somebody stands anywhere. -/
theorem steal_some (th : Thief t a R H s p) : (stealOf t a R H s p 3).g ≠ 0 ↔ allR R H ≠ [] := by
  have hm := th.m
  have hp := th.p
  rcases steal_cases 3 th with ⟨q, l, hv, hs⟩ | ⟨hv, _, m, hml, hne, hs⟩ | ⟨hv, hs, h3⟩
  · have hq := (vict_mem (q := q) (far := 3) hm hp).mp (by rw [hv]; simp)
    have st := take_stays th hq.1 hq.2.1 hq.2.2.1
    rw [hs]
    refine ⟨fun _ e => ?_, fun _ => st.g⟩
    have := st.perm.length_eq
    rw [e] at this; simp at this
  · have st := row_stays th hml hne
    rw [hs]
    refine ⟨fun _ e => ?_, fun _ => st.g⟩
    have := st.perm.length_eq
    rw [e] at this; simp at this
  · rw [hs]
    refine ⟨fun h => absurd rfl h, fun h => absurd ?_ h⟩
    unfold allR
    rw [h3 (Int.le_refl 3), List.append_nil, List.flatMap_eq_nil_iff]
    intro x hx
    obtain ⟨i, hi, rfl⟩ := List.getElem_of_mem hx
    have e1 : rg R (i : Int) = R[i] := by simp [rg, hi]
    rw [← e1]
    by_cases hip : (i : Int) = p
    · rw [hip]; exact th.e
    · cases hr : rAll (rg R (i : Int)) with
      | nil => rfl
      | cons g l =>
        have hqi : inP t (i : Int) := hm.inP.mpr ⟨by omega, by omega⟩
        have : (i : Int) ∈ victOf t a R H s p 3 := (vict_mem hm hp).mpr ⟨hqi, hip, by rw [hr]; simp, farOf_le⟩
        rw [hv] at this; cases this
end
end Go.Proofs.Ytplpmelpoajpdaa.Ev
namespace Go.Proofs.Ytplpmelpoajpdaa.Ev
open Go Go.Proofs
open Go.RowKit (wrap64)
set_option linter.unusedVariables false
set_option linter.unusedSimpArgs false
set_option maxRecDepth 100000
set_option maxHeartbeats 4000000
theorem gro_rring {S : Obs} {v : AV} {l : List SRr} (h : Gro P 66 S v (l.map encG)) (x : SRr) (hl : l.length ≤ 100000) (T : Toks) :
    ∃ v' S', appX P true 23 v (.sl .full [encG x]) S T = some (v', S', T) ∧ Gro P 66 S' v' ((l ++ [x]).map encG) ∧ Left 66 S S' := by
  obtain ⟨v', S', h1, h2, h3⟩ := h.go (t := 23) (T := T) (m := [encG x]) (o := .full) ty23.2.2.2.2 ty66.1 ty66.2.2.1 ty66.2.2.2.1 rfl (by simp) rfl (by simp; omega) (by simp [maxLen]; omega)
  exact ⟨v', S', h1, by simpa using h2, h3⟩
section
variable {X : Prims} (hX : Low X)
include hX
theorem real_g (t : List SVtx) (a : Int) (R : List SRr) (H : List (List Int)) (s : Int) (f : Fw R H) : Gv P X 26 [encRR t a R H s] (encRR t a R H s) := by
  refine gm_of (rw := true) (hX _ (by decide)) fun26 rfl ?_
  have hr := f.r
  have hh := f.h
  simp +decide only [Try.f26, encRR, go_sem, Nat.reduceAdd, fillA, places, splice, rwO, lit, qO, usesT, appsT, isT, Nat.reduceBEq, stf, List.any_cons, List.any_nil, Option.isSome_some, wrc]
  refine W_ind (fun k st => ∃ (i : Nat) (v : AV), i + k = R.length ∧ FrIs 40 [(1, .ptr 0 0), (2, .ptr 1 0), (3, .ptr 2 0), (4, I i)] st.fr ∧ st.S[0]? = some (.var false [encT t, I a, .sl .no (R.map encG), .sl .no (H.map L), U s]) ∧ st.S[1]? = some (.var false [.sl .nil [], I 0, .sl .nil [], .sl .nil [], U 0]) ∧ st.S[2]? = some (.var false [encT t, I a, v, .sl .no (H.map L), U s]) ∧ Gro P 66 st.S v ((R.take i).map encG)) ?_ (n := R.length) ⟨0, .sl .nil [], by omega, ⟨rfl, rfl, rfl, rfl, rfl, trivial⟩, rfl, rfl, rfl, .nil⟩
  rintro k ⟨L', S, T⟩ ih ⟨i, v, hi, hF, hS0, hS1, hS2, hA⟩
  obtain ⟨j, rfl⟩ := hF.ex
  have hw := wrap_nat i (by omega)
  have hv := hA.one
  simp only [one, t0, t1, AV.cells, nt] at hv
  simp +decide only [fr, jl, Nat.reduceAdd, go_sem, hS0]
  refine Wif_of (fun h => ?_) (fun h => ?_)
  · have hlt : i < R.length := by simpa using h
    obtain ⟨x, hx, hm⟩ := getE hlt
    simp +decide only [go_sem]
    refine W_drawM true hmx (by kernel_rfl) ?_
    obtain ⟨v', S1, happ, hA', hL⟩ := gro_rring hA x (by simp; omega) T
    have hv' := hA'.one
    have hS20 := hL.var hS0
    have hS21 := hL.var hS1
    have hS22 := hL.var hS2
    simp only [one, t0, t1, AV.cells, nt] at hv'
    change appX P true _ _ (.sl .full [.agg [I x.f0, L x.f1]]) S _ = _ at happ
    simp +decide only [go_sem, Nat.reduceAdd, hS0, hS2, hx, encG, happ, fillA, places, splice, rwO, lit, qO, usesT, appsT, isT, Nat.reduceBEq, stf, List.any_cons, List.any_nil, Option.isSome_some, Bool.true_and, Bool.and_true, Bool.false_or, Bool.or_false, Bool.true_or, Bool.or_true, Bool.not_true, Bool.not_false, hv.1, hv.2.1, hv.2.2.1, hv.2.2.2.1, hv.2.2.2.2, hv'.1, hv'.2.1, hv'.2.2.1, hv'.2.2.2.1, hv'.2.2.2.2, hS22, hw]
    refine ih (k - 1) _ (by omega) ⟨i + 1, v', by omega, ⟨rfl, rfl, rfl, rfl, rfl, trivial⟩, ?_, ?_, ?_, ?_⟩
    · rw [List.getElem?_set_ne (by decide)]; exact hS20
    · rw [List.getElem?_set_ne (by decide)]; exact hS21
    · exact List.getElem?_set_self (List.getElem?_eq_some_iff.mp hS22).1
    · rw [take_snoc hx]; exact hA'.set hS22
  · have hi' : i = R.length := by simp at h; omega
    subst hi'
    rw [List.take_length] at hA
    clear ih
    obtain ⟨o1, z1⟩ := (hA.set (d' := false) (cs' := [encT t, I a, v, .sl .no (H.map L), U s]) hS1).fz
    have hset : (S.set 1 (.var false [encT t, I a, v, .sl .no (H.map L), U s]))[1]? = some (.var false [encT t, I a, v, .sl .no (H.map L), U s]) := List.getElem?_set_self (List.getElem?_eq_some_iff.mp hS1).1
    simp +decide only [go_sem, Nat.reduceAdd, hS1, hS2, hv.1, hv.2.1, hv.2.2.2.2, splice, rwO, lit, qO, encT]
    simp only [encT] at hset z1
    simp +decide only [go_sem, hset]
    refine ⟨_, rfl, ?_, ?_⟩
    · show [.sl .no (t.map encV), I a, fz0 _ 0 v, .sl .no (H.map L), U s].all d1 = true
      rw [z1]; rfl
    · show AV.agg (List.map s1 [.sl .no (t.map encV), I a, fz0 _ 0 v, .sl .no (H.map L), U s]) = _
      rw [z1]; rfl
end
def T5s : List SVtx := [⟨-1, 0⟩, ⟨0, 1⟩, ⟨1, 2⟩, ⟨2, 3⟩, ⟨2, 3⟩]
theorem steal5 : (stealOf T5s 4 [⟨0, []⟩, ⟨0, [1, 2, 3]⟩] [[]] 3 0 1).R = [⟨0, [2]⟩, ⟨0, [3]⟩] ∧ (stealOf T5s 4 [⟨0, []⟩, ⟨0, [1, 2, 3]⟩] [[]] 3 0 1).g = 1 ∧ (stealOf T5s 4 [⟨0, []⟩, ⟨0, [1, 2, 3]⟩] [[]] 3 0 1).d = 1 := by decide +kernel
theorem shown17_g : Gv P XN 21 [] (B true) := by
  refine gv_of (lowN _ (by decide)) fun21 rfl ?_
  have hst := steal_g T5s 4 [⟨0, []⟩, ⟨0, [1, 2, 3]⟩] [[]] 3 0 1 (by decide) ⟨by decide, by decide⟩ ⟨by decide, by decide, by decide, by decide⟩
  unfold encSto at hst
  rw [steal5.1, steal5.2.1, steal5.2.2] at hst
  have i1 := ints_g lowN [2] [2] (by decide)
  have i2 := ints_g lowN [3] [3] (by decide)
  rw [decide_eq_true rfl] at i1 i2
  simp +decide only [Try.f21, go_sem, fillA, places, splice, Nat.reduceAdd]
  refine WO_call rfl rfl rfl rfl rfl hst ?_
  simp +decide only [go_sem, Nat.reduceAdd, encRR, wrc, splice, Int.reduceToNat, encG]
  refine WO_call rfl rfl rfl rfl rfl i1 ?_
  simp +decide only [go_sem, Nat.reduceAdd, encRR, wrc, splice, Int.reduceToNat, encG]
  refine WO_call rfl rfl rfl rfl rfl i2 ?_
  simp +decide only [go_sem, Nat.reduceAdd]
  exact ⟨_, rfl, rfl, rfl⟩
end Go.Proofs.Ytplpmelpoajpdaa.Ev
namespace Go.Proofs.Ytplpmelpoajpdaa.Ev
open Go Go.Proofs
set_option linter.unusedVariables false
/-- Runs, as one. -/
structure SRN where
  t : List SVtx
  a : Int
  R : List SRr
  H : List (List Int)
  s : Int
def encN (r : SRN) : AV := encRR r.t r.a r.R r.H r.s
theorem u64_of {x : Int} (h : IntKind.u64.min ≤ x ∧ x ≤ IntKind.u64.max) : U64 x := by
  have h1 : IntKind.u64.min = 0 := rfl
  have h2 : IntKind.u64.max = 18446744073709551615 := by decide
  rw [h1, h2] at h
  exact ⟨by omega, by omega⟩
end Go.Proofs.Ytplpmelpoajpdaa.Ev
namespace Go.Proofs.Ytplpmelpoajpdaa.Ev
open Go Go.Proofs
open Go.RowKit (wrap64)
set_option linter.unusedVariables false
set_option linter.unusedSimpArgs false
set_option maxRecDepth 100000
set_option maxHeartbeats 4000000
theorem beq_no {a b : Int} (h : a ≠ b) : (a == b) = false := by simpa using h
theorem bne_no {a b : Int} (h : a = b) : (a != b) = false := by simpa using h
theorem beq_yes {a b : Int} (h : a = b) : (a == b) = true := by simpa using h
theorem stealHalf_g (r : SRN) (hs : U64 r.s) (p : Int) {wp : Prop} (_ : wp) : Gv P XN 8 [encN r, I p] (B true) := by
  obtain ⟨t, a, R, H, s⟩ := r
  have hs : U64 s := hs
  refine gv_of (lowN _ (by decide)) fun8 rfl ?_
  have hfew := few_g lowN t a R H s
  simp +decide only [Try.f8, encN, encRR, go_sem, Nat.reduceAdd]
  refine WO_call rfl rfl rfl rfl rfl shown17_g ?_
  simp +decide only [go_sem, Nat.reduceAdd]
  refine WO_call rfl rfl rfl rfl rfl hfew ?_
  cases hF : fewB t R H
  · simp +decide only [go_sem, Nat.reduceAdd]
    refine WO_not rfl ?_
    simp +decide only [go_sem, Nat.reduceAdd]
    exact ⟨_, rfl, rfl, rfl⟩
  obtain ⟨ht, f1, f2, f3, f4⟩ := fewB_of hF
  have f : Fw R H := ⟨by omega, by omega, fun x hx => by have := f3 x hx; omega, fun x hx => by have := f4 x hx; omega⟩
  simp +decide only [go_sem, Nat.reduceAdd]
  refine WO_call rfl rfl rfl rfl rfl (thief_g lowN t a R H s p ht hs f) ?_
  cases hT : thiefB t a R H s p
  · simp +decide only [go_sem, Nat.reduceAdd]
    exact ⟨_, rfl, rfl, rfl⟩
  have th := thief_iff.mp hT
  have hm := th.m
  have hp := th.p
  have hr := f.r
  simp +decide only [go_sem, Nat.reduceAdd]
  refine WO_call rfl rfl rfl rfl rfl (made17_g lowN t a R H s f) ?_
  simp +decide only [go_sem, Nat.reduceAdd, encRR, wrc, splice, encT]
  refine WO_call rfl rfl rfl rfl rfl (vict_g t a R H s p 3 ht hs f) ?_
  have hst := steal_g t a R H s p 3 ht hs f
  rcases steal_cases 3 th with ⟨q, l, hv, hx⟩ | ⟨hv, -⟩ | ⟨hv, -⟩
  case inr.inl =>
    rw [hv]
    simp +decide only [go_sem, Nat.reduceAdd]
    refine Wif_of (fun _ => ?_) (fun h => absurd h (by decide))
    simp +decide only [go_sem, Nat.reduceAdd]
    exact ⟨_, rfl, rfl, rfl⟩
  case inr.inr =>
    rw [hv]
    simp +decide only [go_sem, Nat.reduceAdd]
    refine Wif_of (fun _ => ?_) (fun h => absurd h (by decide))
    simp +decide only [go_sem, Nat.reduceAdd]
    exact ⟨_, rfl, rfl, rfl⟩
  case inl =>
    have hq := (vict_mem (q := q) (far := 3) hm hp).mp (by rw [hv]; simp)
    have sty := take_stays th hq.1 hq.2.1 hq.2.2.1
    have q0 := (hm.inP.mp hq.1).1
    have q1 := (hm.inP.mp hq.1).2
    have p0 := (hm.inP.mp hp).1
    have p1 := (hm.inP.mp hp).2
    have eq : R[q.toNat]? = some (rg R q) := by simp [rg, show q.toNat < R.length by omega]
    have lq := f.rl _ (List.mem_of_getElem? eq)
    rw [hx] at hst
    unfold encSto at hst
    have hy1 : (takeOf t a R H p q).R[q.toNat]? = some (halfR (rg R q)).1 := by
      unfold takeOf
      rw [List.getElem?_set_ne (by omega), List.getElem?_set_self (by omega)]
    have hy2 : (takeOf t a R H p q).R[p.toNat]? = some ⟨0, (halfR (rg R q)).2.tail.take a.toNat⟩ := by
      unfold takeOf
      rw [List.getElem?_set_self (by simp; omega)]
    have hg : (takeOf t a R H p q).g = (halfR (rg R q)).2.headD 0 := rfl
    have hgz := sty.g
    have hrl := sty.rl
    rw [hv]
    have c1 : (((q :: l).length : Int) == 0) = false := beq_no (by rw [List.length_cons]; omega)
    simp only [List.length_cons] at c1
    have c2 : ¬ q < 0 := by omega
    have c3 : ¬ (R.length : Int) ≤ q := by omega
    have c4 : (q == p) = false := beq_no hq.2.1
    simp +decide only [go_sem, Nat.reduceAdd, List.map_cons, List.length_cons, List.length_map, c1, c2, c3, c4, Int.reduceToNat, encT]
    refine WO_call rfl rfl rfl rfl rfl hst ?_
    generalize takeOf t a R H p q = y at *
    have c5 : (y.g == 0) = false := beq_no hgz
    have c6 : ((y.R.length : Int) != (R.length : Int)) = false := bne_no (by rw [hrl])
    simp +decide only [go_sem, Nat.reduceAdd, encRR, wrc, splice, encT, c5, c6, q0, eq, encG]
    unfold halfR at hy1 hy2 hg
    have hqe := hq.2.2.1
    unfold rAll ringAll at hqe
    by_cases hl : (rg R q).f1 = []
    · rw [if_pos hl] at hy1 hy2 hg
      rw [hl] at hqe
      have hn : ¬ (rg R q).f0 = 0 := fun e => by rw [if_pos e] at hqe; exact hqe rfl
      rw [if_neg hn] at hg
      have c7 : (y.g == (rg R q).f0) = true := beq_yes hg
      simp only [hl]
      refine Wif_of (fun _ => ?_) (fun h => absurd h (by decide))
      have hra := ring_all_g (X := XN) lowN 0 [] (by decide)
      simp +decide only [go_sem, Nat.reduceAdd, q0, eq, c7, hy1, encG]
      refine WO_call rfl rfl rfl rfl rfl hra ?_
      simp +decide only [go_sem, Nat.reduceAdd, ringAll]
      exact ⟨_, rfl, rfl, rfl⟩
    · rw [if_neg hl] at hy1 hy2 hg
      obtain ⟨g, o, hgo⟩ := List.exists_cons_of_ne_nil hl
      have hlen : 0 < (rg R q).f1.length := by rw [hgo]; simp
      have c0 : (((rg R q).f1.length : Int) == 0) = false := beq_no (by omega)
      have hgg : y.g = g := by
        rw [hg, hgo]
        obtain ⟨k, hk⟩ : ∃ k, ((g :: o).length + 1) / 2 = k + 1 := ⟨((g :: o).length + 1) / 2 - 1, by simp; omega⟩
        rw [hk]; rfl
      have ha := hm.a2
      have c7 : (y.g == g) = true := beq_yes hgg
      have e8 : ((((rg R q).f1.drop (((rg R q).f1.length + 1) / 2)).length : Nat) : Int) = (((rg R q).f1.length / 2 : Nat) : Int) := by simp; omega
      have w2 : IntKind.i64.wrap (((rg R q).f1.length : Int).tdiv 2) = (((rg R q).f1.length / 2 : Nat) : Int) := by rw [show ((rg R q).f1.length : Int).tdiv 2 = (((rg R q).f1.length / 2 : Nat) : Int) from rfl]; exact wrap64_of (by omega)
      have c8 : (((((rg R q).f1.drop (((rg R q).f1.length + 1) / 2)).length : Nat) : Int) == (((rg R q).f1.length / 2 : Nat) : Int)) = true := beq_yes e8
      have c9 : ((((((rg R q).f1.take (((rg R q).f1.length + 1) / 2)).tail.take a.toNat).length : Nat) : Int) ≤ a) := by simp; omega
      have hel : (rg R q).f1[0]? = some g := by rw [hgo]; rfl
      have n2 : ¬ (2 : Int) = 0 := by decide
      have c10 : ((rg R q).f0 == (rg R q).f0) = true := beq_yes rfl
      simp +decide only [c0, go_sem, Nat.reduceAdd]
      refine W_draw hmx (by kernel_rfl) ?_
      simp +decide only [go_sem, Nat.reduceAdd, q0, p0, eq, hel, c7, hy1, hy2, encG, Int.reduceToNat, w2, n2, c8, c9, c10]
      exact ⟨_, rfl, rfl, rfl⟩
end Go.Proofs.Ytplpmelpoajpdaa.Ev
namespace Go.Proofs.Ytplpmelpoajpdaa.Ev
open Go Go.Proofs
open Go.RowKit (wrap64)
set_option linter.unusedVariables false
set_option linter.unusedSimpArgs false
set_option maxRecDepth 100000
set_option maxHeartbeats 4000000
section
variable {X : Prims} (hX : Low X)
include hX
theorem idx_rings_g (l : List (SRr)) (hl : l.length ≤ 1000000) (g : FuncId) (cap : List AV) (S : Obs) (p : (SRr) → Bool) (hc : Cp cap) (hg : Takes P X g cap S encG p l) :
    Gs P X 65 [.sl .no (l.map encG), .fn g cap] S fun r S' => r = I (idxf p l) ∧ ∃ J, S' = S ++ J := by
  refine gs_of (rw := false) (kf := false) (hX _ (by decide)) fun65 rfl ?_
  simp +decide only [Try.f65, go_sem, Nat.reduceAdd]
  refine W_ind (fun k st => ∃ i : Nat, i + k = l.length ∧ FrIs 19 [(0, .sl .no (l.map encG)), (1, .fn g cap), (7, I l.length), (8, I i)] st.fr ∧ (∃ J, st.S = S ++ J) ∧ st.T = [] ∧ ∀ y ∈ l.take i, p y = false) ?_ (n := l.length) ⟨0, by omega, ⟨rfl, rfl, rfl, rfl, rfl, trivial⟩, ⟨[], by simp⟩, rfl, by simp⟩
  rintro k ⟨L', S', T⟩ ih ⟨i, hi, hF, ⟨J, rfl⟩, rfl, hall⟩
  obtain ⟨j, rfl⟩ := hF.ex
  have hw := wrap_nat i (by omega)
  simp +decide only [fr, jl, Nat.reduceAdd, go_sem]
  refine Wif_of (fun h => ?_) (fun h => ?_)
  · have hlt : i < l.length := by simpa using h
    obtain ⟨x, hx, hm⟩ := getE hlt
    simp +decide only [go_sem, hx, encG]
    refine WO_calls (g := g) (cap := cap) rfl rfl rfl hc.ok ?_ ?_ ?_
    · show (([encG x] ++ cap).all d2 && !X.keep g) = false
      rw [List.all_append, hc.d, Bool.and_false, Bool.false_and]
    · show ([encG x] ++ cap).all nt = true
      rw [List.all_append, hc.n]; rfl
    · show Gs P X g (List.map t2 ([encG x] ++ cap)) (S ++ J) _
      rw [List.map_append, hc.t]
      refine (hg x hm J).mono fun r S' h => ?_
      obtain ⟨rfl, J', rfl⟩ := h
      simp +decide only [go_sem]
      refine Wif_of (fun h => ?_) (fun h => ?_)
      · simp +decide only [go_sem]
        exact ⟨_, rfl, by rw [idxf_at hx h hall], J', by simp [killIds]⟩
      · simp +decide only [go_sem, hw]
        refine ih (k - 1) _ (by omega) ⟨i + 1, by omega, ⟨rfl, rfl, rfl, rfl, rfl, trivial⟩, ⟨J', rfl⟩, rfl, fun y hy => ?_⟩
        rw [take_snoc hx, List.mem_append] at hy
        rcases hy with hy | hy
        · exact hall y hy
        · rw [List.mem_singleton] at hy; subst hy; exact h
  · have hi' : i = l.length := by simp at h; omega
    subst hi'
    rw [List.take_length] at hall
    simp +decide only [go_sem]
    exact ⟨_, rfl, by rw [idxf_none hall], J, by simp [killIds]⟩
theorem idx_rows_g (l : List (List Int)) (hl : l.length ≤ 1000000) (g : FuncId) (cap : List AV) (S : Obs) (p : (List Int) → Bool) (hc : Cp cap) (hg : Takes P X g cap S L p l) :
    Gs P X 66 [.sl .no (l.map L), .fn g cap] S fun r S' => r = I (idxf p l) ∧ ∃ J, S' = S ++ J := by
  refine gs_of (rw := false) (kf := false) (hX _ (by decide)) fun66 rfl ?_
  simp +decide only [Try.f66, go_sem, Nat.reduceAdd]
  refine W_ind (fun k st => ∃ i : Nat, i + k = l.length ∧ FrIs 19 [(0, .sl .no (l.map L)), (1, .fn g cap), (7, I l.length), (8, I i)] st.fr ∧ (∃ J, st.S = S ++ J) ∧ st.T = [] ∧ ∀ y ∈ l.take i, p y = false) ?_ (n := l.length) ⟨0, by omega, ⟨rfl, rfl, rfl, rfl, rfl, trivial⟩, ⟨[], by simp⟩, rfl, by simp⟩
  rintro k ⟨L', S', T⟩ ih ⟨i, hi, hF, ⟨J, rfl⟩, rfl, hall⟩
  obtain ⟨j, rfl⟩ := hF.ex
  have hw := wrap_nat i (by omega)
  simp +decide only [fr, jl, Nat.reduceAdd, go_sem]
  refine Wif_of (fun h => ?_) (fun h => ?_)
  · have hlt : i < l.length := by simpa using h
    obtain ⟨x, hx, hm⟩ := getE hlt
    simp +decide only [go_sem, hx]
    refine WO_calls (g := g) (cap := cap) rfl rfl rfl hc.ok ?_ ?_ ?_
    · show (([L x] ++ cap).all d2 && !X.keep g) = false
      rw [List.all_append, hc.d, Bool.and_false, Bool.false_and]
    · show ([L x] ++ cap).all nt = true
      rw [List.all_append, hc.n]; rfl
    · show Gs P X g (List.map t2 ([L x] ++ cap)) (S ++ J) _
      rw [List.map_append, hc.t]
      refine (hg x hm J).mono fun r S' h => ?_
      obtain ⟨rfl, J', rfl⟩ := h
      simp +decide only [go_sem]
      refine Wif_of (fun h => ?_) (fun h => ?_)
      · simp +decide only [go_sem]
        exact ⟨_, rfl, by rw [idxf_at hx h hall], J', by simp [killIds]⟩
      · simp +decide only [go_sem, hw]
        refine ih (k - 1) _ (by omega) ⟨i + 1, by omega, ⟨rfl, rfl, rfl, rfl, rfl, trivial⟩, ⟨J', rfl⟩, rfl, fun y hy => ?_⟩
        rw [take_snoc hx, List.mem_append] at hy
        rcases hy with hy | hy
        · exact hall y hy
        · rw [List.mem_singleton] at hy; subst hy; exact h
  · have hi' : i = l.length := by simp at h; omega
    subst hi'
    rw [List.take_length] at hall
    simp +decide only [go_sem]
    exact ⟨_, rfl, by rw [idxf_none hall], J, by simp [killIds]⟩
end
def whereOf (R : List SRr) (H : List (List Int)) (g : Int) : Int × Int :=
  if 0 ≤ idxf (fun x => decide (g ∈ rAll x)) R then (idxf (fun x => decide (g ∈ rAll x)) R, -1) else (-1, idxf (fun l => decide (g ∈ l)) H)
theorem where1_g (x : SRr) (g : Int) (hx : x.f1.length ≤ 1000) (S : Obs) {j : Nat} (h : S[j]? = some (.var false [I g])) : Gs P XN 64 [encG x, .ptr j 0] S fun r S' => r = B (decide (g ∈ rAll x)) ∧ ∃ J, S' = S ++ J := by
  refine gs_of (rw := false) (kf := false) (lowN _ (by decide)) fun64 rfl ?_
  have hl := rAll_len x
  have hg : ∀ m, (S ++ m)[j]? = some (.var false [I g]) := fun m => gOld h
  simp +decide only [Try.f64, go_sem, Nat.reduceAdd, encG]
  refine W_draw hmx (by kernel_rfl) ?_
  simp +decide only [go_sem, Nat.reduceAdd, hg, gA0]
  refine WO_call rfl rfl rfl rfl rfl (ring_all_g lowN x.f0 x.f1 (by omega)) ?_
  change WO P XN _ _ _ _ _ ⟨put _ _ (L (rAll x)), _, _⟩ _
  simp +decide only [go_sem, Nat.reduceAdd, hg]
  refine WO_call rfl rfl rfl rfl rfl (contains_g lowN (rAll x) g (by omega)) ?_
  simp +decide only [go_sem, Nat.reduceAdd]
  exact ⟨_, rfl, rfl, _, by simp [killIds]; rfl⟩
theorem where2_g (l : List Int) (g : Int) (hl : l.length ≤ 1000) (S : Obs) {j : Nat} (h : S[j]? = some (.var false [I g])) : Gs P XN 67 [L l, .ptr j 0] S fun r S' => r = B (decide (g ∈ l)) ∧ ∃ J, S' = S ++ J := by
  refine gs_of (rw := false) (kf := false) (lowN _ (by decide)) fun67 rfl ?_
  simp +decide only [Try.f67, go_sem, Nat.reduceAdd, h]
  refine WO_call rfl rfl rfl rfl rfl (contains_g lowN l g (by omega)) ?_
  simp +decide only [go_sem, Nat.reduceAdd]
  exact ⟨_, rfl, rfl, [], by simp [killIds]⟩
theorem where_g (t : List SVtx) (a : Int) (R : List SRr) (H : List (List Int)) (s g : Int) (f : Fw R H) : Gv P XN 35 [encRR t a R H s, I g] (.tup [I (whereOf R H g).1, I (whereOf R H g).2]) := by
  refine gv_of (lowN _ (by decide)) fun35 rfl ?_
  have hr := f.r
  have hh := f.h
  simp +decide only [Try.f35, encRR, go_sem, Nat.reduceAdd, capOk]
  refine WO_calls (g := 65) (cap := []) rfl rfl rfl rfl rfl rfl ?_
  refine (idx_rings_g lowN R (by omega) 64 [.ptr 1 0] [.var false [encT t, I a, .sl .no (R.map encG), .sl .no (H.map L), U s], .var false [I g]] (fun x => decide (g ∈ rAll x)) Cp.ptr (fun x hx J => where1_g x g (by have := f.rl x hx; omega) _ (j := 1) rfl |>.mono fun r S' h => ⟨h.1, by obtain ⟨J', e⟩ := h.2; exact ⟨J ++ J', by rw [e, List.append_assoc]⟩⟩)).mono fun r S' h => ?_
  obtain ⟨rfl, J, rfl⟩ := h
  unfold whereOf
  by_cases h0 : 0 ≤ idxf (fun x => decide (g ∈ rAll x)) R
  · simp +decide only [go_sem, Nat.reduceAdd, h0]
    exact ⟨_, rfl, rfl, rfl⟩
  · simp +decide only [go_sem, Nat.reduceAdd, h0, capOk]
    refine WO_calls (g := 66) (cap := []) rfl rfl rfl rfl rfl rfl ?_
    refine (idx_rows_g lowN H (by omega) 67 [.ptr 1 0] (.var false [encT t, I a, .sl .no (R.map encG), .sl .no (H.map L), U s] :: .var false [I g] :: J) (fun l => decide (g ∈ l)) Cp.ptr (fun x hx J2 => where2_g x g (by have := f.hl x hx; omega) _ (j := 1) rfl |>.mono fun r S' h => ⟨h.1, by obtain ⟨J', e⟩ := h.2; exact ⟨J2 ++ J', by rw [e, List.append_assoc]⟩⟩)).mono fun r S' h => ?_
    obtain ⟨rfl, J2, rfl⟩ := h
    simp +decide only [go_sem, Nat.reduceAdd]
    exact ⟨_, rfl, rfl, rfl⟩
end Go.Proofs.Ytplpmelpoajpdaa.Ev
namespace Go.Proofs.Ytplpmelpoajpdaa.Ev
open Go Go.Proofs
open Go.RowKit (wrap64)
set_option linter.unusedVariables false
set_option linter.unusedSimpArgs false
set_option maxRecDepth 100000
set_option maxHeartbeats 4000000
theorem half_head {x : SRr} (h : rAll x ≠ []) : (halfR x).2.headD 0 ∈ rAll x := by
  obtain ⟨g, o, hgo⟩ := List.exists_cons_of_ne_nil (halfR_ne h)
  have hc := half_count (x := x) g
  rw [hgo, List.count_cons_self] at hc
  rw [hgo, List.headD_cons]
  exact List.count_pos_iff.mp (by omega)
theorem flat_apart {α : Type} {f : α → List Int} : ∀ {l : List α} {i j : Nat} {x y : α} {z : Int}, (l.flatMap f).Nodup → l[i]? = some x → l[j]? = some y → i < j → z ∈ f x → z ∉ f y
  | [], i, j, x, y, z, _, h, _, _, _ => by simp at h
  | a :: l, 0, j + 1, x, y, z, hn, hx, hy, _, hz => fun h => by
    rw [List.flatMap_cons, List.nodup_append] at hn
    simp at hx; subst hx
    exact hn.2.2 z hz z (List.mem_flatMap.mpr ⟨y, List.mem_of_getElem? (by simpa using hy), h⟩) rfl
  | a :: l, i + 1, j + 1, x, y, z, hn, hx, hy, hij, hz => by
    rw [List.flatMap_cons, List.nodup_append] at hn
    exact flat_apart hn.2.1 (by simpa using hx) (by simpa using hy) (by omega) hz
theorem where_at {t : List SVtx} {a : Int} {R : List SRr} {H : List (List Int)} {s q g : Int} (hm : May t a R H s) (hq : inP t q) (hg : g ∈ rAll (rg R q)) : (whereOf R H g).1 = q := by
  obtain ⟨q0, eq, mq, _, _, _⟩ := inP_at hm hq
  have hnd : (R.flatMap rAll).Nodup := (List.sublist_append_left _ _).nodup hm.nd
  have h := idxf_at (p := fun x => decide (g ∈ rAll x)) eq (decide_eq_true hg) (fun y hy => by
    rw [List.mem_take_iff_getElem] at hy
    obtain ⟨j, hj, rfl⟩ := hy
    exact decide_eq_false fun hgy => flat_apart hnd (List.getElem?_eq_getElem (by omega)) eq (by omega) hgy hg)
  unfold whereOf
  rw [h, if_pos (by omega)]
  simp only; omega
theorem near_plain {t : List SVtx} {a : Int} {R : List SRr} {H : List (List Int)} {s p far : Int} (th : Thief t a R H s p) (h3 : far < 3) :
    let x := stealOf t a R H s p far
    let y := stealOf t a R H s p 3
    (x.g ≠ 0 → x.g = y.g ∧ x.d = y.d ∧ x.d ≤ far ∧ 0 ≤ (whereOf R H x.g).1 ∧ farOf t p (whereOf R H x.g).1 = x.d) ∧ (x.g = 0 → y.g ≠ 0 → far < y.d) := by
  intro x y
  have hm := th.m
  have hp := th.p
  have hpre := vict_pre (far := far) (far' := 3) hm hp (by omega)
  rcases steal_cases far th with ⟨q, l, hv, hs⟩ | ⟨hv, hf, _⟩ | ⟨hv, hs, _⟩
  · have hq := (vict_mem (q := q) (far := far) hm hp).mp (by rw [hv]; simp)
    have st := take_stays th hq.1 hq.2.1 hq.2.2.1
    have hy : y = takeOf t a R H p q := by
      rcases steal_cases 3 th with ⟨q', l', hv', hs'⟩ | ⟨hv', _⟩ | ⟨hv', _⟩
      · rw [hv, hv', List.cons_prefix_cons] at hpre
        rw [show y = _ from hs', hpre.1]
      · rw [hv, hv'] at hpre; simp at hpre
      · rw [hv, hv'] at hpre; simp at hpre
    have hx : x = takeOf t a R H p q := hs
    rw [hx, hy]
    have hw := where_at hm hq.1 (half_head hq.2.2.1)
    have q0 := (hm.inP.mp hq.1).1
    refine ⟨fun _ => ⟨rfl, rfl, hq.2.2.2, ?_, ?_⟩, fun h => absurd h st.g⟩
    · rw [show (takeOf t a R H p q).g = (halfR (rg R q)).2.headD 0 from rfl, hw]; exact q0
    · rw [show (takeOf t a R H p q).g = (halfR (rg R q)).2.headD 0 from rfl, hw]; rfl
  · omega
  · have hx : x = ⟨R, H, 0, -1⟩ := hs
    rw [hx]
    refine ⟨fun h => absurd rfl h, fun _ hy => ?_⟩
    rcases steal_cases 3 th with ⟨q', l', hv', hs'⟩ | ⟨hv', _, m, _, _, hs'⟩ | ⟨hv', hs', _⟩
    · have hq := (vict_mem (q := q') (far := 3) hm hp).mp (by rw [hv']; simp)
      rw [show y = _ from hs']
      show far < farOf t p q'
      rcases Int.lt_or_le far (farOf t p q') with h | h
      · exact h
      · have := (vict_mem (q := q') (far := far) hm hp).mpr ⟨hq.1, hq.2.1, hq.2.2.1, h⟩
        rw [hv] at this; cases this
    · rw [show y = _ from hs']; exact h3
    · exact absurd (by rw [show y = _ from hs']) hy
theorem stealNear_g (r : SRN) (hs : U64 r.s) (p : Int) {wp : Prop} (_ : wp) : Gv P XN 10 [encN r, I p] (B true) := by
  obtain ⟨t, a, R, H, s⟩ := r
  have hs : U64 s := hs
  refine gv_of (lowN _ (by decide)) fun10 rfl ?_
  have hfew := few_g lowN t a R H s
  simp +decide only [Try.f10, encN, encRR, go_sem, Nat.reduceAdd]
  refine WO_call rfl rfl rfl rfl rfl shown17_g ?_
  simp +decide only [go_sem, Nat.reduceAdd]
  refine WO_call rfl rfl rfl rfl rfl hfew ?_
  cases hF : fewB t R H
  · simp +decide only [go_sem, Nat.reduceAdd]
    refine WO_not rfl ?_
    simp +decide only [go_sem, Nat.reduceAdd]
    exact ⟨_, rfl, rfl, rfl⟩
  obtain ⟨ht, f1, f2, f3, f4⟩ := fewB_of hF
  have f : Fw R H := ⟨by omega, by omega, fun x hx => by have := f3 x hx; omega, fun x hx => by have := f4 x hx; omega⟩
  simp +decide only [go_sem, Nat.reduceAdd]
  refine WO_call rfl rfl rfl rfl rfl (thief_g lowN t a R H s p ht hs f) ?_
  cases hT : thiefB t a R H s p
  · simp +decide only [go_sem, Nat.reduceAdd]
    exact ⟨_, rfl, rfl, rfl⟩
  have th := thief_iff.mp hT
  simp +decide only [go_sem, Nat.reduceAdd]
  refine WO_call rfl rfl rfl rfl rfl (made17_g lowN t a R H s f) ?_
  simp +decide only [go_sem, Nat.reduceAdd, encRR, wrc, splice, encT]
  refine WO_call rfl rfl rfl rfl rfl (steal_g t a R H s p 3 ht hs f) ?_
  have key : ∀ far : Int, far < 3 → _ := fun far h => near_plain th h
  simp only at key
  unfold encSto
  generalize stealOf t a R H s p 3 = y at key
  simp +decide only [go_sem, Nat.reduceAdd, encRR, wrc, splice, encT]
  refine W_ind (fun k st => ∃ d : Nat, d + k = 3 ∧ FrIs 98 [(1, I p), (2, .ptr 0 0), (5, B true), (6, .ptr 1 0), (8, I y.g), (9, I y.d), (10, I d)] st.fr ∧ (∃ J, st.S = .var false [encT t, I a, .sl .no (R.map encG), .sl .no (H.map L), U s] :: .var false [encT t, I a, .sl .no (R.map encG), .sl .no (H.map L), U s] :: J) ∧ st.T = []) ?_ (n := 3) ⟨0, rfl, ⟨rfl, rfl, rfl, rfl, rfl, rfl, rfl, rfl, trivial⟩, ⟨_, rfl⟩, rfl⟩
  rintro k ⟨L', S, T⟩ ih ⟨d, hd, hFr, ⟨J, rfl⟩, rfl⟩
  obtain ⟨j, rfl⟩ := hFr.ex
  have hw := wrap_nat d (by omega)
  simp +decide only [fr, jl, Nat.reduceAdd, go_sem]
  refine Wif_of (fun h => ?_) (fun h => ?_)
  · have hd3 : (d : Int) < 3 := by simpa using h
    have hk := key (d : Int) hd3
    have hst := steal_g t a R H s p (d : Int) ht hs f
    unfold encSto at hst
    simp +decide only [go_sem, Nat.reduceAdd, encT]
    refine WO_call rfl rfl rfl rfl rfl hst ?_
    generalize stealOf t a R H s p (d : Int) = x at hk
    simp +decide only [go_sem, Nat.reduceAdd, encRR, wrc, splice, encT]
    refine WO_call rfl rfl rfl rfl rfl (where_g t a R H s x.g f) ?_
    have hnext : ∀ fr' J', FrIs 98 [(1, I p), (2, .ptr 0 0), (5, B true), (6, .ptr 1 0), (8, I y.g), (9, I y.d), (10, I ((d + 1 : Nat) : Int))] fr' → _ := fun fr' J' hfr => ih (k - 1) ⟨fr', .var false [encT t, I a, .sl .no (R.map encG), .sl .no (H.map L), U s] :: .var false [encT t, I a, .sl .no (R.map encG), .sl .no (H.map L), U s] :: J', []⟩ (by omega) ⟨d + 1, by omega, hfr, ⟨J', rfl⟩, rfl⟩
    by_cases hz : x.g = 0
    · have c1 : (x.g != 0) = false := bne_no hz
      have c2 : (x.g == 0) = true := beq_yes hz
      by_cases hy : y.g = 0
      · have c3 : (y.g != 0) = false := bne_no hy
        simp +decide only [go_sem, Nat.reduceAdd, c1, c2, c3]
        refine WO_not rfl ?_
        simp +decide only [go_sem, Nat.reduceAdd, c1, c2, c3, hw]
        exact hnext _ _ ⟨rfl, rfl, rfl, rfl, rfl, rfl, rfl, rfl, trivial⟩
      · have c3 : (y.g != 0) = true := by simpa using hy
        have c4 : ¬ y.d ≤ (d : Int) := by have := hk.2 hz hy; omega
        simp +decide only [go_sem, Nat.reduceAdd, c1, c2, c3, c4]
        refine WO_not rfl ?_
        simp +decide only [go_sem, Nat.reduceAdd, c1, c2, c3, c4, hw]
        exact hnext _ _ ⟨rfl, rfl, rfl, rfl, rfl, rfl, rfl, rfl, trivial⟩
    · obtain ⟨k1, k2, k3, k4, k5⟩ := hk.1 hz
      have c1 : (x.g != 0) = true := by simpa using hz
      have c2 : (x.g == 0) = false := beq_no hz
      have c3 : (x.g != y.g) = false := bne_no k1
      have c4 : (x.d != y.d) = false := bne_no k2
      have c5 : ¬ (d : Int) < x.d := by omega
      have c6 : ¬ (whereOf R H x.g).1 < 0 := by omega
      have c7 : (farOf t p (whereOf R H x.g).1 != x.d) = false := bne_no k5
      simp +decide only [go_sem, Nat.reduceAdd, c1, c2, c3, c4, c5, c6, encT]
      refine WO_call rfl rfl rfl rfl rfl (far_g lowN t p (whereOf R H x.g).1 (by omega)) ?_
      simp +decide only [go_sem, Nat.reduceAdd, c1, c2, c7, hw]
      exact hnext _ _ ⟨rfl, rfl, rfl, rfl, rfl, rfl, rfl, rfl, trivial⟩
  · simp +decide only [go_sem, Nat.reduceAdd]
    exact ⟨_, rfl, rfl, rfl⟩
end Go.Proofs.Ytplpmelpoajpdaa.Ev
namespace Go.Proofs.Ytplpmelpoajpdaa.Ev
open Go Go.Proofs
open Go.RowKit (wrap64)
set_option linter.unusedVariables false
set_option linter.unusedSimpArgs false
set_option maxRecDepth 100000
set_option maxHeartbeats 2000000
theorem count_snoc {l : List Int} {i : Nat} {x y : Int} (h : l[i]? = some x) : (l.take (i + 1)).count y = (l.take i).count y + (if (x == y) = true then 1 else 0) := by
  rw [take_snoc h, List.count_append, List.count_singleton]
theorem count_le' (l : List Int) (y : Int) : l.count y ≤ l.length := List.count_le_length
section
variable {X : Prims} (hX : Low X)
include hX
/-- Where the members are the same, as often, it says so. -/
theorem bag_g (a b : List Int) (ha : a.length ≤ 100000) (hp : a.Perm b) : Gv P X 33 [L a, L b] (B true) := by
  refine gv_of (hX _ (by decide)) fun33 rfl ?_
  have hl := hp.length_eq
  have hne : ((a.length : Int) != (b.length : Int)) = false := by simp; omega
  simp +decide only [Try.f33, go_sem, hne]
  refine W_ind (fun k st => ∃ i : Nat, i + k = a.length ∧ FrIs 49 [(0, L a), (1, L b), (5, I i)] st.fr ∧ st.S = [] ∧ st.T = []) ?_ (n := a.length) ⟨0, by omega, ⟨rfl, rfl, rfl, rfl, trivial⟩, rfl, rfl⟩
  rintro k ⟨L', S, T⟩ ih ⟨i, hi, hF, rfl, rfl⟩
  obtain ⟨j, rfl⟩ := hF.ex
  have hw := wrap_nat i (by omega)
  simp +decide only [fr, jl, Nat.reduceAdd, go_sem]
  refine Wif_of (fun h => ?_) (fun h => ?_)
  · have hlt : i < a.length := by simpa using h
    obtain ⟨y, hy, _⟩ := getE hlt
    simp +decide only [go_sem]
    refine W_ind (fun k st => ∃ n : Nat, n + k = a.length ∧ FrIs 49 [(0, L a), (1, L b), (5, I i), (6, I (((a.take n).count y : Int) - ((b.take n).count y : Int))), (7, I n)] st.fr ∧ st.S = [] ∧ st.T = []) ?_ (n := a.length) ⟨0, by omega, ⟨rfl, rfl, rfl, rfl, by simp, rfl, trivial⟩, rfl, rfl⟩
    rintro k2 ⟨L', S, T⟩ ih2 ⟨n, hn, hF, rfl, rfl⟩
    obtain ⟨j, rfl⟩ := hF.ex
    have hw2 := wrap_nat n (by omega)
    simp +decide only [fr, jl, Nat.reduceAdd, go_sem]
    refine Wif_of (fun h => ?_) (fun h => ?_)
    · have hlt2 : n < a.length := by simpa using h
      obtain ⟨x1, hx1, _⟩ := getE hlt2
      obtain ⟨x2, hx2, _⟩ := getE (show n < b.length by omega)
      have c1 := count_snoc (y := y) hx1
      have c2 := count_snoc (y := y) hx2
      have d1 := count_le' (a.take n) y
      have d2' := count_le' (b.take n) y
      have d3 : (a.take n).length ≤ a.length := List.length_take_le' _ _
      have d4 : (b.take n).length ≤ b.length := List.length_take_le' _ _
      generalize (a.take n).count y = u at *
      generalize (b.take n).count y = v at *
      have w1 : IntKind.i64.wrap ((u : Int) - v + 1) = (u : Int) - v + 1 := wrap64_of (by omega)
      have w2 : IntKind.i64.wrap ((u : Int) - v + 1 - 1) = (u : Int) - v + 1 - 1 := wrap64_of (by omega)
      have w3 : IntKind.i64.wrap ((u : Int) - v - 1) = (u : Int) - v - 1 := wrap64_of (by omega)
      simp +decide only [go_sem]
      refine W_draw hmx (by kernel_rfl) ?_
      simp +decide only [go_sem, hx1, hy]
      refine Wif_of (fun h1 => ?_) (fun h1 => ?_)
      · simp +decide only [go_sem, w1]
        refine W_draw hmx (by kernel_rfl) ?_
        simp +decide only [go_sem, hx2, hy]
        refine Wif_of (fun h2 => ?_) (fun h2 => ?_)
        · simp +decide only [go_sem, w2, hw2]
          refine ih2 (k2 - 1) _ (by omega) ⟨n + 1, by omega, ⟨rfl, rfl, rfl, rfl, ?_, rfl, trivial⟩, rfl, rfl⟩
          rw [c1, c2, if_pos h1, if_pos h2]
          exact congrArg I (by omega)
        · simp +decide only [go_sem, hw2]
          refine ih2 (k2 - 1) _ (by omega) ⟨n + 1, by omega, ⟨rfl, rfl, rfl, rfl, ?_, rfl, trivial⟩, rfl, rfl⟩
          rw [c1, c2, if_pos h1, if_neg (by rw [h2]; decide)]
          exact congrArg I (by omega)
      · simp +decide only [go_sem]
        refine W_draw hmx (by kernel_rfl) ?_
        simp +decide only [go_sem, hx2, hy]
        refine Wif_of (fun h2 => ?_) (fun h2 => ?_)
        · simp +decide only [go_sem, w3, hw2]
          refine ih2 (k2 - 1) _ (by omega) ⟨n + 1, by omega, ⟨rfl, rfl, rfl, rfl, ?_, rfl, trivial⟩, rfl, rfl⟩
          rw [c1, c2, if_neg (by rw [h1]; decide), if_pos h2]
          exact congrArg I (by omega)
        · simp +decide only [go_sem, hw2]
          refine ih2 (k2 - 1) _ (by omega) ⟨n + 1, by omega, ⟨rfl, rfl, rfl, rfl, ?_, rfl, trivial⟩, rfl, rfl⟩
          rw [c1, c2, if_neg (by rw [h1]; decide), if_neg (by rw [h2]; decide)]
          exact congrArg I (by omega)
    · have hn' : n = a.length := by simp at h; omega
      subst hn'
      have e0 : ((a.take a.length).count y : Int) - ((b.take a.length).count y : Int) = 0 := by
        rw [List.take_length, hl, List.take_length, List.perm_iff_count.mp hp y]; omega
      simp only [e0]
      simp +decide only [go_sem]
      refine Wif_of (fun h => absurd h (by decide)) (fun _ => ?_)
      simp +decide only [go_sem, hw]
      exact ih (k - 1) _ (by omega) ⟨i + 1, by omega, ⟨rfl, rfl, rfl, rfl, trivial⟩, rfl, rfl⟩
  · simp +decide only [go_sem]
    exact ⟨_, rfl, rfl, rfl⟩
end
end Go.Proofs.Ytplpmelpoajpdaa.Ev
namespace Go.Proofs.Ytplpmelpoajpdaa.Ev
open Go Go.Proofs
open Go.RowKit (wrap64)
set_option linter.unusedVariables false
set_option linter.unusedSimpArgs false
set_option maxRecDepth 100000
set_option maxHeartbeats 4000000
theorem some_plain {t : List SVtx} {a : Int} {R : List SRr} {H : List (List Int)} {s p : Int} (th : Thief t a R H s p) (far : Int) (h0 : 0 ≤ far) (h3 : far ≤ 3) :
    let x := stealOf t a R H s p far
    (x.g = 0 → x.d = -1 ∧ x.R = R ∧ x.H = H) ∧ (x.g ≠ 0 → Stays t a R H s x ∧ 1 ≤ x.d ∧ x.d ≤ far) := by
  intro x
  have hm := th.m
  have hp := th.p
  rcases steal_cases far th with ⟨q, l, hv, hs⟩ | ⟨hv, hf, m, hml, hne, hs⟩ | ⟨hv, hs, _⟩
  · have hq := (vict_mem (q := q) (far := far) hm hp).mp (by rw [hv]; simp)
    have st := take_stays th hq.1 hq.2.1 hq.2.2.1
    rw [show x = _ from hs]
    have hfp := far_pos hp hq.1 (Ne.symm hq.2.1)
    exact ⟨fun h => absurd h st.g, fun _ => ⟨st, hfp.1, hq.2.2.2⟩⟩
  · have st := row_stays th hml hne
    rw [show x = _ from hs]
    exact ⟨fun h => absurd h st.g, fun _ => ⟨st, by simp, by simpa using hf⟩⟩
  · rw [show x = _ from hs]
    exact ⟨fun _ => ⟨rfl, rfl, rfl⟩, fun h => absurd rfl h⟩
theorem may_few {t : List SVtx} {a : Int} {R : List SRr} {H : List (List Int)} {s : Int} (hm : May t a R H s) (h40 : R.length ≤ 64) (hh : H.length ≤ 64) (hl : ∀ l ∈ H, l.length ≤ 500) : Fw R H := by
  refine ⟨h40, hh, fun x hx => ?_, hl⟩
  obtain ⟨i, hi, rfl⟩ := List.getElem_of_mem hx
  have h1 := hm.len i hi
  have e1 : rg R (i : Int) = R[i] := by simp [rg, hi]
  rw [e1] at h1
  have := hm.a16
  omega
theorem flat_mem_len {H : List (List Int)} : ∀ l ∈ H, l.length ≤ H.flatten.length := by
  intro l hl
  induction H with
  | nil => cases hl
  | cons a H ih =>
    rw [List.flatten_cons, List.length_append]
    rcases List.mem_cons.mp hl with rfl | hl
    · omega
    · have := ih hl; omega
theorem steal_rows {t : List SVtx} {a : Int} {R : List SRr} {H : List (List Int)} {s p far : Int} (f : Fw R H) (hr : ∀ x ∈ R, x.f1.length ≤ 40) (hl : ∀ l ∈ H, l.length ≤ 40) : ∀ l ∈ (stealOf t a R H s p far).H, l.length ≤ 500 := by
  have key : ∀ (i : Nat) (y : List Int), y.length ≤ 500 → ∀ l ∈ H.set i y, l.length ≤ 500 := fun i y hy l hl2 => by
    rcases List.mem_or_eq_of_mem_set hl2 with h | h
    · have := hl l h; omega
    · subst h; exact hy
  have hrow : ∀ n : Int, (hrow H n).length ≤ 40 := fun n => by
    unfold Ev.hrow
    rw [List.getD_eq_getElem?_getD]
    cases e : H[n.toNat]? with
    | none => simp
    | some y => exact hl y (List.mem_of_getElem? e)
  have hring : ∀ q : Int, (rg R q).f1.length ≤ 40 := fun q => by
    unfold rg
    rw [List.getD_eq_getElem?_getD]
    cases e : R[q.toNat]? with
    | none => decide
    | some y => exact hr y (List.mem_of_getElem? e)
  unfold stealOf
  split
  · split
    · rename_i q l hv
      unfold takeOf
      refine key _ _ ?_
      have h1 := hrow (nodeOf t p)
      have h2 := (halfR_len (x := rg R q)).1
      have h3 := hring q
      simp; omega
    · split
      · unfold rowOfS
        split
        · refine key _ _ ?_
          rename_i m _
          have := hrow (m : Int); simp; omega
        · exact fun l h => by have := hl l h; omega
      · exact fun l h => by have := hl l h; omega
  · exact fun l h => by have := hl l h; omega
theorem stealSome_g (r : SRN) (hs : U64 r.s) (p far : Int) (hfar : (Lit.int .u8 far).wf = true) {wp : Prop} (_ : wp) : Gv P XN 6 [encN r, I p, .v (.int .u8 far)] (B true) := by
  obtain ⟨t, a, R, H, s⟩ := r
  have hs : U64 s := hs
  have hfr : 0 ≤ far ∧ far ≤ 255 := by
    have : IntKind.u8.min ≤ far ∧ far ≤ IntKind.u8.max := by simpa [Lit.wf] using hfar
    exact this
  refine gv_of (lowN _ (by decide)) fun6 rfl ?_
  have hfew := few_g lowN t a R H s
  simp +decide only [Try.f6, encN, encRR, go_sem, Nat.reduceAdd]
  refine WO_call rfl rfl rfl rfl rfl shown17_g ?_
  simp +decide only [go_sem, Nat.reduceAdd]
  refine WO_call rfl rfl rfl rfl rfl hfew ?_
  cases hF : fewB t R H
  · simp +decide only [go_sem, Nat.reduceAdd]
    refine WO_not rfl ?_
    simp +decide only [go_sem, Nat.reduceAdd]
    exact ⟨_, rfl, rfl, rfl⟩
  obtain ⟨ht, f1, f2, f3, f4⟩ := fewB_of hF
  have f : Fw R H := ⟨by omega, by omega, fun x hx => by have := f3 x hx; omega, fun x hx => by have := f4 x hx; omega⟩
  simp +decide only [go_sem, Nat.reduceAdd]
  refine WO_call rfl rfl rfl rfl rfl (thief_g lowN t a R H s p ht hs f) ?_
  cases hT : thiefB t a R H s p
  · simp +decide only [go_sem, Nat.reduceAdd]
    exact ⟨_, rfl, rfl, rfl⟩
  have th := thief_iff.mp hT
  have hm := th.m
  simp +decide only [go_sem, Nat.reduceAdd]
  refine WO_call rfl rfl rfl rfl rfl (made17_g lowN t a R H s f) ?_
  simp +decide only [go_sem, Nat.reduceAdd, encRR, wrc, splice, encT]
  have h3 := steal_g t a R H s p 3 ht hs f
  have hsm := steal_some th
  have hp3 := some_plain th 3 (by decide) (by decide)
  unfold encSto at h3
  refine WO_call rfl rfl rfl rfl rfl h3 ?_
  have e4 : ∃ d : Int, Int.tmod far 4 = d ∧ 0 ≤ d ∧ d ≤ 3 := ⟨far % 4, Int.tmod_eq_emod_of_nonneg hfr.1, by omega, by omega⟩
  obtain ⟨d, e4, d0, d3⟩ := e4
  have w1 : IntKind.i64.wrap d = d := wrap64_of (by omega)
  have n4 : ¬ (4 : Int) = 0 := by decide
  have hst := steal_g t a R H s p d ht hs f
  have hpl := some_plain th d d0 d3
  have hrw := steal_rows (t := t) (a := a) (s := s) (p := p) (far := d) f f3 f4
  unfold encSto at hst
  simp +decide only [go_sem, Nat.reduceAdd, encRR, wrc, splice, encT, e4, w1, n4, convA, Option.isSome_some]
  refine WO_call rfl rfl rfl rfl rfl hst ?_
  simp only at hp3 hpl
  generalize hy : stealOf t a R H s p 3 = y at *
  have hxy : d ≤ 3 → (stealOf t a R H s p d).g ≠ 0 → y.g ≠ 0 := fun _ hx => by
    rw [← hy]
    refine (steal_some th).mpr fun e => ?_
    have := ((hpl.2 hx).1).perm.length_eq
    rw [e] at this; simp at this
  generalize stealOf t a R H s p d = x at *
  simp +decide only [go_sem, Nat.reduceAdd, encRR, wrc, splice, encT]
  refine WO_call rfl rfl rfl rfl rfl (runs_all_g lowN t a R H s f) ?_
  have hA := f.all
  simp +decide only [go_sem, Nat.reduceAdd]
  by_cases hyz : y.g = 0
  · have hA0 : allR R H = [] := Decidable.byContradiction fun h => hsm.mpr h hyz
    have hxz : x.g = 0 := Decidable.byContradiction fun h => hxy d3 h hyz
    obtain ⟨h1, h2, h3⟩ := hpl.1 hxz
    have c1 : (y.g != 0) = false := bne_no hyz
    have c2 : (y.g == 0) = true := beq_yes hyz
    have c3 : (y.d == -1) = true := beq_yes (hp3.1 hyz).1
    have c4 : (x.g != 0) = false := bne_no hxz
    have c5 : (x.g == 0) = true := beq_yes hxz
    have c6 : (x.d == -1) = true := beq_yes h1
    have hin := ints_g (X := XN) lowN (allR R H) (allR R H) (by omega)
    rw [decide_eq_true rfl] at hin
    have hra := runs_all_g (X := XN) lowN t a R H s f
    rw [hA0] at hin hra
    rw [hA0, h2, h3]
    simp +decide only [go_sem, Nat.reduceAdd, c1, c2, c3, c4, c5, c6]
    refine W_draw hmx (by kernel_rfl) ?_
    simp +decide only [go_sem, Nat.reduceAdd, c1, c2, c3, c4, c5, c6, encT]
    refine WO_call rfl rfl rfl rfl rfl hra ?_
    simp +decide only [go_sem, Nat.reduceAdd, encT]
    refine WO_call rfl rfl rfl rfl rfl hra ?_
    simp +decide only [go_sem, Nat.reduceAdd, encT]
    refine WO_call rfl rfl rfl rfl rfl hin ?_
    simp +decide only [go_sem, Nat.reduceAdd, encT]
    exact ⟨_, rfl, rfl, rfl⟩
  · have hA0 : allR R H ≠ [] := hsm.mp hyz
    have hAl : (0 : Int) < ((allR R H).length : Int) := by have := List.length_pos_iff.mpr hA0; omega
    have hyd := (hp3.2 hyz).2
    have c1 : (y.g != 0) = true := by simpa using hyz
    have c2 : (y.g == 0) = false := beq_no hyz
    have c3 : (y.d == -1) = false := beq_no (by omega)
    by_cases hxz : x.g = 0
    · obtain ⟨h1, h2, h3⟩ := hpl.1 hxz
      have c4 : (x.g != 0) = false := bne_no hxz
      have c5 : (x.g == 0) = true := beq_yes hxz
      have c6 : (x.d == -1) = true := beq_yes h1
      have hin := ints_g (X := XN) lowN (allR R H) (allR R H) (by omega)
      rw [decide_eq_true rfl] at hin
      have hra := runs_all_g (X := XN) lowN t a R H s f
      rw [h2, h3]
      generalize allR R H = A at *
      simp +decide only [go_sem, Nat.reduceAdd, c1, c2, c3, c4, c5, c6, hAl]
      refine W_draw hmx (by kernel_rfl) ?_
      simp +decide only [go_sem, Nat.reduceAdd, c1, c2, c3, c4, c5, c6, encT]
      refine WO_call rfl rfl rfl rfl rfl hra ?_
      simp +decide only [go_sem, Nat.reduceAdd, encT]
      refine WO_call rfl rfl rfl rfl rfl hra ?_
      simp +decide only [go_sem, Nat.reduceAdd, encT]
      refine WO_call rfl rfl rfl rfl rfl hin ?_
      simp +decide only [go_sem, Nat.reduceAdd, encT]
      exact ⟨_, rfl, rfl, rfl⟩
    · obtain ⟨st, x1, x2⟩ := hpl.2 hxz
      have hmx2 := st.may hm
      have fx : Fw x.R x.H := may_few hmx2 (by rw [st.rl]; omega) (by rw [st.hl]; omega) hrw
      have c4 : (x.g != 0) = true := by simpa using hxz
      have c5 : (x.g == 0) = false := beq_no hxz
      have c7 : (1 : Int) ≤ x.d := x1
      have hmy := runs_may_g (X := XN) lowN t a x.R x.H s ht hs fx
      rw [may_iff.mpr hmx2] at hmy
      have hAx := fx.all
      have hra := runs_all_g (X := XN) lowN t a R H s f
      have hrx := runs_all_g (X := XN) lowN t a x.R x.H s fx
      have hbg := bag_g (X := XN) lowN (x.g :: allR x.R x.H) (allR R H) (by simp; omega) st.perm
      have hF : App P 3 [] (.sl .full ([x.g].map I)) ([x.g].map I) := .inr (.inl ⟨rfl, uniI _⟩)
      obtain ⟨v2, T2, happ2, hA2⟩ := app_ints hF (allR x.R x.H) .no (by simp; omega)
      obtain ⟨o2, rfl⟩ := hA2.is
      simp only [List.map_cons, List.map_nil] at happ2
      simp only [List.cons_append, List.nil_append] at happ2
      generalize allR R H = A at *
      generalize allR x.R x.H = A2 at *
      simp +decide only [go_sem, Nat.reduceAdd, c1, c2, c3, c4, c5, hAl]
      refine W_draw hmx (by kernel_rfl) ?_
      simp +decide only [go_sem, Nat.reduceAdd, c1, c2, c3, c4, c5, c7, x2, e4, w1, n4, convA, Option.isSome_some, encT]
      refine WO_call rfl rfl rfl rfl rfl hmy ?_
      simp +decide only [go_sem, Nat.reduceAdd, encT]
      refine WO_call rfl rfl rfl rfl rfl hrx ?_
      simp +decide only [go_sem, Nat.reduceAdd, encT, happ2]
      refine WO_call rfl rfl rfl rfl rfl hra ?_
      simp +decide only [go_sem, Nat.reduceAdd, encT]
      refine WO_call rfl rfl rfl rfl rfl hbg ?_
      simp +decide only [go_sem, Nat.reduceAdd, encT]
      exact ⟨_, rfl, rfl, rfl⟩
end Go.Proofs.Ytplpmelpoajpdaa.Ev
namespace Go.Proofs.Ytplpmelpoajpdaa.Ev
open Go Go.Proofs
open Go.RowKit (wrap64)
set_option linter.unusedVariables false
set_option linter.unusedSimpArgs false
set_option maxRecDepth 100000
set_option maxHeartbeats 4000000
theorem stealOthers_g (r : SRN) (hs : U64 r.s) (p far : Int) {wp : Prop} (_ : wp) : Gv P XN 7 [encN r, I p, I far] (B true) := by
  obtain ⟨t, a, R, H, s⟩ := r
  have hs : U64 s := hs
  refine gv_of (lowN _ (by decide)) fun7 rfl ?_
  have hfew := few_g lowN t a R H s
  simp +decide only [Try.f7, encN, encRR, go_sem, Nat.reduceAdd]
  refine WO_call rfl rfl rfl rfl rfl shown17_g ?_
  simp +decide only [go_sem, Nat.reduceAdd]
  refine WO_call rfl rfl rfl rfl rfl hfew ?_
  cases hF : fewB t R H
  · simp +decide only [go_sem, Nat.reduceAdd]
    refine WO_not rfl ?_
    simp +decide only [go_sem, Nat.reduceAdd]
    exact ⟨_, rfl, rfl, rfl⟩
  obtain ⟨ht, f1, f2, f3, f4⟩ := fewB_of hF
  have f : Fw R H := ⟨by omega, by omega, fun x hx => by have := f3 x hx; omega, fun x hx => by have := f4 x hx; omega⟩
  simp +decide only [go_sem, Nat.reduceAdd]
  refine WO_call rfl rfl rfl rfl rfl (thief_g lowN t a R H s p ht hs f) ?_
  cases hT : thiefB t a R H s p
  · have hst := steal_g t a R H s p far ht hs f
    have e : stealOf t a R H s p far = ⟨R, H, 0, -1⟩ := by unfold stealOf; rw [hT]; rfl
    rw [e] at hst
    unfold encSto at hst
    have hsm := same_g lowN t t a a R R H H s s f
    rw [decide_eq_true ⟨rfl, rfl, rfl⟩] at hsm
    simp +decide only [go_sem, Nat.reduceAdd]
    refine WO_call rfl rfl rfl rfl rfl (made17_g lowN t a R H s f) ?_
    simp +decide only [go_sem, Nat.reduceAdd, encRR, wrc, splice, encT]
    refine WO_call rfl rfl rfl rfl rfl hst ?_
    simp +decide only [go_sem, Nat.reduceAdd, encRR, wrc, splice, encT]
    refine W_draw hmx (by kernel_rfl) ?_
    simp +decide only [go_sem, Nat.reduceAdd, encRR, wrc, splice, encT]
    refine WO_call rfl rfl rfl rfl rfl (real_g lowN t a R H s f) ?_
    simp +decide only [go_sem, Nat.reduceAdd, encRR, wrc, splice, encT]
    refine WO_call rfl rfl rfl rfl rfl hsm ?_
    simp +decide only [go_sem, Nat.reduceAdd]
    exact ⟨_, rfl, rfl, rfl⟩
  · simp +decide only [go_sem, Nat.reduceAdd]
    exact ⟨_, rfl, rfl, rfl⟩
end Go.Proofs.Ytplpmelpoajpdaa.Ev
namespace Go.Proofs.Ytplpmelpoajpdaa.Ev
open Go Go.Proofs
open Go.RowKit (wrap64)
set_option linter.unusedVariables false
set_option linter.unusedSimpArgs false
set_option maxRecDepth 100000
set_option maxHeartbeats 4000000
theorem vict_out {t : List SVtx} {a : Int} {R : List SRr} {H : List (List Int)} {s p far : Int} (hp : ¬ inP t p) : victOf t a R H s p far = [] := by
  have hn : nearOf t p = [] := by unfold nearOf; rw [if_neg hp]
  unfold victOf
  rw [hn]; split <;> rfl
theorem vict_pre' {t : List SVtx} {a : Int} {R : List SRr} {H : List (List Int)} {s p far far' : Int} (hm : May t a R H s) (h : far ≤ far') : victOf t a R H s p far <+: victOf t a R H s p far' := by
  by_cases hp : inP t p
  · exact vict_pre hm hp h
  · rw [vict_out hp]; exact List.nil_prefix
theorem vict_len {t : List SVtx} {a : Int} {R : List SRr} {H : List (List Int)} {s p far : Int} : (victOf t a R H s p far).length ≤ 96 := by
  unfold victOf
  split
  · exact Nat.le_trans (List.length_filter_le _ _) nearOf_len
  · simp
theorem stealVictims_g (r : SRN) (hs : U64 r.s) (p : Int) {wp : Prop} (_ : wp) : Gv P XN 9 [encN r, I p] (B true) := by
  obtain ⟨t, a, R, H, s⟩ := r
  have hs : U64 s := hs
  refine gv_of (lowN _ (by decide)) fun9 rfl ?_
  have hfew := few_g lowN t a R H s
  simp +decide only [Try.f9, encN, encRR, go_sem, Nat.reduceAdd]
  refine WO_call rfl rfl rfl rfl rfl shown17_g ?_
  simp +decide only [go_sem, Nat.reduceAdd]
  refine WO_call rfl rfl rfl rfl rfl hfew ?_
  cases hF : fewB t R H
  · simp +decide only [go_sem, Nat.reduceAdd]
    refine WO_not rfl ?_
    simp +decide only [go_sem, Nat.reduceAdd]
    exact ⟨_, rfl, rfl, rfl⟩
  obtain ⟨ht, f1, f2, f3, f4⟩ := fewB_of hF
  have f : Fw R H := ⟨by omega, by omega, fun x hx => by have := f3 x hx; omega, fun x hx => by have := f4 x hx; omega⟩
  simp +decide only [go_sem, Nat.reduceAdd]
  refine WO_call rfl rfl rfl rfl rfl (rmay_g lowN t a R H s ht hs f) ?_
  cases hM : mayB t a R H s
  · simp +decide only [go_sem, Nat.reduceAdd]
    exact ⟨_, rfl, rfl, rfl⟩
  have hm := may_iff.mp hM
  have hr := f.r
  simp +decide only [go_sem, Nat.reduceAdd]
  refine WO_call rfl rfl rfl rfl rfl (made17_g lowN t a R H s f) ?_
  simp +decide only [go_sem, Nat.reduceAdd, encRR, wrc, splice, encT]
  refine W_ind (fun k st => ∃ (d : Nat) (o : Tok) (l0 : List Int), d + k = 5 ∧ FrIs 108 [(1, I p), (2, .ptr 0 0), (5, B true), (6, .ptr 1 0), (7, .sl o (l0.map I)), (8, I d)] st.fr ∧ st.S = [.var false [encT t, I a, .sl .no (R.map encG), .sl .no (H.map L), U s], .var false [encT t, I a, .sl .no (R.map encG), .sl .no (H.map L), U s]] ∧ st.T = [] ∧ l0 <+: victOf t a R H s p d) ?_ (n := 5) ⟨0, .nil, [], rfl, ⟨rfl, rfl, rfl, rfl, rfl, rfl, rfl, trivial⟩, rfl, rfl, List.nil_prefix⟩
  rintro k ⟨L', S, T⟩ ih ⟨d, o, l0, hd, hFr, rfl, rfl, hpre⟩
  obtain ⟨j, rfl⟩ := hFr.ex
  have hw := wrap_nat d (by omega)
  simp +decide only [fr, jl, Nat.reduceAdd, go_sem]
  refine Wif_of (fun h => ?_) (fun h => ?_)
  · have hd4 : d ≤ 4 := by simp at h; omega
    have hvl := @vict_len t a R H s p (d : Int)
    have hnext : victOf t a R H s p (d : Int) <+: victOf t a R H s p ((d + 1 : Nat) : Int) := vict_pre' hm (by omega)
    have hmem : ∀ q ∈ victOf t a R H s p (d : Int), inP t q ∧ q ≠ p ∧ rAll (rg R q) ≠ [] ∧ farOf t p q ≤ d := fun q hq => by
      by_cases hp : inP t p
      · exact (vict_mem hm hp).mp hq
      · rw [vict_out hp] at hq; cases hq
    simp +decide only [go_sem, Nat.reduceAdd, encT]
    refine WO_call rfl rfl rfl rfl rfl (vict_g t a R H s p (d : Int) ht hs f) ?_
    generalize victOf t a R H s p (d : Int) = l at *
    have hle := hpre.length_le
    have hnlt : ¬ (l.length : Int) < (l0.length : Int) := by omega
    have b0 : (0 : Int) ≤ (l0.length : Int) := by omega
    have b1 : (l0.length : Int) ≤ (l.length : Int) := by omega
    have htake : l.take l0.length = l0 := (List.prefix_iff_eq_take.mp hpre).symm
    have hin : Gv P XN 27 [.sl .no (List.take l0.length (l.map I)), L l0] (B true) := by
      have h := ints_g (X := XN) lowN (l.take l0.length) l0 (by simp; omega)
      rw [decide_eq_true htake] at h
      rw [← List.map_take]; exact h
    simp +decide only [go_sem, Nat.reduceAdd, hnlt, slA, b0, b1]
    refine WO_call rfl rfl rfl rfl rfl hin ?_
    simp +decide only [go_sem, Nat.reduceAdd]
    refine W_ind (fun k2 st => ∃ i : Nat, i + k2 = l.length ∧ FrIs 108 [(1, I p), (2, .ptr 0 0), (5, B true), (6, .ptr 1 0), (8, I d), (9, L l), (10, I i)] st.fr ∧ st.S = [.var false [encT t, I a, .sl .no (R.map encG), .sl .no (H.map L), U s], .var false [encT t, I a, .sl .no (R.map encG), .sl .no (H.map L), U s]] ∧ st.T = []) ?_ (n := l.length) ⟨0, by omega, ⟨rfl, rfl, rfl, rfl, rfl, rfl, rfl, rfl, trivial⟩, rfl, rfl⟩
    rintro k2 ⟨L', S, T⟩ ih2 ⟨i, hi, hFr, rfl, rfl⟩
    obtain ⟨j, rfl⟩ := hFr.ex
    have hwi := wrap_nat i (by omega)
    simp +decide only [fr, jl, Nat.reduceAdd, go_sem]
    refine Wif_of (fun h => ?_) (fun h => ?_)
    · have hlt : i < l.length := by simpa using h
      obtain ⟨q, hq, hqm⟩ := getE hlt
      obtain ⟨m1, m2, m3, m4⟩ := hmem q hqm
      have hq2 := hm.inP.mp m1
      have c1 : (q == p) = false := by simpa using m2
      have c2 : ¬ q < 0 := by omega
      have c3 : ¬ (R.length : Int) ≤ q := by omega
      have c4 : 0 ≤ q := hq2.1
      have c5 : ¬ (d : Int) < farOf t p q := by omega
      have eq : R[q.toNat]? = some (rg R q) := by simp [rg, show q.toNat < R.length by omega]
      have lq := f.rl _ (List.mem_of_getElem? eq)
      have c6 : (((rAll (rg R q)).length : Int) == 0) = false := by
        cases e : (((rAll (rg R q)).length : Int) == 0)
        · rfl
        · exact absurd (List.eq_nil_of_length_eq_zero (by have := eq_of_beq e; omega)) m3
      simp +decide only [go_sem, Nat.reduceAdd]
      refine W_draw hmx (by kernel_rfl) ?_
      simp +decide only [go_sem, Nat.reduceAdd, hq, c1, c2, c3, c4, eq, encG]
      refine WO_call rfl rfl rfl rfl rfl (ring_all_g lowN (rg R q).f0 (rg R q).f1 (by omega)) ?_
      change WO P XN _ _ _ _ _ ⟨put _ _ (L (rAll (rg R q))), _, _⟩ _
      simp +decide only [go_sem, Nat.reduceAdd, hq, c6, encT]
      refine WO_call rfl rfl rfl rfl rfl (far_g lowN t p q (by omega)) ?_
      simp +decide only [go_sem, Nat.reduceAdd, c5, hwi]
      exact ih2 (k2 - 1) _ (by omega) ⟨i + 1, by omega, ⟨rfl, rfl, rfl, rfl, rfl, rfl, rfl, rfl, trivial⟩, rfl, rfl⟩
    · simp +decide only [go_sem, Nat.reduceAdd, hw]
      exact ih (k - 1) _ (by omega) ⟨d + 1, .no, l, by omega, ⟨rfl, rfl, rfl, rfl, rfl, rfl, rfl, trivial⟩, rfl, rfl, hnext⟩
  · have hv0 : victOf t a R H s p 0 = [] := by
      cases hv : victOf t a R H s p 0 with
      | nil => rfl
      | cons q l =>
        have hp : inP t p := Decidable.byContradiction fun hp => by rw [vict_out hp] at hv; cases hv
        have := (vict_mem (q := q) (far := 0) hm hp).mp (by rw [hv]; simp)
        have h2 := far_pos hp this.1 (Ne.symm this.2.1)
        omega
    have hvg := vict_g t a R H s p 0 ht hs f
    rw [hv0] at hvg
    clear ih
    simp +decide only [go_sem, Nat.reduceAdd, encT]
    refine WO_call rfl rfl rfl rfl rfl hvg ?_
    simp +decide only [go_sem, Nat.reduceAdd]
    exact ⟨_, rfl, rfl, rfl⟩
end Go.Proofs.Ytplpmelpoajpdaa.Ev
namespace Go.Proofs.Ytplpmelpoajpdaa.Ev
open Go Go.Proofs
set_option linter.unusedVariables false
set_option linter.unusedSimpArgs false
theorem opI : OpE P 3 I (fun x => IntKind.i64.min ≤ x ∧ x ≤ IntKind.i64.max) := OpE.int Try.underlying3
theorem opV : OpE P 61 encV (fun x => (IntKind.i64.min ≤ x.f0 ∧ x.f0 ≤ IntKind.i64.max) ∧ (IntKind.i64.min ≤ x.f1 ∧ x.f1 ≤ IntKind.i64.max)) :=
  OpE.struct (fun x : SVtx => (x.f0, x.f1)) (fun a => ⟨a.1, a.2⟩) (fun _ => rfl) Try.underlying61 (fun _ => by kernel_rfl)
    (OpF.cons (en := I) (z := 1) rfl (by kernel_rfl) (fun _ => rfl) opI (OpF.one (en := I) (z := 1) rfl (by kernel_rfl) (fun _ => rfl) opI))
theorem opT : OpE P 22 encT (fun l : List SVtx => (∀ x ∈ l, (IntKind.i64.min ≤ x.f0 ∧ x.f0 ≤ IntKind.i64.max) ∧ (IntKind.i64.min ≤ x.f1 ∧ x.f1 ≤ IntKind.i64.max)) ∧ l.length * P.bytesOf 61 ≤ 140737488351232 ∧ l.length ≤ maxLen) :=
  OpE.slice Try.underlying22 (of_decide_eq_true (by kernel_rfl)) (fun _ => by kernel_rfl) opV
end Go.Proofs.Ytplpmelpoajpdaa.Ev
namespace Go.Proofs.Ytplpmelpoajpdaa.Ev
open Go Go.Proofs
set_option linter.unusedVariables false
set_option linter.unusedSimpArgs false
set_option maxRecDepth 100000
theorem opL : OpE P 48 (fun l : List Int => .sl .no (l.map I)) (fun _ => True) :=
  OpE.imp (OpE.slice Try.underlying48 (of_decide_eq_true (by kernel_rfl)) (fun _ => by kernel_rfl) opI) (fun _ _ => trivial)
theorem opU : OpE P 25 U (fun x => IntKind.u64.min ≤ x ∧ x ≤ IntKind.u64.max) := OpE.int Try.underlying25
theorem opG : OpE P 66 encG (fun _ => True) :=
  OpE.imp (OpE.struct (fun x : SRr => (x.f0, x.f1)) (fun a => ⟨a.1, a.2⟩) (fun _ => rfl) Try.underlying66 (fun _ => by kernel_rfl)
    (OpF.cons (en := I) (z := 1) rfl (by kernel_rfl) (fun _ => rfl) opI (OpF.one (en := fun l : List Int => .sl .no (l.map I)) (z := 1) rfl (by kernel_rfl) (fun _ => rfl) opL))) (fun _ _ => trivial)
theorem opGs : OpE P 23 (fun R : List SRr => .sl .no (R.map encG)) (fun _ => True) :=
  OpE.imp (OpE.slice Try.underlying23 (of_decide_eq_true (by kernel_rfl)) (fun _ => by kernel_rfl) opG) (fun _ _ => trivial)
theorem opHs : OpE P 24 (fun H : List (List Int) => .sl .no (H.map L)) (fun _ => True) :=
  OpE.imp (OpE.slice Try.underlying24 (of_decide_eq_true (by kernel_rfl)) (fun _ => by kernel_rfl) opL) (fun _ _ => trivial)
theorem opN : OpE P 27 encN (fun r => U64 r.s) :=
  OpE.imp (OpE.struct (fun r : SRN => (r.t, r.a, r.R, r.H, r.s)) (fun a => ⟨a.1, a.2.1, a.2.2.1, a.2.2.2.1, a.2.2.2.2⟩) (fun _ => rfl) Try.underlying27 (fun _ => by kernel_rfl)
    (OpF.cons (en := encT) (z := 1) rfl (by kernel_rfl) (fun _ => rfl) opT (OpF.cons (en := I) (z := 1) rfl (by kernel_rfl) (fun _ => rfl) opI
      (OpF.cons (en := fun R : List SRr => .sl .no (R.map encG)) (z := 1) rfl (by kernel_rfl) (fun _ => rfl) opGs (OpF.cons (en := fun H : List (List Int) => .sl .no (H.map L)) (z := 1) rfl (by kernel_rfl) (fun _ => rfl) opHs
        (OpF.one (en := U) (z := 1) rfl (by kernel_rfl) (fun _ => rfl) opU)))))) (fun r h => u64_of h.2.2.2.2)
end Go.Proofs.Ytplpmelpoajpdaa.Ev
namespace Go.Proofs.Ytplpmelpoajpdaa.Ev
open Go Go.Proofs
theorem stealSome_w (r : SRN) (hs : U64 r.s) (p : Int) {w1 : Prop} (_ : w1) (far : Int) (hfar : (Lit.int .u8 far).wf = true) : Gv P XN 6 [encN r, I p, .v (.int .u8 far)] (B true) := stealSome_g r hs p far hfar trivial
theorem stealOthers_w (r : SRN) (hs : U64 r.s) (p : Int) {w1 : Prop} (_ : w1) (far : Int) {w2 : Prop} (_ : w2) : Gv P XN 7 [encN r, I p, I far] (B true) := stealOthers_g r hs p far trivial
end Go.Proofs.Ytplpmelpoajpdaa.Ev
