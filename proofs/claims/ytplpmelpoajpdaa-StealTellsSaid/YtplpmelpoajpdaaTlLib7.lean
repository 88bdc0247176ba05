/- As far as all a thief is told somebody, just if somebody stands anywhere. No condition. -/
import Derived.Test.YtplpmelpoajpdaaTlLib5
import Derived.Test.YtplpmelpoajpdaaTlLib6
namespace Go.Proofs.Ytplpmelpoajpdaa.Ev
open Go Go.Proofs
open Go.RowKit (wrap64)
set_option linter.unusedVariables false
set_option linter.unusedSimpArgs false
set_option maxRecDepth 100000
set_option maxHeartbeats 4000000
theorem elM_ints {S : Obs} {id ver : Nat} {l : List Int} (h : S[id]? = some (.row true ver 1 3 (l.map I))) {i : Nat} (hi : i < l.length) : elM P 48 id ver l.length (I (i : Int)) S = some (.ep id ver i 0) := by
  have h1 := ty48.2.2.2.2
  have h2 := ty3.1
  unfold elM
  simp only [idxV, h1, rowA, h, if_true]
  rw [if_pos ⟨by omega, by omega, by simp, h2⟩, Int.toNat_natCast]
theorem wrc_ints {S : Obs} {id ver : Nat} {l : List Int} (h : S[id]? = some (.row true ver 1 3 (l.map I))) {i : Nat} (hi : i < l.length) (v : Int) : wrc S (.ep id ver i 0) [I v] = some (S.set id (.row true ver 1 3 ((l.set i v).map I))) := by
  unfold wrc
  have hx : (l.map I)[i]? = some (I l[i]) := by simp [hi]
  simp only [h, hx]
  rw [if_pos ⟨trivial, by simp [AV.cells], rfl⟩]
  simp only [killL, killA, List.map_cons, List.map_nil, fz0, s1, s0, AV.cells, splice, List.take_zero, List.nil_append, List.length_cons, List.length_nil, List.cons_append, ofCells, List.getD_cons_zero, List.map_set]
theorem clr_mo {S : Obs} {id ver a : Nat} {l : List Int} (h : S[id]? = some (.row true ver 1 3 (l.map I))) (ha : a ≤ l.length) : clrA P 48 (.mo id ver 1 a l.length) S = some (S.set id (.row true ver 1 3 ((l.take a ++ List.replicate (l.length - a) 0).map I))) := by
  have h1 := ty48.2.2.2.2
  have h2 := ty3.1
  have h3 := ty3.2.1
  have h4 := ty3.2.2.2
  unfold clrA
  simp only [h1, h2, h3, h4]
  rw [if_pos ⟨by decide, rfl, rfl, rfl⟩]
  simp only [h]
  rw [if_pos ⟨trivial, trivial, trivial, by simp, ha⟩]
  have hd : List.drop l.length (l.map I) = [] := List.drop_eq_nil_of_le (by simp)
  simp [List.map_take, hd]
theorem clr_ms {S : Obs} {id ver : Nat} {l : List Int} (h : S[id]? = some (.row true ver 1 3 (l.map I))) : clrA P 48 (.ms id ver l.length) S = some (S.set id (.row true ver 1 3 ((List.replicate l.length 0).map I))) := by
  have h1 := ty48.2.2.2.2
  have h2 := ty3.1
  have h3 := ty3.2.1
  have h4 := ty3.2.2.2
  unfold clrA
  simp only [h1, h2, h3, h4]
  rw [if_pos ⟨by decide, rfl, rfl, rfl⟩]
  simp only [h]
  rw [if_pos ⟨trivial, trivial, by simp⟩]
  have hd : List.drop l.length (l.map I) = [] := List.drop_eq_nil_of_le (by simp)
  simp [hd]
/-- What is asked of the closure while the row is written. -/
def TakesR (P : Program) (X : Prims) (g : FuncId) (cap : List AV) (S : Obs) (id : Nat) (p : Int → Bool) (l : List Int) : Prop :=
  ∀ x ∈ l, ∀ S1, S.length ≤ S1.length → (∀ j, j < S.length → j ≠ id → S1[j]? = S[j]?) → Gs P X g (I x :: cap) S1 fun r S' => r = B (p x) ∧ ∃ J, S' = S1 ++ J
section
variable {X : Prims} (hX : Low X)
include hX
theorem idx_row_g (l : List Int) (hl : l.length ≤ 1000000) (g : FuncId) (cap : List AV) (S : Obs) {id ver : Nat} (hS : S[id]? = some (.row true ver 1 3 (l.map I))) (p : Int → Bool) (hc : Cp cap) (hg : TakesR P X g cap S id p l) :
    Gs P X 91 [.ms id ver l.length, .fn g cap] S fun r S' => r = I (idxf p l) ∧ ∃ J, S' = S ++ J := by
  refine gs_of (hX _ (by decide)) fun91 rfl ?_
  simp +decide only [Try.f91, go_sem, Nat.reduceAdd]
  refine W_ind (fun k st => ∃ i : Nat, i + k = l.length ∧ FrIs 19 [(0, .ms id ver l.length), (1, .fn g cap), (7, I l.length), (8, I i)] st.fr ∧ (∃ J, st.S = S ++ J) ∧ st.T = [] ∧ ∀ y ∈ l.take i, p y = false) ?_ (n := l.length) ⟨0, by omega, ⟨rfl, rfl, rfl, rfl, rfl, trivial⟩, ⟨[], by simp⟩, rfl, by simp⟩
  rintro k ⟨L', S', T⟩ ih ⟨i, hi, hF, ⟨J, rfl⟩, rfl, hall⟩
  obtain ⟨j, rfl⟩ := hF.ex
  have hw := wrap_nat i (by omega)
  have hSJ : (S ++ J)[id]? = some (.row true ver 1 3 (l.map I)) := gOld hS
  simp +decide only [fr, jl, Nat.reduceAdd, go_sem]
  refine Wif_of (fun h => ?_) (fun h => ?_)
  · have hlt : i < l.length := by simpa using h
    obtain ⟨x, hx, hm⟩ := getE hlt
    have hel := elM_ints hSJ hlt
    simp +decide only [go_sem, hel, hSJ, hx]
    refine WO_calls (g := g) (cap := cap) rfl rfl rfl hc.ok ?_ ?_ ?_
    · show (([I x] ++ cap).all d2 && !X.keep g) = false
      rw [List.all_append, hc.d, Bool.and_false, Bool.false_and]
    · show ([I x] ++ cap).all nt = true
      rw [List.all_append, hc.n]; rfl
    · show Gs P X g (List.map t2 ([I x] ++ cap)) (S ++ J) _
      rw [List.map_append, hc.t]
      refine (hg x hm (S ++ J) (by simp) (fun j hj _ => List.getElem?_append_left hj)).mono fun r S' h => ?_
      obtain ⟨rfl, J', rfl⟩ := h
      simp +decide only [go_sem]
      refine Wif_of (fun h => ?_) (fun h => ?_)
      · simp +decide only [go_sem]
        exact ⟨_, rfl, by rw [idxf_at hx h hall], J ++ J', by simp [killIds]⟩
      · simp +decide only [go_sem, hw]
        refine ih (k - 1) _ (by omega) ⟨i + 1, by omega, ⟨rfl, rfl, rfl, rfl, rfl, trivial⟩, ⟨J ++ J', by simp⟩, rfl, fun y hy => ?_⟩
        rw [take_snoc hx, List.mem_append] at hy
        rcases hy with hy | hy
        · exact hall y hy
        · rw [List.mem_singleton] at hy; subst hy; exact h
  · have hi' : i = l.length := by simp at h; omega
    subst hi'
    rw [List.take_length] at hall
    simp +decide only [go_sem]
    exact ⟨_, rfl, by rw [idxf_none hall], J, rfl⟩
end
theorem fin_ms {kf : Bool} {S0 S : Obs} {id ver n : Nat} (h : id < S0.length) : fin kf S0 (rt [.ms id ver n]) S = (.ms id ver n, S) := by
  have h2 : ¬ S0.length ≤ id := by omega
  cases kf <;> simp [fin, rt, fz3, fz2, fz0, fzI3, fzI2, fzI, h2, t3, t2, t1, t0, killIds]
theorem filter_none {p : Int → Bool} {l : List Int} (h : ∀ x ∈ l, p x = false) : l.filter (fun x => !p x) = l := List.filter_eq_self.mpr fun x hx => by rw [h x hx]; rfl
theorem idxf_lt {p : Int → Bool} {l : List Int} (h : idxf p l ≠ -1) : ∃ i : Nat, idxf p l = (i : Int) ∧ i < l.length ∧ (∀ y ∈ l.take i, p y = false) ∧ ∃ x, l[i]? = some x ∧ p x = true := by
  unfold idxf at h ⊢
  split at h
  case isFalse => exact absurd rfl h
  rename_i ha
  rw [if_pos ha]
  have hlt : l.findIdx p < l.length := List.findIdx_lt_length_of_exists (by simpa using ha)
  refine ⟨_, rfl, hlt, fun y hy => ?_, l[l.findIdx p], List.getElem?_eq_getElem hlt, List.findIdx_getElem (w := hlt)⟩
  rw [List.mem_take_iff_getElem] at hy
  obtain ⟨j, hj, rfl⟩ := hy
  simpa using List.not_of_lt_findIdx (p := p) (xs := l) (i := j) (by omega)
section
variable {X : Prims} (hX : Low X)
include hX
theorem del_g (l : List Int) (hl : l.length ≤ 100000) (g : FuncId) (cap : List AV) (S : Obs) {id ver : Nat} (hS : S[id]? = some (.row true ver 1 3 (l.map I))) (p : Int → Bool) (hc : Cp cap) (hg : TakesR P X g cap S id p l) :
    Gs P X 58 [.ms id ver l.length, .fn g cap] S fun r S' => ∃ c : List Int, r = .ms id ver (l.filter fun x => !p x).length ∧ S'[id]? = some (.row true ver 1 3 (c.map I)) ∧ c.length = l.length ∧ c.take (l.filter fun x => !p x).length = l.filter (fun x => !p x) := by
  have hid : id < S.length := (List.getElem?_eq_some_iff.mp hS).1
  refine gs_of (hX _ (by decide)) fun58 rfl ?_
  simp +decide only [Try.f58, go_sem, Nat.reduceAdd]
  refine WO_calls (g := 91) (cap := []) rfl rfl rfl rfl rfl ?_ ?_
  · rfl
  · show Gs P X _ (List.map t2 [.ms id ver l.length, .fn g cap]) S _
    have e : List.map t2 [.ms id ver l.length, .fn g cap] = [.ms id ver l.length, .fn g cap] := by
      show [AV.ms id ver l.length, .fn g (cap.map t0)] = _
      rw [hc.t0]
    rw [e]
    refine (idx_row_g hX l (by omega) g cap S hS p hc hg).mono fun r S' h => ?_
    obtain ⟨rfl, J, rfl⟩ := h
    simp +decide only [go_sem]
    have hSJ : (S ++ J)[id]? = some (.row true ver 1 3 (l.map I)) := gOld hS
    refine Wif_of (fun h => ?_) (fun h => ?_)
    · have hall : ∀ x ∈ l, p x = false := by
        intro x hx
        cases hp : p x with
        | false => rfl
        | true =>
          have h1 : idxf p l = -1 := eq_of_beq h
          unfold idxf at h1
          rw [if_pos (List.any_eq_true.mpr ⟨x, hx, hp⟩)] at h1
          omega
      simp +decide only [go_sem]
      refine ⟨_, rfl, l, ?_, ?_, rfl, ?_⟩
      · show (fin false S (rt [.ms id ver l.length]) (S ++ J)).1 = _
        rw [fin_ms hid, filter_none hall]
      · show (fin false S (rt [.ms id ver l.length]) (S ++ J)).2[id]? = _
        rw [fin_ms hid]; exact hSJ
      · rw [filter_none hall, List.take_length]
    · have hne : idxf p l ≠ -1 := fun e => by rw [e] at h; cases h
      obtain ⟨i0, e0, hi0, hall, x0, hx0, hp0⟩ := idxf_lt hne
      rw [e0]
      have hw0 := wrap_nat i0 (by omega)
      simp +decide only [go_sem, hw0]
      refine W_ind (fun k st => ∃ (i j : Nat) (c : List Int), j + k = l.length ∧ i < j ∧ FrIs 42 [(0, .ms id ver l.length), (1, .fn g cap), (5, I i), (6, I j)] st.fr ∧ st.T = [] ∧ st.S[id]? = some (.row true ver 1 3 (c.map I)) ∧ S.length ≤ st.S.length ∧ (∀ m, m < S.length → m ≠ id → st.S[m]? = S[m]?) ∧ c.length = l.length ∧ c.take i = (l.take j).filter (fun x => !p x) ∧ c.drop j = l.drop j ∧ i = ((l.take j).filter fun x => !p x).length) ?_ (n := l.length - (i0 + 1))
        ⟨i0, i0 + 1, l, by omega, by omega, ⟨rfl, rfl, rfl, rfl, rfl, trivial⟩, rfl, hSJ, by simp, fun m hm _ => List.getElem?_append_left hm, rfl, ?_, rfl, ?_⟩
      rotate_left
      · rw [take_snoc hx0, List.filter_append, filter_none hall, List.filter_cons, hp0]; simp
      · rw [take_snoc hx0, List.filter_append, filter_none hall, List.filter_cons, hp0]; simp; omega
      rintro k ⟨L', S1, T⟩ ih ⟨i, j, c, hj, hij, hF, rfl, hSc, hlen, hold, hcl, htk, hdr, hic⟩
      obtain ⟨jf, rfl⟩ := hF.ex
      have hwj := wrap_nat j (by omega)
      have hwi := wrap_nat i (by omega)
      simp +decide only [fr, jl, Nat.reduceAdd, go_sem]
      refine Wif_of (fun h => ?_) (fun h => ?_)
      · have hlt : j < l.length := by simpa using h
        obtain ⟨x, hx, hm⟩ := getE hlt
        have hcx : c[j]? = some x := by
          have h1 : (c.drop j)[0]? = (l.drop j)[0]? := by rw [hdr]
          simpa [hx] using h1
        have hel := elM_ints hSc (show j < c.length by omega)
        rw [hcl] at hel
        simp +decide only [go_sem, hel, hSc, hcx]
        refine WO_calls (g := g) (cap := cap) rfl rfl rfl hc.ok ?_ ?_ ?_
        · show (([I x] ++ cap).all d2 && !X.keep g) = false
          rw [List.all_append, hc.d, Bool.and_false, Bool.false_and]
        · show ([I x] ++ cap).all nt = true
          rw [List.all_append, hc.n]; rfl
        · show Gs P X g (List.map t2 ([I x] ++ cap)) S1 _
          rw [List.map_append, hc.t]
          refine (hg x hm S1 hlen hold).mono fun r S' h => ?_
          obtain ⟨rfl, J', rfl⟩ := h
          have hSc' : (S1 ++ J')[id]? = some (.row true ver 1 3 (c.map I)) := gOld hSc
          have hold' : ∀ m, m < S.length → m ≠ id → (S1 ++ J')[m]? = S[m]? := fun m hm hne => by rw [List.getElem?_append_left (Nat.lt_of_lt_of_le hm hlen)]; exact hold m hm hne
          have hd' : c.drop (j + 1) = l.drop (j + 1) := by rw [← List.drop_drop, hdr, List.drop_drop]
          simp +decide only [go_sem]
          cases hp : p x
          · have hel2 := elM_ints hSc' (show i < c.length by omega)
            rw [hcl] at hel2
            obtain ⟨y, hy, _⟩ := getE (show i < c.length by omega)
            simp +decide only [go_sem, hel2, hSc', hy, wrc, splice, killL, killA, isMs, msNd, ofCells, List.any_cons, List.any_nil, hwi, hwj, ← List.map_set]
            refine ih (k - 1) _ (by omega) ⟨i + 1, j + 1, c.set i x, by omega, by omega, ⟨rfl, rfl, rfl, rfl, rfl, trivial⟩, rfl, ?_, ?_, ?_, by simp [hcl], ?_, ?_, ?_⟩
            · exact List.getElem?_set_self (List.getElem?_eq_some_iff.mp hSc').1
            · exact Nat.le_trans hlen (by simp)
            · intro m hm hne
              rw [List.getElem?_set_ne (Ne.symm hne)]; exact hold' m hm hne
            · rw [take_snoc hx, List.filter_append, ← htk, List.filter_cons, hp, List.take_add_one, List.getElem?_set_self (by omega), List.take_set_of_le (Nat.le_refl _)]; rfl
            · rw [List.drop_set_of_lt (by omega), hd']
            · rw [take_snoc hx, List.filter_append, List.length_append, ← hic, List.filter_cons, hp]; rfl
          · simp +decide only [go_sem, hwj]
            refine ih (k - 1) _ (by omega) ⟨i, j + 1, c, by omega, by omega, ⟨rfl, rfl, rfl, rfl, rfl, trivial⟩, rfl, hSc', Nat.le_trans hlen (by simp), hold', hcl, ?_, hd', ?_⟩
            · rw [take_snoc hx, List.filter_append, ← htk, List.filter_cons, hp]; simp
            · rw [take_snoc hx, List.filter_append, List.length_append, ← hic, List.filter_cons, hp]; rfl
      · have hj' : j = l.length := by simp at h; omega
        subst hj'
        clear ih
        rw [List.take_length] at htk hic
        have hlb : (i : Int) ≤ (l.length : Int) := by omega
        cases i with
        | zero =>
          have hcm := clr_ms hSc
          rw [hcl] at hcm
          simp +decide only [go_sem, slA, hlb, Int.toNat_natCast, hcm]
          refine ⟨_, rfl, List.replicate l.length 0, ?_, ?_, by simp, ?_⟩
          · show (fin false S (rt [.ms id ver 0]) (S1.set id (.row true ver 1 3 ((List.replicate l.length 0).map I)))).1 = _
            rw [fin_ms hid, ← hic]
          · show (fin false S (rt [.ms id ver 0]) (S1.set id (.row true ver 1 3 ((List.replicate l.length 0).map I)))).2[id]? = _
            rw [fin_ms hid]; exact List.getElem?_set_self (List.getElem?_eq_some_iff.mp hSc).1
          · rw [← hic, ← htk]; simp
        | succ a =>
          have hcm := clr_mo (a := a + 1) hSc (by omega)
          rw [hcl] at hcm
          simp +decide only [go_sem, slA, hlb, Int.toNat_natCast, hcm]
          refine ⟨_, rfl, c.take (a + 1) ++ List.replicate (l.length - (a + 1)) 0, ?_, ?_, by simp; omega, ?_⟩
          · show (fin false S (rt [.ms id ver (a + 1)]) (S1.set id (.row true ver 1 3 ((c.take (a + 1) ++ List.replicate (l.length - (a + 1)) 0).map I)))).1 = _
            rw [fin_ms hid, ← hic]
          · show (fin false S (rt [.ms id ver (a + 1)]) (S1.set id (.row true ver 1 3 ((c.take (a + 1) ++ List.replicate (l.length - (a + 1)) 0).map I)))).2[id]? = _
            rw [fin_ms hid]; exact List.getElem?_set_self (List.getElem?_eq_some_iff.mp hSc).1
          · rw [← hic, ← htk, List.take_append_of_le_length (by simp; omega), List.take_take, Nat.min_self]
/-- Nothing is deleted of nothing. -/
theorem del0_g (o : Tok) (g : FuncId) (cap : List AV) (S : Obs) (hc : Cp cap) (ho : t0 (.sl o []) = .sl o []) :
    Gs P X 58 [.sl o [], .fn g cap] S fun r S' => r = .sl o [] ∧ ∃ J, S' = S ++ J := by
  refine gs_of (hX _ (by decide)) fun58 rfl ?_
  simp +decide only [Try.f58, go_sem, Nat.reduceAdd]
  refine WO_calls (g := 91) (cap := []) rfl rfl rfl rfl ?_ ?_ ?_
  · rw [List.append_nil]
    show (true && (cap.all d0 && true) && _) = false
    rw [hc.d0]; rfl
  · rfl
  · show Gs P X _ (List.map t2 [.sl o [], .fn g cap]) S _
    have e : List.map t2 [.sl o [], .fn g cap] = [.sl o [], .fn g cap] := by
      show [t0 (.sl o []), .fn g (cap.map t0)] = _
      rw [hc.t0, ho]
    rw [e]
    have hix : Gs P X 91 [.sl o [], .fn g cap] S fun r S' => r = I (-1) ∧ S' = S := by
      refine gs_of (hX _ (by decide)) fun91 rfl ?_
      simp +decide only [Try.f91, go_sem, Nat.reduceAdd]
      refine W_unroll ?_
      simp +decide only [go_sem]
      exact ⟨_, rfl, rfl, rfl⟩
    refine hix.mono fun r S' h => ?_
    obtain ⟨rfl, rfl⟩ := h
    simp +decide only [go_sem]
    cases o <;> first | exact ⟨_, rfl, rfl, [], by simp [killIds]⟩ | cases ho
end
end Go.Proofs.Ytplpmelpoajpdaa.Ev
namespace Go.Proofs.Ytplpmelpoajpdaa.Ev
open Go Go.Proofs
open Go.RowKit (wrap64)
set_option linter.unusedVariables false
set_option linter.unusedSimpArgs false
set_option maxRecDepth 100000
set_option maxHeartbeats 2000000
theorem nearOf_len {t : List SVtx} {p : Int} : (nearOf t p).length ≤ 96 := by
  have h32 := procN_le t
  have key : ∀ (q : Int) (n : Nat) (far : Int) (m i : Nat), (rowN t q n far m i).length ≤ m := by
    intro q n far m
    induction m with
    | zero => intro i; exact Nat.le_refl 0
    | succ m ih =>
      intro i
      have := ih (i + 1)
      unfold rowN
      split
      · simp; omega
      · omega
  unfold nearOf
  split
  · have h1 := key p (procN t) 1 (procN t - 1) 1
    have h2 := key p (procN t) 2 (procN t - 1) 1
    have h3 := key p (procN t) 3 (procN t - 1) 1
    simp only [rowOf, List.length_append]
    omega
  · simp

def scanB (s : Int) : List Int → Int
  | [] => -1
  | q :: r => if tb s q = true then q else scanB s r
theorem scanB_mem {s : Int} : ∀ {l : List Int}, scanB s l = -1 ∨ scanB s l ∈ l
  | [] => .inl rfl
  | q :: r => by
    rw [scanB]
    split
    · exact .inr (by simp)
    · exact (scanB_mem (l := r)).imp id (List.mem_cons_of_mem _)
theorem scanB_congr {s s' : Int} : ∀ {l : List Int}, (∀ x ∈ l, tb s x = tb s' x) → scanB s l = scanB s' l
  | [], _ => rfl
  | q :: r, h => by
    rw [scanB, scanB, h q (by simp), scanB_congr fun x hx => h x (List.mem_cons_of_mem _ hx)]
theorem app_near (t : List SVtx) (p : Int) (S : Obs) (T : Toks) : appX P false 48 (.sl .full [I p]) (t3 (nearR t p S).1) (nearR t p S).2 T = some (.sl (.own T.length) ((p :: nearOf t p).map I), (nearR t p S).2, T ++ [some 3]) := by
  have h1 := ty48.2.2.2.2
  have h2 := ty3.1
  have h3 := ty3.2.2.1
  have h4 := ty3.2.2.2
  have hn := @nearOf_len t p
  have key : ∀ l : List Int, l.length ≤ 96 → appA P 48 (.sl .full [I p]) (.sl .no (l.map I)) T = some (.sl (.own T.length) ((p :: l).map I), T ++ [some 3]) := fun l hl => by
    have hu : uni 1 [I p] = true := rfl
    simp only [appA, h1, h2, h3, h4]
    rw [if_pos ⟨by decide, rfl, uniI l, allI l, by simp; omega, by simp [maxLen]; omega⟩, if_pos hu]
    rfl
  unfold nearR
  by_cases hp : inP t p
  · rw [if_pos hp]
    by_cases h0 : nearOf t p = []
    · rw [if_pos h0]
      have := key [] (by simp)
      rw [h0]
      simp only [appX, Bool.false_eq_true, if_false, isSl, t3, t2, t1, t0, Bool.and_self, if_true]
      rw [show (AV.sl .no [] : AV) = .sl .no (([] : List Int).map I) from rfl, this]; rfl
    · rw [if_neg h0]
      have := key _ hn
      simp only [appX, Bool.false_eq_true, if_false, isSl, t3, t2, t1, t0, Bool.and_false, srcL, rowA]
      simp only [List.getElem?_append_right (Nat.le_refl _), Nat.sub_self, List.getElem?_cons_zero, if_true, List.length_map, Nat.le_refl]
      rw [List.take_of_length_le (by simp), this]; rfl
  · rw [if_neg hp]
    have h0 : nearOf t p = [] := by unfold nearOf; rw [if_neg hp]
    have := key [] (by simp)
    rw [h0]
    simp only [appX, Bool.false_eq_true, if_false, isSl, t3, t2, t1, t0, Bool.and_self, if_true]
    have e : appA P 48 (.sl .full [I p]) (.sl .nil []) T = appA P 48 (.sl .full [I p]) (.sl .no []) T := rfl
    rw [e, show (AV.sl .no [] : AV) = .sl .no (([] : List Int).map I) from rfl, this]; rfl
theorem near_app (o : Tok) (t : List SVtx) (p : Int) (ht : t.length ≤ 1000) (S : Obs) : Gs P XN 45 [.sl o (t.map encV), I p] S fun r S' => ∀ T, appX P false 48 (.sl .full [I p]) r S' T = some (.sl (.own T.length) ((p :: nearOf t p).map I), S', T ++ [some 3]) :=
  (near_gs o t p ht S).mono fun r S' h T => by rw [h.1, h.2]; exact app_near t p S T
theorem scan_drop {w : Int} {l : List Int} {i : Nat} {x : Int} (h : l[i]? = some x) : scanB w (l.drop i) = if tb w x = true then x else scanB w (l.drop (i + 1)) := by
  obtain ⟨hi, rfl⟩ := List.getElem?_eq_some_iff.mp h
  rw [List.drop_eq_getElem_cons hi, scanB]
theorem wake_g (t : List SVtx) (a : Int) (R : List SRr) (H : List (List Int)) (s i p : Int) (ht : t.length ≤ 64) (hs : U64 s) (hi : U64 i) (f : Fw R H) (hM : mayB t a R H s = true) (h0 : 0 ≤ p) (h1 : p < (R.length : Int)) : Gv P XN 15 [encRR t a R H s, U i, I p] (I (scanB (Go.bits .and .u64 i s) (p :: nearOf t p))) := by
  refine gv_of (lowN _ (by decide)) fun15 rfl ?_
  have n0 : ¬ p < 0 := by omega
  have n1 : ¬ (R.length : Int) ≤ p := by omega
  have hmay := runs_may_g lowN t a R H s ht hs f
  rw [hM] at hmay
  simp +decide only [Try.f15, encRR, go_sem, Nat.reduceAdd]
  refine WO_call rfl rfl rfl rfl rfl hmay ?_
  simp +decide only [go_sem, n0, n1, and_eq]
  refine WO_calls rfl rfl rfl rfl rfl rfl ((near_app .no t p (by omega) _).mono fun r S' h => ?_)
  have happ := h []
  have hlen := @nearOf_len t p
  clear h
  have hand := and_tb hi hs
  simp +decide only [go_sem, happ, and_eq, Nat.reduceAdd]
  change W P XN _ _ ⟨[_, _, _, _, _, _, _, _, U (Go.bits .and .u64 i s), _, _, _, _, _, _, _, _, _, _, _, _, _, _, _, _, _, _, _, _, _, _, _, _, _, _, _, _, _, _, _, _, _, _, _, _, _, _], _, _⟩ _
  generalize Go.bits .and .u64 i s = w at hand
  generalize hl : p :: nearOf t p = l
  have hll : l.length ≤ 97 := by rw [← hl, List.length_cons]; omega
  refine W_ind (fun k st => ∃ i : Nat, i + k = l.length ∧ FrIs 47 [(7, I (-1)), (8, U w), (35, .sl (.own 0) (l.map I)), (36, I l.length), (37, I i)] st.fr ∧ scanB w l = scanB w (l.drop i)) ?_ (n := l.length) ⟨0, by omega, ⟨rfl, rfl, rfl, by rw [← hl]; rfl, by rw [← hl]; rfl, rfl, trivial⟩, rfl⟩
  rintro k ⟨L', S, T⟩ ih ⟨i, hi, hF, hsc⟩
  obtain ⟨j, rfl⟩ := hF.ex
  have hw := wrap_nat i (by omega)
  simp +decide only [fr, jl, Nat.reduceAdd, go_sem]
  refine Wif_of (fun h => ?_) (fun h => ?_)
  · have hlt : i < l.length := by simpa using h
    obtain ⟨x, hx, hm⟩ := getE hlt
    rw [scan_drop hx] at hsc
    simp +decide only [go_sem, hx]
    refine WO_call rfl rfl rfl rfl rfl (has_g lowN hand.1 x) ?_
    simp +decide only [go_sem]
    refine Wif_of (fun h => ?_) (fun h => ?_)
    · rw [if_pos h] at hsc
      simp +decide only [go_sem]
      exact ⟨_, rfl, rfl, by rw [hsc]⟩
    · rw [if_neg (by rw [h]; decide)] at hsc
      simp +decide only [go_sem, hw]
      exact ih (k - 1) _ (by omega) ⟨i + 1, by omega, ⟨rfl, rfl, rfl, rfl, rfl, rfl, trivial⟩, hsc⟩
  · have hi' : i = l.length := by simp at h; omega
    subst hi'
    rw [List.drop_length] at hsc
    simp +decide only [go_sem]
    exact ⟨_, rfl, rfl, by rw [hsc]; rfl⟩
end Go.Proofs.Ytplpmelpoajpdaa.Ev
namespace Go.Proofs.Ytplpmelpoajpdaa.Ev
open Go Go.Proofs
open Go.RowKit (wrap64)
set_option linter.unusedVariables false
set_option linter.unusedSimpArgs false
set_option maxRecDepth 100000
set_option maxHeartbeats 4000000
theorem appK0 (a : List Int) (ha : a.length ≤ 100000) : appX P false 48 (.ms 0 0 0) (.sl .no (a.map I)) [.row true 0 1 3 []] [] = some (.sl (.own 0) (a.map I), [.dead], [some 3]) := by
  have h1 := ty48.2.2.2.2
  have h2 := ty3.1
  have h3 := ty3.2.2.1
  have h4 := ty3.2.2.2
  simp only [appX, isSl, Bool.false_eq_true, if_false, Bool.false_and, appK, rowA, List.getElem?_cons_zero, if_true, srcL, h1, h2, h3, h4]
  rw [if_pos ⟨by decide, rfl, uniI a, allI a, trivial, trivial, by simp, by simp; omega, by simp [maxLen]; omega⟩]
  rfl
theorem concat_g (a b : List Int) (ha : a.length ≤ 50000) (hb : b.length ≤ 50000) : Gv P XN 87 [.sl .no [L a, L b]] (L (a ++ b)) := by
  refine gv_of (lowN _ (by decide)) fun87 rfl ?_
  have e1 : IntKind.i64.wrap (0 + 1) = 1 := by decide
  have e2 : IntKind.i64.wrap (1 + 1) = 2 := by decide
  have w1 : IntKind.i64.wrap (0 + (a.length : Int)) = a.length := by rw [wrap64_of (by omega)]; omega
  have w2 : IntKind.i64.wrap ((a.length : Int) + (b.length : Int)) = ((a.length + b.length : Nat) : Int) := by rw [wrap64_of (by omega)]; omega
  have n1 : ¬ (a.length : Int) < 0 := by omega
  have n2 : ¬ ((a.length + b.length : Nat) : Int) < 0 := by omega
  simp +decide only [Try.f87, go_sem, Nat.reduceAdd]
  refine W_unroll ?_
  simp +decide only [Int.reduceToNat, go_sem, w1, n1, e1]
  refine W_unroll ?_
  simp +decide only [Int.reduceToNat, go_sem, w2, n2, e2]
  refine W_unroll ?_
  simp +decide only [Int.reduceToNat, go_sem]
  refine WO_calls rfl rfl rfl rfl rfl rfl ((grow_gs ((a.length + b.length : Nat) : Int) (by omega) _).mono fun r S' h => ?_)
  rcases h with ⟨hz, rfl, rfl⟩ | ⟨hz, rfl, rfl⟩
  · obtain rfl : a = [] := List.eq_nil_of_length_eq_zero (by omega)
    obtain rfl : b = [] := List.eq_nil_of_length_eq_zero (by omega)
    obtain ⟨v1, T1, happ1, hA1⟩ := app_ints (T := []) App.nil (l := []) [] .no (by simp)
    obtain ⟨v2, T2, happ2, hA2⟩ := app_ints hA1 [] .no (by simp)
    simp only [List.map_nil] at happ1 happ2
    simp +decide only [Int.reduceToNat, go_sem]
    refine W_unroll ?_
    simp +decide only [Int.reduceToNat, go_sem, happ1, e1]
    refine W_unroll ?_
    simp +decide only [Int.reduceToNat, go_sem, happ2, e2]
    refine W_unroll ?_
    simp +decide only [Int.reduceToNat, go_sem]
    obtain ⟨o, rfl⟩ := hA2.is
    exact ⟨_, rfl, rfl, rfl⟩
  · have hA1 : App P 3 [some 3] (.sl (.own 0) (a.map I)) (a.map I) := .inr (.inr ⟨0, rfl, rfl⟩)
    obtain ⟨v2, T2, happ2, hA2⟩ := app_ints hA1 b .no (by omega)
    have hk := appK0 a (by omega)
    simp +decide only [Int.reduceToNat, go_sem]
    refine W_unroll ?_
    simp +decide only [Int.reduceToNat, go_sem, hk, e1]
    refine W_unroll ?_
    simp +decide only [Int.reduceToNat, go_sem, happ2, e2]
    refine W_unroll ?_
    simp +decide only [Int.reduceToNat, go_sem]
    obtain ⟨o, rfl⟩ := hA2.is
    exact ⟨_, rfl, rfl, rfl⟩
theorem farOf_le {t : List SVtx} {a b : Int} : farOf t a b ≤ 3 := by
  unfold farOf
  split
  · have := farV_le t (vx t a) (vx t b); omega
  · decide
theorem vclos_g (t : List SVtx) (a : Int) (R : List SRr) (H : List (List Int)) (s p far q : Int) (ht : t.length ≤ 64) (f : Fw R H) (hq : 0 ≤ q) (hr : q < (R.length : Int)) (S : Obs)
    (h0 : S[0]? = some (.var false [encT t, I a, .sl .no (R.map encG), .sl .no (H.map L), U s])) (h1 : S[1]? = some (.var false [I p])) (h2 : S[2]? = some (.var false [I far])) :
    Gs P XN 59 [I q, .ptr 0 0, .ptr 1 0, .ptr 2 0] S fun r S' => r = B (!victP t R p far q) ∧ S' = S := by
  refine gs_of (rw := false) (kf := false) (lowN _ (by decide)) fun59 rfl ?_
  have e1 : R[q.toNat]? = some (rg R q) := by simp [rg, show q.toNat < R.length by omega]
  have l1 := f.rl _ (List.mem_of_getElem? e1)
  simp +decide only [Try.f59, go_sem, Nat.reduceAdd]
  refine W_draw hmx (by kernel_rfl) ?_
  simp +decide only [go_sem, Nat.reduceAdd, h0, h1, h2, hq, e1, encG]
  refine WO_call rfl rfl rfl rfl rfl (ring_all_g lowN (rg R q).f0 (rg R q).f1 (by omega)) ?_
  change WO P XN _ _ _ _ _ ⟨put _ _ (L (rAll (rg R q))), _, _⟩ _
  unfold victP
  simp +decide only [go_sem, Nat.reduceAdd]
  cases hz : (((rAll (rg R q)).length : Int) == 0)
  · have hz' : 0 < (rAll (rg R q)).length := by
      rcases Nat.eq_zero_or_pos (rAll (rg R q)).length with h | h
      · rw [h] at hz; exact absurd hz (by decide)
      · exact h
    simp +decide only [go_sem, Nat.reduceAdd, h0, h1, h2, encT]
    refine WO_call rfl rfl rfl rfl rfl (far_g lowN t p q (by omega)) ?_
    simp +decide only [go_sem, Nat.reduceAdd, h0, h1, h2]
    refine ⟨_, rfl, ?_, by simp [killIds]⟩
    rw [decide_eq_true hz', Bool.true_and]
    have hf := @farOf_le t p q
    have e : (!decide (farOf t p q ≤ far)) = decide ((if (3 : Int) < far then (3 : Int) else far) < farOf t p q) := by
      rw [← decide_not]
      refine decide_eq_decide.mpr ?_
      split <;> omega
    rw [e]
  · have hz' : ¬ 0 < (rAll (rg R q)).length := by have := eq_of_beq hz; omega
    simp +decide only [go_sem, Nat.reduceAdd]
    refine WO_not rfl ?_
    simp +decide only [go_sem, Nat.reduceAdd]
    refine ⟨_, rfl, ?_, by simp [killIds]⟩
    rw [decide_eq_false hz']; rfl
theorem vict_g (t : List SVtx) (a : Int) (R : List SRr) (H : List (List Int)) (s p far : Int) (ht : t.length ≤ 64) (hs : U64 s) (f : Fw R H) : Gv P XN 28 [encRR t a R H s, I p, I far] (L (victOf t a R H s p far)) := by
  refine gm_of (rw := false) (lowN _ (by decide)) fun28 rfl ?_
  unfold victOf
  simp +decide only [Try.f28, encRR, go_sem, Nat.reduceAdd]
  refine WO_call rfl rfl rfl rfl rfl (runs_may_g lowN t a R H s ht hs f) ?_
  cases hM : mayB t a R H s
  · simp +decide only [go_sem]
    exact ⟨_, rfl, rfl, rfl⟩
  have hm := may_iff.mp hM
  simp +decide only [go_sem, Nat.reduceAdd]
  refine WO_calls rfl rfl rfl rfl rfl rfl ((near_gs .no t p (by omega) _).mono fun r S' h => ?_)
  obtain ⟨rfl, rfl⟩ := h
  unfold nearR
  by_cases hp : inP t p
  · by_cases hn : nearOf t p = []
    · simp only [if_pos hp, hn, if_true, List.filter_nil]
      simp +decide only [go_sem, Nat.reduceAdd]
      refine WO_calls (g := 58) (cap := []) rfl rfl rfl rfl rfl rfl ((del0_g lowN .no 59 [.ptr 0 0, .ptr 1 0, .ptr 2 0] _ ⟨rfl, rfl, rfl, rfl, rfl, rfl⟩ rfl).mono fun r S' h => ?_)
      obtain ⟨rfl, J, rfl⟩ := h
      simp +decide only [go_sem, Nat.reduceAdd]
      exact ⟨_, rfl, rfl, rfl⟩
    · simp only [if_pos hp, if_neg hn]
      simp +decide only [go_sem, Nat.reduceAdd]
      have hlen := @nearOf_len t p
      have hdel := del_g lowN (nearOf t p) (by omega) 59 [.ptr 0 0, .ptr 1 0, .ptr 2 0] ([.var false [encT t, I a, .sl .no (R.map encG), .sl .no (H.map L), U s], .var false [I p], .var false [I far], .row true 0 1 3 ((nearOf t p).map I)]) (id := 3) (ver := 0) rfl (fun q => !victP t R p far q) ⟨rfl, rfl, rfl, rfl, rfl, rfl⟩ (fun q hq S1 _ hold => by
        have hqi := hm.inP.mp ((nearOf_mem hp).mp hq).1
        refine (vclos_g t a R H s p far q ht f hqi.1 hqi.2 S1 ?_ ?_ ?_).mono fun r S' h => ⟨h.1, [], by rw [h.2, List.append_nil]⟩
        · rw [hold 0 (by simp) (by decide)]; rfl
        · rw [hold 1 (by simp) (by decide)]; rfl
        · rw [hold 2 (by simp) (by decide)]; rfl)
      simp only [Bool.not_not] at hdel
      refine WO_calls (g := 58) (cap := []) rfl rfl rfl rfl rfl rfl (hdel.mono fun r S' h => ?_)
      obtain ⟨c, rfl, hS3, hcl, hck⟩ := h
      simp +decide only [go_sem, Nat.reduceAdd]
      have hle : (List.filter (victP t R p far) (nearOf t p)).length ≤ c.length := by rw [hcl]; exact List.length_filter_le _ _
      have hz : fz0 S' 0 (.ms 3 0 (List.filter (victP t R p far) (nearOf t p)).length) = .sl .no ((List.filter (victP t R p far) (nearOf t p)).map I) := by
        simp only [fz0, Nat.zero_le, if_true, rowA, hS3, List.length_map, hle]
        rw [← List.map_take, hck]
      refine ⟨_, rfl, ?_, ?_⟩
      · show d3 (fz3 S' 0 (rt [.ms 3 0 (List.filter (victP t R p far) (nearOf t p)).length])) = true
        rw [show fz3 S' 0 (rt [.ms 3 0 (List.filter (victP t R p far) (nearOf t p)).length]) = _ from hz]; rfl
      · show s3 (fz3 S' 0 (rt [.ms 3 0 (List.filter (victP t R p far) (nearOf t p)).length])) = _
        rw [show fz3 S' 0 (rt [.ms 3 0 (List.filter (victP t R p far) (nearOf t p)).length]) = _ from hz]; rfl
  · have hn : nearOf t p = [] := by unfold nearOf; rw [if_neg hp]
    simp only [if_neg hp, hn, List.filter_nil]
    simp +decide only [go_sem, Nat.reduceAdd]
    refine WO_calls (g := 58) (cap := []) rfl rfl rfl rfl rfl rfl ((del0_g lowN .nil 59 [.ptr 0 0, .ptr 1 0, .ptr 2 0] _ ⟨rfl, rfl, rfl, rfl, rfl, rfl⟩ rfl).mono fun r S' h => ?_)
    obtain ⟨rfl, J, rfl⟩ := h
    simp +decide only [go_sem, Nat.reduceAdd]
    exact ⟨_, rfl, rfl, rfl⟩
end Go.Proofs.Ytplpmelpoajpdaa.Ev
namespace Go.Proofs.Ytplpmelpoajpdaa.Ev
open Go Go.Proofs
open Go.RowKit (wrap64)
set_option linter.unusedVariables false
set_option linter.unusedSimpArgs false
set_option maxRecDepth 100000
set_option maxHeartbeats 4000000
section
variable {X : Prims} (hX : Low X)
include hX
theorem rvict_g (t : List SVtx) (a : Int) (R : List SRr) (H : List (List Int)) (s p far : Int) (ht : t.length ≤ 64) (hs : U64 s) (f : Fw R H) : Gv P X 29 [encRR t a R H s, I p, I far] (L (victOf t a R H s p far)) := by
  refine gv_of (hX _ (by decide)) fun29 rfl ?_
  unfold victOf
  simp +decide only [Try.f29, encRR, go_sem, Nat.reduceAdd]
  refine WO_call rfl rfl rfl rfl rfl (rmay_g hX t a R H s ht hs f) ?_
  cases hM : mayB t a R H s
  · simp +decide only [go_sem, Nat.reduceAdd]
    exact ⟨_, rfl, rfl, rfl⟩
  have hm := may_iff.mp hM
  simp +decide only [go_sem, Nat.reduceAdd, encT]
  refine WO_call rfl rfl rfl rfl rfl (rnear_g hX t p (by omega)) ?_
  have hlen := @nearOf_len t p
  have hmem : ∀ q ∈ nearOf t p, inP t q := fun q hq => by
    by_cases hp : inP t p
    · exact ((nearOf_mem hp).mp hq).1
    · unfold nearOf at hq; rw [if_neg hp] at hq; cases hq
  generalize nearOf t p = N at *
  simp +decide only [go_sem, Nat.reduceAdd]
  refine W_ind (fun k st => ∃ (i : Nat) (v : AV), i + k = N.length ∧ FrIs 51 [(1, I p), (2, I far), (3, .ptr 0 0), (7, v), (8, L N), (9, I i)] st.fr ∧ st.S = [.var false [encT t, I a, .sl .no (R.map encG), .sl .no (H.map L), U s]] ∧ App P 3 st.T v (((N.take i).filter (victP t R p far)).map I)) ?_ (n := N.length) ⟨0, .sl .nil [], by omega, ⟨rfl, rfl, rfl, rfl, rfl, rfl, rfl, trivial⟩, rfl, .nil⟩
  rintro k ⟨L', S, T⟩ ih ⟨i, v, hi, hF, rfl, hA⟩
  obtain ⟨j, rfl⟩ := hF.ex
  have hw := wrap_nat i (by omega)
  simp +decide only [fr, jl, Nat.reduceAdd, go_sem]
  refine Wif_of (fun h => ?_) (fun h => ?_)
  · have hlt : i < N.length := by simpa using h
    obtain ⟨q, hq, hqm⟩ := getE hlt
    have hqi := hmem q hqm
    obtain ⟨q0, eq, mq, _⟩ := inP_at hm hqi
    have lq := f.rl _ mq
    have hfl : (N.take (i + 1)).filter (victP t R p far) = (N.take i).filter (victP t R p far) ++ (if victP t R p far q = true then [q] else []) := by
      rw [take_snoc hq, List.filter_append, List.filter_cons, List.filter_nil]
    simp +decide only [go_sem, Nat.reduceAdd, hq, q0, eq, encG]
    refine WO_call rfl rfl rfl rfl rfl (rring_all_g hX (rg R q).f0 (rg R q).f1 (by omega)) ?_
    change WO P X _ _ _ _ _ ⟨put _ _ (L (rAll (rg R q))), _, _⟩ _
    simp +decide only [go_sem, Nat.reduceAdd]
    cases hz : decide ((0 : Int) < ((rAll (rg R q)).length : Int))
    · have hv : victP t R p far q = false := by
        unfold victP
        have := of_decide_eq_false hz
        rw [decide_eq_false (by omega), Bool.false_and]
      rw [hv] at hfl
      simp +decide only [go_sem, Nat.reduceAdd]
      refine WO_not rfl ?_
      simp +decide only [go_sem, Nat.reduceAdd, hw]
      exact ih (k - 1) _ (by omega) ⟨i + 1, v, by omega, ⟨rfl, rfl, rfl, rfl, rfl, rfl, rfl, trivial⟩, rfl, by rw [hfl]; simpa using hA⟩
    · have hz' := of_decide_eq_true hz
      have hv : victP t R p far q = decide (farOf t p q ≤ far) := by
        unfold victP
        rw [decide_eq_true (by omega), Bool.true_and]
      rw [hv] at hfl
      simp +decide only [go_sem, Nat.reduceAdd, encT]
      refine WO_call rfl rfl rfl rfl rfl (rfar_g hX t p q (by omega)) ?_
      cases hf : decide (farOf t p q ≤ far)
      · rw [hf] at hfl
        simp +decide only [go_sem, Nat.reduceAdd, hf, hw]
        exact ih (k - 1) _ (by omega) ⟨i + 1, v, by omega, ⟨rfl, rfl, rfl, rfl, rfl, rfl, rfl, trivial⟩, rfl, by rw [hfl]; simpa using hA⟩
      · rw [hf] at hfl
        have hll : ((N.take i).filter (victP t R p far)).length ≤ 96 := Nat.le_trans (List.length_filter_le _ _) (by simp; omega)
        obtain ⟨v', T', happ, hA'⟩ := app_int hA q (by omega)
        simp +decide only [go_sem, Nat.reduceAdd, hf, happ, hw]
        exact ih (k - 1) _ (by omega) ⟨i + 1, v', by omega, ⟨rfl, rfl, rfl, rfl, rfl, rfl, rfl, trivial⟩, rfl, by rw [hfl]; exact hA'⟩
  · have hi' : i = N.length := by simp at h; omega
    subst hi'
    rw [List.take_length] at hA
    obtain ⟨o, rfl⟩ := hA.is
    simp +decide only [go_sem, Nat.reduceAdd]
    exact ⟨_, rfl, rfl, rfl⟩
end
end Go.Proofs.Ytplpmelpoajpdaa.Ev
namespace Go.Proofs.Ytplpmelpoajpdaa.Ev
open Go Go.Proofs
open Go.RowKit (wrap64)
set_option linter.unusedVariables false
set_option linter.unusedSimpArgs false
set_option maxRecDepth 100000
set_option maxHeartbeats 2000000
section
variable {X : Prims} (hX : Low X)
include hX
theorem rhalf_g (x : SRr) (h : x.f1.length ≤ 1000) : Gv P X 53 [encG x] (.tup [encG (halfR x).1, L (halfR x).2]) := by
  refine gv_of (hX _ (by decide)) fun53 rfl ?_
  obtain ⟨n, l⟩ := x
  have h : l.length ≤ 1000 := h
  unfold halfR
  by_cases h0 : l = []
  · subst h0
    by_cases h1 : n = 0
    · subst h1
      simp +decide only [Try.f53, encG, go_sem, Nat.reduceAdd, wrc, splice]
      refine Wif_of (fun _ => ?_) (fun h => absurd h (by decide))
      simp +decide only [go_sem, Nat.reduceAdd, wrc, splice]
      exact ⟨_, rfl, rfl, rfl⟩
    · have h1' : (n == 0) = false := by simpa using h1
      simp +decide only [Try.f53, encG, go_sem, Nat.reduceAdd, wrc, splice, h1']
      refine Wif_of (fun _ => ?_) (fun h => absurd h (by decide))
      simp +decide only [go_sem, Nat.reduceAdd, wrc, splice, h1']
      refine W_drawL ⟨false, some 1, none, []⟩ hmx (by kernel_rfl) ?_
      simp +decide only [go_sem, Nat.reduceAdd, wrc, splice, fillA, places, mdOK, rdOK, rdId, wrOK, mkOK]
      exact ⟨_, rfl, rfl, by rw [if_neg h1]; rfl⟩
  · obtain ⟨y, m, rfl⟩ := List.exists_cons_of_ne_nil h0
    have e1 : ((List.map I (y :: m)).length : Int) = ((m.length + 1 : Nat) : Int) := by simp
    generalize hk : (y :: m).length = k at h
    have hk0 : 0 < k := by rw [← hk]; simp
    have e2 : ((k : Int) == 0) = false := by simp; omega
    have e3 : IntKind.i64.wrap (k : Int) = k := wrap64_of (by omega)
    have e4 : IntKind.i64.wrap ((k : Int).tdiv 2) = (k / 2 : Nat) := by rw [show (k : Int).tdiv 2 = ((k / 2 : Nat) : Int) from rfl]; exact wrap64_of (by omega)
    have e5 : IntKind.i64.wrap ((k : Int) - ((k / 2 : Nat) : Int)) = ((k + 1) / 2 : Nat) := by rw [wrap64_of (by omega)]; omega
    generalize hl : y :: m = l at *
    have b1 : (0 : Int) ≤ (((k + 1) / 2 : Nat) : Int) := by omega
    have b2 : (((k + 1) / 2 : Nat) : Int) ≤ (k : Int) := by omega
    have hn0 : ¬ (2 : Int) = 0 := by decide
    have happ := app_lit0 (l.take ((k + 1) / 2)) .no (by simp; omega)
    rw [List.map_take] at happ
    simp +decide only [Try.f53, encG, go_sem, Nat.reduceAdd, hk, e2, e4, e5, hn0]
    refine W_drawL ⟨false, some 1, none, []⟩ hmx (by kernel_rfl) ?_
    simp +decide only [mdOK, rdOK, rdId, wrOK, mkOK, go_sem, Nat.reduceAdd, slA, hk, b1, b2, uniI, fillA, places, splice, happ, wrc]
    exact ⟨_, rfl, rfl, by rw [if_neg h0, List.take_of_length_le (show (List.map I l).length ≤ k by simp [hk]), ← List.map_drop, ← List.map_take]; rfl⟩
end
end Go.Proofs.Ytplpmelpoajpdaa.Ev
namespace Go.Proofs.Ytplpmelpoajpdaa.Ev
open Go Go.Proofs
open Go.RowKit (wrap64)
set_option linter.unusedVariables false
set_option linter.unusedSimpArgs false
set_option maxRecDepth 100000
set_option maxHeartbeats 4000000
theorem appF {e t : TypeId} {m : List AV} {o : Tok} {n b : Nat} {z : List AV} (ht : tel P t = some e) (hn : tsz P e = some n) (hb : tby P e = some b) (hz : tzero P e = some z)
    (hc : (decide (0 < n) && (z.length == n && (uni n m && m.all d2))) = true) (hne : m ≠ []) (h2 : m.map s2 = m) (hs : m.length * b ≤ 140737488355328) (hl : m.length ≤ maxLen) (S : Obs) (T : Toks) :
    appX P true t (.sl .full []) (.sl o m) S T = some (.ms S.length 0 m.length, S ++ [.row true 0 n e m], T) := by
  simp only [Bool.and_eq_true, decide_eq_true_eq, beq_iff_eq] at hc
  obtain ⟨c1, c2, c3, c4⟩ := hc
  have hu : uni n [] = true := rfl
  simp only [appX, if_true, appR, ht, srcL, hn, hb, hz]
  rw [if_pos ⟨c1, c2, c3, c4⟩, if_pos ⟨.inr trivial, hu, rfl, by simpa using hs, by simpa using hl⟩]
  cases m with
  | nil => exact absurd rfl hne
  | cons a m => simp only [List.nil_append, h2, Option.map_some, List.length_nil, Nat.zero_add]
theorem appFG (R : List SRr) (hn : R ≠ []) (hl : R.length ≤ 100000) (o : Tok) (S : Obs) (T : Toks) : appX P true 23 (.sl .full []) (.sl o (R.map encG)) S T = some (.ms S.length 0 R.length, S ++ [.row true 0 2 66 (R.map encG)], T) := by
  have hu : uni 2 (R.map encG) = true := by simp [uni, encG, AV.cells]
  have hd : (R.map encG).all d2 = true := by simp [encG]; intro x _; rfl
  have := appF (o := o) (m := R.map encG) ty23.2.2.2.2 ty66.1 ty66.2.2.1 ty66.2.2.2.1 (by rw [hu, hd]; rfl) (by simpa using hn) (by rw [List.map_map]; rfl) (by simp; omega) (by simp [maxLen]; omega) S T
  simpa using this
theorem appFH (H : List (List Int)) (hn : H ≠ []) (hl : H.length ≤ 100000) (o : Tok) (S : Obs) (T : Toks) : appX P true 24 (.sl .full []) (.sl o (H.map L)) S T = some (.ms S.length 0 H.length, S ++ [.row true 0 1 48 (H.map L)], T) := by
  have hu : uni 1 (H.map L) = true := by simp [uni, AV.cells]
  have hd : (H.map L).all d2 = true := by simp; intro x _; rfl
  have := appF (o := o) (m := H.map L) ty24.2.2.2.2 ty48.1 ty48.2.2.1 ty48.2.2.2.1 (by rw [hu, hd]; rfl) (by simpa using hn) (by rw [List.map_map]; rfl) (by simp; omega) (by simp [maxLen]; omega) S T
  simpa using this
section
variable {X : Prims} (hX : Low X)
include hX
theorem ringed_g (t : List SVtx) (a : Int) (R : List SRr) (H : List (List Int)) (s p : Int) (x : SRr) (hl : R.length ≤ 1000) (p0 : 0 ≤ p) (p1 : p < (R.length : Int)) : Gv P X 54 [encRR t a R H s, I p, encG x] (encRR t a (R.set p.toNat x) H s) := by
  refine gm_of (rw := true) (hX _ (by decide)) fun54 rfl ?_
  have hR : R ≠ [] := fun e => by rw [e] at p1; simp at p1; omega
  have ep : R[p.toNat]? = some (rg R p) := by simp [rg, show p.toNat < R.length by omega]
  have happ := appFG R hR (by omega) .no
  simp +decide only [Try.f54, encRR, encG, go_sem, Nat.reduceAdd, rwO, lit, qO, usesT, appsT, isT, Nat.reduceBEq, stf, List.any_cons, List.any_nil, Option.isSome_some, happ, wrc, splice, elM, p0, p1, ep, killL, killA, isMs, msNd, ofCells, List.length_map, Nat.le_refl]
  have t1 : ∀ i x, List.take R.length ((R.map encG).set i x) = (R.map encG).set i x := fun i x => List.take_of_length_le (by simp)
  refine ⟨_, rfl, ?_, ?_⟩
  · simp +decide only [go_sem, Nat.reduceAdd, List.length_map, List.length_set, Nat.le_refl, Nat.zero_le, encT]
  · simp +decide only [go_sem, Nat.reduceAdd, List.length_map, List.length_set, Nat.le_refl, Nat.zero_le, encT]
    simp only [t1, encRR, List.map_set, encG]
theorem rowed_g (t : List SVtx) (a : Int) (R : List SRr) (H : List (List Int)) (s n : Int) (l : List Int) (hl : H.length ≤ 1000) (n0 : 0 ≤ n) (n1 : n < (H.length : Int)) : Gv P X 55 [encRR t a R H s, I n, L l] (encRR t a R (H.set n.toNat l) s) := by
  refine gm_of (rw := true) (hX _ (by decide)) fun55 rfl ?_
  have hH : H ≠ [] := fun e => by rw [e] at n1; simp at n1; omega
  have en : H[n.toNat]? = some (hrow H n) := by simp [hrow, show n.toNat < H.length by omega]
  have happ := appFH H hH (by omega) .no
  simp +decide only [Try.f55, encRR, go_sem, Nat.reduceAdd, rwO, lit, qO, usesT, appsT, isT, Nat.reduceBEq, stf, List.any_cons, List.any_nil, Option.isSome_some, happ, wrc, splice, elM, n0, n1, en, killL, killA, isMs, msNd, ofCells, List.length_map, Nat.le_refl]
  have t2 : ∀ i x, List.take H.length ((H.map L).set i x) = (H.map L).set i x := fun i x => List.take_of_length_le (by simp)
  refine ⟨_, rfl, ?_, ?_⟩
  · simp +decide only [go_sem, Nat.reduceAdd, List.length_map, List.length_set, Nat.le_refl, Nat.zero_le, encT]
  · simp +decide only [go_sem, Nat.reduceAdd, List.length_map, List.length_set, Nat.le_refl, Nat.zero_le, encT]
    simp only [t2, encRR, List.map_set]
end
end Go.Proofs.Ytplpmelpoajpdaa.Ev
namespace Go.Proofs.Ytplpmelpoajpdaa.Ev
open Go Go.Proofs
open Go.RowKit (wrap64)
set_option linter.unusedVariables false
set_option linter.unusedSimpArgs false
set_option maxRecDepth 100000
set_option maxHeartbeats 4000000
structure Fo where
  R : List SRr
  H : List (List Int)
  g : Int
  w : Int
def ownOf (R : List SRr) (H : List (List Int)) (p : Int) : Fo := if (takeR (rg R p)).2 = 0 then ⟨R, H, 0, 0⟩ else ⟨R.set p.toNat (takeR (rg R p)).1, H, (takeR (rg R p)).2, if (rg R p).f0 = 0 then 2 else 1⟩
def rowOf1 (R : List SRr) (H : List (List Int)) (n : Int) : Fo := if hrow H n = [] then ⟨R, H, 0, 0⟩ else ⟨R, H.set n.toNat (hrow H n).tail, (hrow H n).headD 0, 3⟩
def encFo (t : List SVtx) (a : Int) (s : Int) (x : Fo) : AV := .tup [encRR t a x.R x.H s, I x.g, I x.w]
theorem own_g (t : List SVtx) (a : Int) (R : List SRr) (H : List (List Int)) (s p : Int) (f : Fw R H) (h0 : 0 ≤ p) (h1 : p < (R.length : Int)) : Gv P XN 79 [encRR t a R H s, I p] (encFo t a s (ownOf R H p)) := by
  refine gm_of (rw := false) (lowN _ (by decide)) fun79 rfl ?_
  have e1 : R[p.toNat]? = some (rg R p) := by simp [rg, show p.toNat < R.length by omega]
  have l1 := f.rl _ (List.mem_of_getElem? e1)
  have hr := f.r
  have hne : R ≠ [] := fun e => by rw [e] at h1; simp at h1; omega
  have htk := take_g (rg R p) (by omega)
  unfold encFo ownOf
  have key : ∀ w : Int, (w = if (rg R p).f0 = 0 then 2 else 1) → True := fun _ _ => trivial
  simp +decide only [Try.f79, encRR, go_sem, Nat.reduceAdd, h0, e1, encG]
  generalize hg : takeR (rg R p) = y at htk
  obtain ⟨x', g⟩ := y
  simp only at htk
  cases hz : ((rg R p).f0 != 0)
  · have hz' : (rg R p).f0 = 0 := by simpa using hz
    simp +decide only [go_sem, Nat.reduceAdd, h0, e1, encG]
    refine WO_call rfl rfl rfl rfl rfl htk ?_
    simp +decide only [go_sem, Nat.reduceAdd, wrc, splice, encG]
    cases hgz : (g == 0)
    · have hgz' : ¬ g = 0 := by simpa using hgz
      simp +decide only [go_sem, Nat.reduceAdd, wrc, splice, encG]
      refine WO_calls rfl rfl rfl rfl rfl rfl ((clG_gs .no R hne (by omega) _).mono fun r S' h => ?_)
      obtain ⟨rfl, rfl⟩ := h
      simp +decide only [go_sem, Nat.reduceAdd, wrc, splice, elM, h0, h1, e1, encG, killL, killA, isMs, msNd, ofCells, List.any_cons, List.any_nil, List.length_map, Nat.le_refl]
      refine ⟨_, rfl, ?_, ?_⟩
      · simp +decide only [go_sem, Nat.reduceAdd, List.length_map, List.length_set, Nat.le_refl, Nat.zero_le, encT]
      · simp +decide only [go_sem, Nat.reduceAdd, List.length_map, List.length_set, Nat.le_refl, Nat.zero_le, encT]
        rw [List.take_of_length_le (by simp), if_neg hgz', if_pos hz']
        simp only [encRR, List.map_set, encG]
    · have hgz' : g = 0 := by simpa using hgz
      simp +decide only [go_sem, Nat.reduceAdd, wrc, splice, encG, encT]
      exact ⟨_, rfl, rfl, by rw [if_pos hgz']; rfl⟩
  · have hz' : ¬ (rg R p).f0 = 0 := by simpa using hz
    simp +decide only [go_sem, Nat.reduceAdd, h0, e1, encG]
    refine WO_call rfl rfl rfl rfl rfl htk ?_
    simp +decide only [go_sem, Nat.reduceAdd, wrc, splice, encG]
    cases hgz : (g == 0)
    · have hgz' : ¬ g = 0 := by simpa using hgz
      simp +decide only [go_sem, Nat.reduceAdd, wrc, splice, encG]
      refine WO_calls rfl rfl rfl rfl rfl rfl ((clG_gs .no R hne (by omega) _).mono fun r S' h => ?_)
      obtain ⟨rfl, rfl⟩ := h
      simp +decide only [go_sem, Nat.reduceAdd, wrc, splice, elM, h0, h1, e1, encG, killL, killA, isMs, msNd, ofCells, List.any_cons, List.any_nil, List.length_map, Nat.le_refl]
      refine ⟨_, rfl, ?_, ?_⟩
      · simp +decide only [go_sem, Nat.reduceAdd, List.length_map, List.length_set, Nat.le_refl, Nat.zero_le, encT]
      · simp +decide only [go_sem, Nat.reduceAdd, List.length_map, List.length_set, Nat.le_refl, Nat.zero_le, encT]
        rw [List.take_of_length_le (by simp), if_neg hgz', if_neg hz']
        simp only [encRR, List.map_set, encG]
    · have hgz' : g = 0 := by simpa using hgz
      simp +decide only [go_sem, Nat.reduceAdd, wrc, splice, encG, encT]
      exact ⟨_, rfl, rfl, by rw [if_pos hgz']; rfl⟩
theorem row_g (t : List SVtx) (a : Int) (R : List SRr) (H : List (List Int)) (s n : Int) (f : Fw R H) (h0 : 0 ≤ n) (h1 : n < (H.length : Int)) : Gv P XN 81 [encRR t a R H s, I n] (encFo t a s (rowOf1 R H n)) := by
  refine gm_of (rw := false) (lowN _ (by decide)) fun81 rfl ?_
  have e1 : H[n.toNat]? = some (hrow H n) := by simp [hrow, show n.toNat < H.length by omega]
  have l1 := f.hl _ (List.mem_of_getElem? e1)
  have hr := f.h
  have hne : H ≠ [] := fun e => by rw [e] at h1; simp at h1; omega
  unfold encFo rowOf1
  simp +decide only [Try.f81, encRR, go_sem, Nat.reduceAdd, h0, e1]
  cases hz : hrow H n with
  | nil =>
    refine Wif_of (fun _ => ?_) (fun h => absurd h (by decide))
    simp +decide only [go_sem, Nat.reduceAdd, wrc, splice, encT]
    exact ⟨_, rfl, rfl, rfl⟩
  | cons g l =>
    rw [hz] at l1
    have l2 : l.length ≤ 499 := by simp at l1; omega
    have hz0 : (((g :: l).length : Int) == 0) = false := by
      cases e : (((g :: l).length : Int) == 0)
      · rfl
      · have := eq_of_beq e; rw [List.length_cons] at this; omega
    have hb1 : (1 : Int) ≤ ((g :: l).length : Int) := by rw [List.length_cons]; omega
    have hu : uni 1 (List.map I (g :: l)) = true := uniI _
    have htk : List.take l.length (List.map I l) = List.map I l := List.take_of_length_le (by simp)
    simp only [List.map_cons, List.length_cons] at hu hb1 hz0
    simp +decide only [hz0, go_sem, Nat.reduceAdd, wrc, splice, List.length_cons]
    refine WO_calls rfl rfl rfl rfl rfl rfl ((clH_gs .no H hne (by omega) _).mono fun r S' h => ?_)
    obtain ⟨rfl, rfl⟩ := h
    simp +decide only [go_sem, Nat.reduceAdd, wrc, splice]
    refine W_drawL ⟨true, none, some 3, [88]⟩ hmx (by kernel_rfl) ?_
    simp +decide only [go_sem, Nat.reduceAdd, mdOK, rdOK, rdId, wrOK, mkOK, slA, hb1, hu, Int.reduceToNat, htk]
    refine WO_calln (b := 3) rfl rfl rfl rfl (Nat.le_refl 3) rfl rfl ((clI_gs .no l (by omega) _).mono fun r S' h => ?_)
    rcases h with ⟨rfl, rfl, rfl⟩ | ⟨hne2, rfl, rfl⟩
    · refine ⟨⟨[], rfl⟩, ?_⟩
      simp +decide only [go_sem, Nat.reduceAdd, mdOK, rdOK, rdId, wrOK, mkOK, wrc, splice, elM, h0, h1, e1, killL, killA, isMs, msNd, ofCells, List.any_cons, List.any_nil, List.length_map, Nat.le_refl]
      refine W_drawL ⟨true, some 1, none, []⟩ hmx (by kernel_rfl) ?_
      simp +decide only [go_sem, Nat.reduceAdd, mdOK, rdOK, rdId, wrOK, mkOK, wrc, splice, encT, Int.reduceToNat]
      refine ⟨_, rfl, ?_, ?_⟩
      · simp +decide only [go_sem, Nat.reduceAdd, List.length_map, List.length_set, Nat.le_refl, Nat.zero_le, encT]
      · simp +decide only [go_sem, Nat.reduceAdd, List.length_map, List.length_set, Nat.le_refl, Nat.zero_le, encT]
        rw [List.take_of_length_le (by simp)]
        simp only [encRR, List.map_set]; rfl
    · refine ⟨⟨_, rfl⟩, ?_⟩
      simp +decide only [go_sem, Nat.reduceAdd, mdOK, rdOK, rdId, wrOK, mkOK, wrc, splice, elM, h0, h1, e1, killL, killA, isMs, msNd, ofCells, List.any_cons, List.any_nil, List.length_map, Nat.le_refl, Nat.zero_le]
      refine W_drawL ⟨true, some 1, none, []⟩ hmx (by kernel_rfl) ?_
      simp +decide only [go_sem, Nat.reduceAdd, mdOK, rdOK, rdId, wrOK, mkOK, wrc, splice, encT, Int.reduceToNat]
      refine ⟨_, rfl, ?_, ?_⟩
      · simp +decide only [go_sem, Nat.reduceAdd, List.length_map, List.length_set, Nat.le_refl, Nat.zero_le, encT]
      · simp +decide only [go_sem, Nat.reduceAdd, List.length_map, List.length_set, Nat.le_refl, Nat.zero_le, encT]
        rw [List.take_of_length_le (by simp), htk]
        simp only [encRR, List.map_set]; rfl
theorem own_c (t : List SVtx) (a : Int) (R : List SRr) (H : List (List Int)) (s p : Int) (f : Fw R H) (h0 : 0 ≤ p) (h1 : p < (R.length : Int)) (S : Obs) {i j : Nat} (e1 : S[i]? = some (.var false [encT t, I a, .sl .no (R.map encG), .sl .no (H.map L), U s])) (e2 : S[j]? = some (.var false [I p])) :
    Gs P XN 78 [.ptr i 0, .ptr j 0] S fun r S' => r = encFo t a s (ownOf R H p) ∧ ∃ J, S' = S ++ J := by
  refine gs_of (rw := false) (kf := false) (lowN _ (by decide)) fun78 rfl ?_
  have h := own_g t a R H s p f h0 h1
  have hg : ∀ m, (S ++ m)[i]? = some (.var false [encT t, I a, .sl .no (R.map encG), .sl .no (H.map L), U s]) := fun m => gOld e1
  have hg2 : ∀ m, (S ++ m)[j]? = some (.var false [I p]) := fun m => gOld e2
  simp +decide only [Try.f78, go_sem, Nat.reduceAdd, hg, hg2, encT]
  refine WO_call rfl rfl rfl rfl rfl h ?_
  simp +decide only [go_sem, Nat.reduceAdd, encFo, encRR, wrc, splice, gA0, sA0, encT]
  refine ⟨_, rfl, rfl, _, rfl⟩
theorem row_c (t : List SVtx) (a : Int) (R : List SRr) (H : List (List Int)) (s p : Int) (f : Fw R H) (h0 : 0 ≤ p) (h1 : p < (H.length : Int)) (S : Obs) {i j : Nat} (e1 : S[i]? = some (.var false [encT t, I a, .sl .no (R.map encG), .sl .no (H.map L), U s])) (e2 : S[j]? = some (.var false [I p])) :
    Gs P XN 80 [.ptr i 0, .ptr j 0] S fun r S' => r = encFo t a s (rowOf1 R H p) ∧ ∃ J, S' = S ++ J := by
  refine gs_of (rw := false) (kf := false) (lowN _ (by decide)) fun80 rfl ?_
  have h := row_g t a R H s p f h0 h1
  have hg : ∀ m, (S ++ m)[i]? = some (.var false [encT t, I a, .sl .no (R.map encG), .sl .no (H.map L), U s]) := fun m => gOld e1
  have hg2 : ∀ m, (S ++ m)[j]? = some (.var false [I p]) := fun m => gOld e2
  simp +decide only [Try.f80, go_sem, Nat.reduceAdd, hg, hg2, encT]
  refine WO_call rfl rfl rfl rfl rfl h ?_
  simp +decide only [go_sem, Nat.reduceAdd, encFo, encRR, wrc, splice, gA0, sA0, encT]
  refine ⟨_, rfl, rfl, _, rfl⟩
theorem tyF : tsz P 93 = some 1 ∧ tagg P 93 = some false ∧ tzero P 93 = some [.v .nilFunc] := by and_intros <;> kernel_rfl
theorem turn_g (n : Int) : Gv P XN 82 [I n] (B (n.tmod 61 == 0)) := by
  refine gv_of (lowN _ (by decide)) fun82 rfl ?_
  have h : ¬ (61 : Int) = 0 := by decide
  simp +decide only [Try.f82, go_sem, h]
  exact ⟨_, rfl, rfl, rfl⟩
def localOf (t : List SVtx) (a : Int) (R : List SRr) (H : List (List Int)) (s p : Int) : Fo :=
  if (mayB t a R H s && tb s p) = true then (if (ownOf R H p).g = 0 then (if (rowOf1 R H (nodeOf t p)).g = 0 then ⟨R, H, 0, 0⟩ else rowOf1 R H (nodeOf t p)) else ownOf R H p) else ⟨R, H, 0, 0⟩
theorem local_g (t : List SVtx) (a : Int) (R : List SRr) (H : List (List Int)) (s p : Int) (ht : t.length ≤ 64) (hs : U64 s) (f : Fw R H) : Gv P XN 49 [encRR t a R H s, I p, I 1] (encFo t a s (localOf t a R H s p)) := by
  refine gm_of (rw := true) (lowN _ (by decide)) fun49 rfl ?_
  have tt := turn_g 1
  rw [show ((1 : Int).tmod 61 == 0) = false from rfl] at tt
  unfold localOf
  simp +decide only [Try.f49, encRR, go_sem, Nat.reduceAdd]
  refine WO_call rfl rfl rfl rfl rfl (runs_may_g lowN t a R H s ht hs f) ?_
  cases hM : mayB t a R H s
  · simp +decide only [go_sem, Nat.reduceAdd]
    refine WO_not rfl ?_
    simp +decide only [go_sem, Nat.reduceAdd, wrc, splice]
    exact ⟨_, rfl, rfl, rfl⟩
  simp +decide only [go_sem, Nat.reduceAdd]
  refine WO_call rfl rfl rfl rfl rfl (has_g lowN hs p) ?_
  cases hO : tb s p
  · simp +decide only [go_sem, Nat.reduceAdd, wrc, splice]
    exact ⟨_, rfl, rfl, rfl⟩
  have hm := may_iff.mp hM
  have hp := hm.inP.mpr ⟨tb_nn hO, hm.on p hO⟩
  have hp2 := hm.inP.mp hp
  have hn2 := node_at hp
  rw [← hm.h] at hn2
  simp +decide only [go_sem, Nat.reduceAdd]
  refine WO_call rfl rfl rfl rfl rfl (node_g lowN t p (by omega)) ?_
  simp +decide only [go_sem, Nat.reduceAdd, wrc, splice, rwO, lit, qO, usesT, appsT, isT, Nat.reduceBEq, stf, List.any_cons, List.any_nil, Option.isSome_some, tyF, capOk]
  refine WO_call rfl rfl rfl rfl rfl tt ?_
  simp +decide only [go_sem, Nat.reduceAdd]
  have e1 : IntKind.i64.wrap (0 + 1) = 1 := by decide
  have e2 : IntKind.i64.wrap (1 + 1) = 2 := by decide
  refine W_unroll ?_
  simp +decide only [go_sem, Nat.reduceAdd, Int.reduceToNat, elM, tyF]
  refine WO_calls (g := 78) (cap := [.ptr 0 0, .ptr 1 0]) rfl rfl rfl rfl rfl rfl ?_
  refine (own_c t a R H s p f hp2.1 hp2.2 _ (i := 0) (j := 1) rfl rfl).mono fun r S' h => ?_
  obtain ⟨rfl, J, rfl⟩ := h
  unfold encFo
  cases hg : (ownOf R H p).g == 0
  · have hg' : ¬ (ownOf R H p).g = 0 := by simpa using hg
    have hg2 : ((ownOf R H p).g != 0) = true := by simpa using hg'
    simp +decide only [go_sem, Nat.reduceAdd, wrc, splice, encRR, hg2]
    refine ⟨_, rfl, ?_, ?_⟩
    · simp +decide only [go_sem, Nat.reduceAdd, encT]
    · simp +decide only [go_sem, Nat.reduceAdd, encT]
      rw [if_neg hg']
  · have hg' : (ownOf R H p).g = 0 := by simpa using hg
    have hg2 : ((ownOf R H p).g != 0) = false := by rw [hg']; rfl
    simp +decide only [go_sem, Nat.reduceAdd, wrc, splice, encRR, hg2, e1]
    generalize J ++ [Ob.var false [encT t, I a, .sl .no ((ownOf R H p).R.map encG), .sl .no ((ownOf R H p).H.map L), U s]] = K
    refine W_unroll ?_
    simp +decide only [go_sem, Nat.reduceAdd, Int.reduceToNat, elM, tyF]
    refine WO_calls (g := 80) (cap := [.ptr 0 0, .ptr 3 0]) rfl rfl rfl rfl rfl rfl ?_
    refine (row_c t a R H s (nodeOf t p) f hn2.1 hn2.2 _ (i := 0) (j := 3) rfl rfl).mono fun r S' h => ?_
    obtain ⟨rfl, J2, rfl⟩ := h
    simp only [List.cons_append]
    generalize K ++ J2 = K2
    unfold encFo
    cases hr : (rowOf1 R H (nodeOf t p)).g == 0
    · have hr' : ¬ (rowOf1 R H (nodeOf t p)).g = 0 := by simpa using hr
      have hr2 : ((rowOf1 R H (nodeOf t p)).g != 0) = true := by simpa using hr'
      simp +decide only [go_sem, Nat.reduceAdd, wrc, splice, encRR, hr2]
      refine ⟨_, rfl, ?_, ?_⟩
      · simp +decide only [go_sem, Nat.reduceAdd, encT]
      · simp +decide only [go_sem, Nat.reduceAdd, encT]
        rw [if_pos hg', if_neg hr']
    · have hr' : (rowOf1 R H (nodeOf t p)).g = 0 := by simpa using hr
      have hr2 : ((rowOf1 R H (nodeOf t p)).g != 0) = false := by rw [hr']; rfl
      simp +decide only [go_sem, Nat.reduceAdd, wrc, splice, encRR, hr2, e2]
      refine W_unroll ?_
      simp +decide only [go_sem, Nat.reduceAdd, Int.reduceToNat, wrc, splice, encT]
      refine ⟨_, rfl, rfl, ?_⟩
      rw [if_pos hg', if_pos hr']
      rfl
end Go.Proofs.Ytplpmelpoajpdaa.Ev
namespace Go.Proofs.Ytplpmelpoajpdaa.Ev
open Go Go.Proofs
open Go.RowKit (wrap64)
set_option linter.unusedVariables false
set_option linter.unusedSimpArgs false
set_option maxRecDepth 100000
set_option maxHeartbeats 4000000
def encSto (t : List SVtx) (a : Int) (s : Int) (x : Sto) : AV := .tup [encRR t a x.R x.H s, I x.g, I x.d]
theorem halfR_ne {x : SRr} (h : rAll x ≠ []) : (halfR x).2 ≠ [] := by
  obtain ⟨n, l⟩ := x
  unfold halfR
  by_cases hl : l = []
  · subst hl
    have hn : ¬ n = 0 := fun e => h (by subst e; rfl)
    rw [if_pos rfl]
    simp [hn]
  · rw [if_neg hl]
    have h0 : 0 < l.length := by cases l <;> simp at hl ⊢
    intro e
    have h1 : (l.take ((l.length + 1) / 2)).length = 0 := by rw [show l.take ((l.length + 1) / 2) = [] from e]; rfl
    rw [List.length_take] at h1; omega
theorem halfR_len {x : SRr} : (halfR x).2.length ≤ x.f1.length + 1 ∧ (halfR x).1.f1.length ≤ x.f1.length := by
  unfold halfR
  by_cases hl : x.f1 = []
  · rw [if_pos hl]
    by_cases hn : x.f0 = 0
    · simp [hn]
    · simp [hn]
  · rw [if_neg hl]; simp; omega
theorem stake_g (t : List SVtx) (a : Int) (R : List SRr) (H : List (List Int)) (s p q : Int) (ht : t.length ≤ 64) (f : Fw R H) (ha : 0 ≤ a) (hp : inP t p) (p0 : 0 ≤ p) (p1 : p < (R.length : Int)) (q0 : 0 ≤ q) (q1 : q < (R.length : Int)) (n0 : 0 ≤ nodeOf t p) (n1 : nodeOf t p < (H.length : Int)) (hne : rAll (rg R q) ≠ []) :
    Gv P XN 50 [encRR t a R H s, I p, I q] (encSto t a s (takeOf t a R H p q)) := by
  refine gm_of (rw := false) (lowN _ (by decide)) fun50 rfl ?_
  have eq : R[q.toNat]? = some (rg R q) := by simp [rg, show q.toNat < R.length by omega]
  have ep : R[p.toNat]? = some (rg R p) := by simp [rg, show p.toNat < R.length by omega]
  have en : H[(nodeOf t p).toNat]? = some (hrow H (nodeOf t p)) := by simp [hrow, show (nodeOf t p).toNat < H.length by omega]
  have lq := f.rl _ (List.mem_of_getElem? eq)
  have ln := f.hl _ (List.mem_of_getElem? en)
  have hr := f.r
  have hh := f.h
  have hR : R ≠ [] := fun e => by rw [e] at p1; simp at p1; omega
  have hH : H ≠ [] := fun e => by rw [e] at n1; simp at n1; omega
  have hhf := half_g (rg R q) (by omega)
  have hb := halfR_ne hne
  have hbl := halfR_len (x := rg R q)
  have hnd := node_g lowN t p (by omega)
  have hfr := far_g lowN t p q (by omega)
  unfold encSto takeOf
  generalize hrow H (nodeOf t p) = hn at *
  generalize nodeOf t p = nd at *
  generalize farOf t p q = fd at *
  generalize halfR (rg R q) = y at *
  obtain ⟨x', b⟩ := y
  simp only at hhf hb hbl ⊢
  obtain ⟨g, o, rfl⟩ := List.exists_cons_of_ne_nil hb
  have hol : o.length ≤ 500 := by have := hbl.1; simp at this; omega
  have hb1 : (1 : Int) ≤ ((g :: o).length : Int) := by rw [List.length_cons]; omega
  have hu : uni 1 (List.map I (g :: o)) = true := uniI _
  have htk : List.take o.length (List.map I o) = List.map I o := List.take_of_length_le (by simp)
  simp only [List.map_cons, List.length_cons] at hu hb1
  have hk : (if a < (o.length : Int) then a else (o.length : Int)) = ((min o.length a.toNat : Nat) : Int) := by split <;> omega
  have hk2 : o.take a.toNat = o.take (min o.length a.toNat) := by
    by_cases h : a.toNat ≤ o.length
    · rw [Nat.min_eq_right h]
    · rw [Nat.min_eq_left (by omega), List.take_length, List.take_of_length_le (by omega)]
  have hk3 : o.drop a.toNat = o.drop (min o.length a.toNat) := by
    by_cases h : a.toNat ≤ o.length
    · rw [Nat.min_eq_right h]
    · rw [Nat.min_eq_left (by omega), List.drop_length, List.drop_eq_nil_of_le (by omega)]
  have hkl : min o.length a.toNat ≤ o.length := Nat.min_le_left _ _
  rw [List.tail_cons, List.headD_cons, hk2, hk3]
  generalize min o.length a.toNat = k at *
  have k0 : (0 : Int) ≤ (k : Int) := by omega
  have k1 : (k : Int) ≤ (o.length : Int) := by omega
  have hcc := concat_g hn (o.drop k) (by omega) (by simp; omega)
  have hdl : List.drop k (List.take o.length (List.map I o)) = (o.drop k).map I := by rw [htk, List.map_drop]
  have hdl2 : List.drop k (List.map I o) = (o.drop k).map I := by rw [List.map_drop]
  have htl2 : List.take k (List.map I o) = (o.take k).map I := by rw [List.map_take]
  have huo : uni 1 (List.map I o) = true := uniI _
  simp +decide only [Try.f50, encRR, go_sem, Nat.reduceAdd, q0, eq, encG]
  refine WO_call rfl rfl rfl rfl rfl hhf ?_
  simp +decide only [go_sem, Nat.reduceAdd, wrc, splice, encG]
  refine W_drawL ⟨true, none, some 3, [85, 86]⟩ hmx (by kernel_rfl) ?_
  simp +decide only [go_sem, Nat.reduceAdd, mdOK, rdOK, rdId, wrOK, mkOK]
  refine WO_calln (b := 3) rfl rfl rfl rfl (Nat.le_refl 3) rfl rfl ((clG_gs .no R hR (by omega) _).mono fun r S' h => ?_)
  obtain ⟨rfl, rfl⟩ := h
  refine ⟨⟨_, rfl⟩, ?_⟩
  simp +decide only [go_sem, Nat.reduceAdd, mdOK, rdOK, rdId, wrOK, mkOK]
  refine WO_calln (b := 3) rfl rfl rfl rfl (Nat.le_succ 3) rfl rfl ((clH_gs .no H hH (by omega) _).mono fun r S' h => ?_)
  obtain ⟨rfl, rfl⟩ := h
  refine ⟨⟨_, rfl⟩, ?_⟩
  simp +decide only [go_sem, Nat.reduceAdd, mdOK, rdOK, rdId, wrOK, mkOK, wrc, splice, elM, q0, q1, eq, encG, killL, killA, isMs, msNd, ofCells, List.any_cons, List.any_nil, List.length_map, Nat.le_refl, slA, hb1, hu, Int.reduceToNat, htk, hk]
  have hfold : (R.map encG).set q.toNat (.agg [I x'.f0, .sl .no (x'.f1.map I)]) = (R.set q.toNat x').map encG := by rw [List.map_set]; rfl
  simp only [hfold]
  have hrl : (R.set q.toNat x').length = R.length := by simp
  generalize R.set q.toNat x' = R1 at hrl
  have ep1 : R1[p.toNat]? = some (rg R1 p) := by simp [rg, show p.toNat < R1.length by omega]
  refine W_drawM true hmx (by kernel_rfl) ?_
  simp +decide only [go_sem, Nat.reduceAdd, mdOK, rdOK, rdId, wrOK, mkOK, wrc, splice, elM, p0, p1, ep1, encG, killL, killA, isMs, msNd, ofCells, List.any_cons, List.any_nil, List.length_map, Nat.le_refl, slA, hrl, fillA, places, k0, k1, huo, hu]
  refine WO_call rfl rfl rfl rfl rfl hnd ?_
  simp +decide only [go_sem, Nat.reduceAdd]
  refine W_drawM true hmx (by kernel_rfl) ?_
  simp +decide only [go_sem, Nat.reduceAdd, mdOK, rdOK, rdId, wrOK, mkOK, wrc, splice, elM, n0, n1, en, encG, killL, killA, isMs, msNd, ofCells, List.any_cons, List.any_nil, List.length_map, Nat.le_refl, slA, k0, k1, huo, hdl, hdl2]
  refine WO_call rfl rfl rfl rfl rfl hcc ?_
  simp +decide only [go_sem, Nat.reduceAdd, mdOK, rdOK, rdId, wrOK, mkOK, wrc, splice, elM, n0, n1, en, encG, killL, killA, isMs, msNd, ofCells, List.any_cons, List.any_nil, List.length_map, Nat.le_refl]
  refine W_drawL ⟨true, some 1, none, []⟩ hmx (by kernel_rfl) ?_
  simp +decide only [go_sem, Nat.reduceAdd, mdOK, rdOK, rdId, wrOK, mkOK, wrc, splice, encT, Int.reduceToNat]
  refine WO_call rfl rfl rfl rfl rfl hfr ?_
  simp +decide only [go_sem, Nat.reduceAdd, mdOK, rdOK, rdId, wrOK, mkOK, wrc, splice, encT, Int.reduceToNat]
  refine ⟨_, rfl, ?_, ?_⟩
  · simp +decide only [go_sem, Nat.reduceAdd, List.length_map, List.length_set, Nat.le_refl, Nat.zero_le, encT, hrl]
  · simp +decide only [go_sem, Nat.reduceAdd, List.length_map, List.length_set, Nat.le_refl, Nat.zero_le, encT, hrl]
    have t1 : ∀ i x, List.take R.length ((R1.map encG).set i x) = (R1.map encG).set i x := fun i x => List.take_of_length_le (by simp [hrl])
    have t2 : ∀ i x, List.take H.length ((H.map L).set i x) = (H.map L).set i x := fun i x => List.take_of_length_le (by simp)
    simp only [t1, t2, encRR, List.map_set, encG, htl2]
theorem srow_g (t : List SVtx) (a : Int) (R : List SRr) (H : List (List Int)) (s p : Int) (ht : t.length ≤ 64) (f : Fw R H) (hp : inP t p) (n0 : 0 ≤ nodeOf t p) (n1 : nodeOf t p < (H.length : Int)) :
    Gv P XN 51 [encRR t a R H s, I p] (encSto t a s (rowOfS t R H p)) := by
  refine gm_of (rw := false) (lowN _ (by decide)) fun51 rfl ?_
  have hh := f.h
  have hH : H ≠ [] := fun e => by rw [e] at n1; simp at n1; omega
  have hnd := node_g lowN t p (by omega)
  unfold encSto rowOfS
  obtain ⟨nd, hnde⟩ : ∃ nd : Nat, nodeOf t p = nd := ⟨(nodeOf t p).toNat, by omega⟩
  rw [hnde] at hnd n1 ⊢
  rw [Int.toNat_natCast]
  simp +decide only [Try.f51, encRR, go_sem, Nat.reduceAdd]
  refine W_draw hmx (by kernel_rfl) ?_
  simp +decide only [go_sem, Nat.reduceAdd]
  refine WO_call rfl rfl rfl rfl rfl hnd ?_
  simp +decide only [go_sem, Nat.reduceAdd]
  refine W_ind (fun m st => ∃ k : Nat, k + m = H.length ∧ 1 ≤ k ∧ FrIs 53 [(2, .ptr 0 0), (4, .ptr 1 0), (7, I H.length), (8, I nd), (9, I k)] st.fr ∧ st.S = [.var false [encT t, I a, .sl .no (R.map encG), .sl .no (H.map L), U s], .var false [.sl .nil [], I 0, .sl .nil [], .sl .nil [], U 0]] ∧ st.T = [] ∧ scanRow H nd (H.length - 1) 1 = scanRow H nd m k) ?_ (n := H.length - 1) ⟨1, by omega, Nat.le_refl 1, ⟨rfl, rfl, rfl, rfl, rfl, rfl, trivial⟩, rfl, rfl, rfl⟩
  rintro m ⟨L', S, T⟩ ih ⟨k, hk, hk1, hF, rfl, rfl, hsc⟩
  obtain ⟨j, rfl⟩ := hF.ex
  have hw := wrap_nat k (by omega)
  simp +decide only [fr, jl, Nat.reduceAdd, go_sem]
  refine Wif_of (fun h => ?_) (fun h => ?_)
  · have hlt : k < H.length := by simpa using h
    obtain ⟨m, rfl⟩ : ∃ x, m = x + 1 := ⟨m - 1, by omega⟩
    have hw2 : IntKind.i64.wrap ((nd : Int) + (k : Int)) = ((nd + k : Nat) : Int) := wrap64_of (by omega)
    have hmd : Int.tmod ((nd + k : Nat) : Int) (H.length : Int) = (((nd + k) % H.length : Nat) : Int) := rfl
    have hx0 : (nd + k) % H.length < H.length := Nat.mod_lt _ (by omega)
    have hz0 : ¬ (H.length : Int) = 0 := by omega
    rw [scanRow] at hsc
    generalize (nd + k) % H.length = x at *
    have ex := hrow_at hx0
    have l1 := f.hl _ (List.mem_of_getElem? ex)
    simp +decide only [go_sem, Nat.reduceAdd, hw2, hz0, hmd, ex]
    cases hz : hrow H (x : Int) with
    | nil =>
      rw [hz] at hsc
      refine Wif_of (fun h => absurd h (by decide)) (fun _ => ?_)
      simp +decide only [go_sem, hw]
      exact ih m _ (by omega) ⟨k + 1, by omega, by omega, ⟨rfl, rfl, rfl, rfl, rfl, rfl, trivial⟩, rfl, rfl, hsc⟩
    | cons g l =>
      clear ih
      rw [hz, if_neg (by simp)] at hsc
      rw [hz] at l1
      have l2 : l.length ≤ 499 := by simp at l1; omega
      have hb0 : (0 : Int) < ((g :: l).length : Int) := by rw [List.length_cons]; omega
      have hb1 : (1 : Int) ≤ ((g :: l).length : Int) := by rw [List.length_cons]; omega
      have hu : uni 1 (List.map I (g :: l)) = true := uniI _
      have htk : List.take l.length (List.map I l) = List.map I l := List.take_of_length_le (by simp)
      have hi1 : (x : Int) < (H.length : Int) := by omega
      simp only [List.map_cons, List.length_cons] at hu hb1 hb0
      have t2 : ∀ i x, List.take H.length ((H.map L).set i x) = (H.map L).set i x := fun i x => List.take_of_length_le (by simp)
      simp +decide only [List.length_cons, hb0, go_sem, Nat.reduceAdd, encT]
      refine WO_calls rfl rfl rfl rfl rfl rfl ((clH_gs .no H hH (by omega) _).mono fun r S' h => ?_)
      obtain ⟨rfl, rfl⟩ := h
      simp +decide only [go_sem, Nat.reduceAdd, wrc, splice]
      refine W_drawL ⟨true, none, some 3, [88]⟩ hmx (by kernel_rfl) ?_
      simp +decide only [go_sem, Nat.reduceAdd, mdOK, rdOK, rdId, wrOK, mkOK, slA, hb1, hu, Int.reduceToNat, htk]
      refine WO_calln (b := 3) rfl rfl rfl rfl (Nat.le_refl 3) rfl rfl ((clI_gs .no l (by omega) _).mono fun r S' h => ?_)
      rcases h with ⟨rfl, rfl, rfl⟩ | ⟨hne2, rfl, rfl⟩
      · refine ⟨⟨[], rfl⟩, ?_⟩
        simp +decide only [go_sem, Nat.reduceAdd, mdOK, rdOK, rdId, wrOK, mkOK, wrc, splice, elM, hi1, ex, killL, killA, isMs, msNd, ofCells, List.any_cons, List.any_nil, List.length_map, Nat.le_refl]
        refine W_drawL ⟨true, some 1, none, []⟩ hmx (by kernel_rfl) ?_
        simp +decide only [go_sem, Nat.reduceAdd, mdOK, rdOK, rdId, wrOK, mkOK, wrc, splice, encT, Int.reduceToNat]
        refine ⟨_, rfl, ?_, ?_⟩
        · simp +decide only [go_sem, Nat.reduceAdd, List.length_map, List.length_set, Nat.le_refl, Nat.zero_le, encT]
        · simp +decide only [go_sem, Nat.reduceAdd, List.length_map, List.length_set, Nat.le_refl, Nat.zero_le, encT, hsc, hz]
          simp only [t2, encRR, List.map_set]; rfl
      · refine ⟨⟨_, rfl⟩, ?_⟩
        simp +decide only [go_sem, Nat.reduceAdd, mdOK, rdOK, rdId, wrOK, mkOK, wrc, splice, elM, hi1, ex, killL, killA, isMs, msNd, ofCells, List.any_cons, List.any_nil, List.length_map, Nat.le_refl, Nat.zero_le]
        refine W_drawL ⟨true, some 1, none, []⟩ hmx (by kernel_rfl) ?_
        simp +decide only [go_sem, Nat.reduceAdd, mdOK, rdOK, rdId, wrOK, mkOK, wrc, splice, encT, Int.reduceToNat]
        refine ⟨_, rfl, ?_, ?_⟩
        · simp +decide only [go_sem, Nat.reduceAdd, List.length_map, List.length_set, Nat.le_refl, Nat.zero_le, encT]
        · simp +decide only [go_sem, Nat.reduceAdd, List.length_map, List.length_set, Nat.le_refl, Nat.zero_le, encT, hsc, hz]
          simp only [t2, htk, encRR, List.map_set]; rfl
  · have hm : m = 0 := by simp at h; omega
    subst hm
    simp +decide only [go_sem, Nat.reduceAdd, wrc, splice, encT]
    exact ⟨_, rfl, rfl, by rw [hsc]; rfl⟩
theorem local_z {t : List SVtx} {a : Int} {R : List SRr} {H : List (List Int)} {s p : Int} (hm : May t a R H s) (ho : tb s p = true) (f : Fw R H) : ((localOf t a R H s p).g = 0) ↔ rAll (rg R p) = [] ∧ hrow H (nodeOf t p) = [] := by
  have hp := hm.inP.mpr ⟨tb_nn ho, hm.on p ho⟩
  obtain ⟨h0, e1, m1, n0, e2, m2⟩ := inP_at hm hp
  have pos1 : ∀ x ∈ rAll (rg R p), 1 ≤ x := fun x hx => hm.pos x (List.mem_append_left _ (List.mem_flatMap.mpr ⟨_, m1, hx⟩))
  have pos2 : ∀ x ∈ hrow H (nodeOf t p), 1 ≤ x := fun x hx => hm.pos x (List.mem_append_right _ (List.mem_flatten.mpr ⟨_, m2, hx⟩))
  have o1 : (ownOf R H p).g = 0 ↔ rAll (rg R p) = [] := by
    unfold ownOf takeR rAll ringAll at *
    by_cases hn : (rg R p).f0 = 0
    · rw [if_pos hn] at pos1 ⊢
      rw [if_pos hn]
      cases hl : (rg R p).f1 with
      | nil => simp [hn]
      | cons g l =>
        rw [hl] at pos1
        have := pos1 g (by simp)
        have hg : ¬ g = 0 := by omega
        simp [hg, hn]
    · rw [if_neg hn, if_neg hn]
      simp [hn]
  have o2 : (rowOf1 R H (nodeOf t p)).g = 0 ↔ hrow H (nodeOf t p) = [] := by
    unfold rowOf1
    cases hl : hrow H (nodeOf t p) with
    | nil => simp
    | cons g l =>
      rw [hl] at pos2
      have := pos2 g (by simp)
      have hg : ¬ g = 0 := by omega
      simp [hg]
  unfold localOf
  rw [if_pos (by rw [may_iff.mpr hm, ho]; rfl)]
  by_cases h1 : (ownOf R H p).g = 0
  · rw [if_pos h1]
    by_cases h2 : (rowOf1 R H (nodeOf t p)).g = 0
    · rw [if_pos h2]; exact ⟨fun _ => ⟨o1.mp h1, o2.mp h2⟩, fun _ => rfl⟩
    · rw [if_neg h2]; exact ⟨fun h => absurd h h2, fun h => absurd (o2.mpr h.2) h2⟩
  · rw [if_neg h1]; exact ⟨fun h => absurd h h1, fun h => absurd (o1.mpr h.1) h1⟩
end Go.Proofs.Ytplpmelpoajpdaa.Ev
namespace Go.Proofs.Ytplpmelpoajpdaa.Ev
open Go Go.Proofs
open Go.RowKit (wrap64)
set_option linter.unusedVariables false
set_option linter.unusedSimpArgs false
set_option maxRecDepth 100000
set_option maxHeartbeats 4000000
theorem vict_mem {t : List SVtx} {a : Int} {R : List SRr} {H : List (List Int)} {s p far q : Int} (hm : May t a R H s) (hp : inP t p) : q ∈ victOf t a R H s p far ↔ inP t q ∧ q ≠ p ∧ rAll (rg R q) ≠ [] ∧ farOf t p q ≤ far := by
  unfold victOf victP
  rw [if_pos (may_iff.mpr hm), List.mem_filter, nearOf_mem hp, Bool.and_eq_true, decide_eq_true_eq, decide_eq_true_eq, List.length_pos_iff]
  exact ⟨fun h => ⟨h.1.1, h.1.2, h.2.1, h.2.2⟩, fun h => ⟨⟨h.1, h.2.1⟩, h.2.2.1, h.2.2.2⟩⟩
theorem steal_g (t : List SVtx) (a : Int) (R : List SRr) (H : List (List Int)) (s p far : Int) (ht : t.length ≤ 64) (hs : U64 s) (f : Fw R H) : Gv P XN 23 [encRR t a R H s, I p, I far] (encSto t a s (stealOf t a R H s p far)) := by
  refine gv_of (lowN _ (by decide)) fun23 rfl ?_
  unfold encSto stealOf
  have hlo := local_g t a R H s p ht hs f
  have hvi := vict_g t a R H s p far ht hs f
  simp +decide only [Try.f23, encRR, go_sem, Nat.reduceAdd]
  refine WO_call rfl rfl rfl rfl rfl (runs_may_g lowN t a R H s ht hs f) ?_
  cases hM : mayB t a R H s
  · have hth : ¬ thiefB t a R H s p = true := by unfold thiefB; rw [hM]; exact Bool.false_ne_true
    rw [if_neg hth]
    simp +decide only [go_sem, Nat.reduceAdd]
    refine WO_not rfl ?_
    simp +decide only [go_sem, Nat.reduceAdd, wrc, splice]
    exact ⟨_, rfl, rfl, rfl⟩
  simp +decide only [go_sem, Nat.reduceAdd]
  refine WO_call rfl rfl rfl rfl rfl (has_g lowN hs p) ?_
  cases hO : tb s p
  · have hth : ¬ thiefB t a R H s p = true := by unfold thiefB; rw [hM, hO]; exact Bool.false_ne_true
    rw [if_neg hth]
    simp +decide only [go_sem, Nat.reduceAdd, wrc, splice]
    exact ⟨_, rfl, rfl, rfl⟩
  have hm := may_iff.mp hM
  have hp := hm.inP.mpr ⟨tb_nn hO, hm.on p hO⟩
  have hp2 := hm.inP.mp hp
  have hn2 := node_at hp
  rw [← hm.h] at hn2
  have hz := local_z hm hO f
  simp +decide only [go_sem, Nat.reduceAdd]
  refine WO_call rfl rfl rfl rfl rfl hlo ?_
  unfold encFo
  simp +decide only [go_sem, Nat.reduceAdd, wrc, splice, encRR]
  cases hg : ((localOf t a R H s p).g != 0)
  case true =>
    have hth : ¬ thiefB t a R H s p = true := fun h => by
      have := thief_iff.mp h
      have h2 := hz.mpr ⟨this.e, this.n⟩
      rw [h2] at hg; exact absurd hg (by decide)
    rw [if_neg hth]
    simp +decide only [go_sem, Nat.reduceAdd, wrc, splice, encT]
    exact ⟨_, rfl, rfl, rfl⟩
  case false =>
    have hg' : (localOf t a R H s p).g = 0 := by simpa using hg
    obtain ⟨z1, z2⟩ := hz.mp hg'
    have hth : thiefB t a R H s p = true := thief_iff.mpr ⟨hm, hO, z1, z2⟩
    rw [if_pos hth]
    simp +decide only [go_sem, Nat.reduceAdd]
    refine WO_call rfl rfl rfl rfl rfl hvi ?_
    have hvm := fun q => vict_mem (q := q) (far := far) hm hp
    cases hv : victOf t a R H s p far with
    | cons q l =>
      rw [hv] at hvm
      obtain ⟨hq, -, hqe, -⟩ := (hvm q).mp (by simp)
      have hq2 := hm.inP.mp hq
      have htk := stake_g t a R H s p q ht f (by have := hm.a2; omega) hp hp2.1 hp2.2 hq2.1 hq2.2 hn2.1 hn2.2 hqe
      unfold encSto at htk
      have hb0 : (0 : Int) < ((q :: l).length : Int) := by rw [List.length_cons]; omega
      simp only [List.length_cons] at hb0
      simp +decide only [List.map_cons, List.length_cons, List.length_map, hb0, go_sem, Nat.reduceAdd]
      refine W_drawL ⟨true, some 1, none, []⟩ hmx (by kernel_rfl) ?_
      simp +decide only [go_sem, Nat.reduceAdd, mdOK, rdOK, rdId, wrOK, mkOK, wrc, splice, encT, Int.reduceToNat]
      refine WO_call rfl rfl rfl rfl rfl htk ?_
      simp +decide only [go_sem, Nat.reduceAdd, mdOK, rdOK, rdId, wrOK, mkOK, wrc, splice, encT, encRR]
      exact ⟨_, rfl, rfl, rfl⟩
    | nil =>
      simp +decide only [go_sem, Nat.reduceAdd]
      by_cases h3 : 3 ≤ far
      · have hsr := srow_g t a R H s p ht f hp hn2.1 hn2.2
        unfold encSto at hsr
        simp +decide only [go_sem, Nat.reduceAdd, h3, encT]
        refine WO_call rfl rfl rfl rfl rfl hsr ?_
        simp +decide only [go_sem, Nat.reduceAdd, wrc, splice, encT, encRR]
        exact ⟨_, rfl, rfl, rfl⟩
      · simp +decide only [go_sem, Nat.reduceAdd, h3, wrc, splice, encT, encRR]
        exact ⟨_, rfl, rfl, rfl⟩
end Go.Proofs.Ytplpmelpoajpdaa.Ev
namespace Go.Proofs.Ytplpmelpoajpdaa.Ev
open Go Go.Proofs
open Go.RowKit (wrap64)
set_option linter.unusedVariables false
set_option linter.unusedSimpArgs false
set_option maxRecDepth 100000
set_option maxHeartbeats 4000000
/-- What is split at the size: first one list grows, then the other one. -/
def Two (T : Toks) (c : Nat) (v1 v2 : AV) (l : List Int) : Prop := (l.length ≤ c ∧ v2 = .sl .nil [] ∧ App P 3 T v1 (l.map I)) ∨ (c < l.length ∧ (∃ o, v1 = .sl o ((l.take c).map I)) ∧ App P 3 T v2 ((l.drop c).map I))
theorem Two.fst {T : Toks} {c : Nat} {v1 v2 : AV} {l : List Int} (h : Two T c v1 v2 l) : ∃ o, v1 = .sl o ((l.take c).map I) := by
  rcases h with ⟨h1, h2, h3⟩ | ⟨h1, h2, h3⟩
  · obtain ⟨o, rfl⟩ := h3.is
    exact ⟨o, by rw [List.take_of_length_le h1]⟩
  · exact h2
theorem Two.snd {T : Toks} {c : Nat} {v1 v2 : AV} {l : List Int} (h : Two T c v1 v2 l) : ∃ o, v2 = .sl o ((l.drop c).map I) := by
  rcases h with ⟨h1, rfl, h3⟩ | ⟨h1, h2, h3⟩
  · exact ⟨.nil, by rw [List.drop_eq_nil_of_le h1]; rfl⟩
  · exact h3.is
section
attribute [local instance 2000] onTV
theorem rsteal_g (t : List SVtx) (a : Int) (R : List SRr) (H : List (List Int)) (s p far : Int) (ht : t.length ≤ 64) (hs : U64 s) (f : Fw R H) : Gv P XN 24 [encRR t a R H s, I p, I far] (encSto t a s (stealOf t a R H s p far)) := by
  refine gt_of (rw := false) (lowN _ (by decide)) fun24 rfl ?_
  have hr := f.r
  have hh := f.h
  unfold encSto
  simp +decide only [Try.f24, encRR, go_sem, Nat.reduceAdd]
  refine WO_call rfl rfl rfl rfl rfl (thief_g lowN t a R H s p ht hs f) ?_
  cases hT : thiefB t a R H s p
  · have hx : stealOf t a R H s p far = ⟨R, H, 0, -1⟩ := by unfold stealOf; rw [hT]; rfl
    rw [hx]
    simp +decide only [go_sem, Nat.reduceAdd, wrc, splice, encT]
    exact ⟨_, rfl, rfl, rfl⟩
  have th := thief_iff.mp hT
  have hm := th.m
  have hp := th.p
  have ha := hm.a2
  obtain ⟨p0, ep, mp, n0, en, mn⟩ := inP_at hm hp
  have p1 := (hm.inP.mp hp).2
  have n1 := (node_at hp).2
  rw [← hm.h] at n1
  simp +decide only [go_sem, Nat.reduceAdd, encT]
  refine WO_call rfl rfl rfl rfl rfl (rnode_g lowN t p (by omega)) ?_
  simp +decide only [go_sem, Nat.reduceAdd, encT]
  refine WO_call rfl rfl rfl rfl rfl (rvict_g lowN t a R H s p far ht hs f) ?_
  have hvm := fun q => vict_mem (q := q) (far := far) hm hp
  cases hv : victOf t a R H s p far with
  | cons q l =>
    rw [hv] at hvm
    obtain ⟨hq, hqp, hqe, -⟩ := (hvm q).mp (by simp)
    have q0 := (hm.inP.mp hq).1
    have q1 := (hm.inP.mp hq).2
    have eq : R[q.toNat]? = some (rg R q) := by simp [rg, show q.toNat < R.length by omega]
    have lq := f.rl _ (List.mem_of_getElem? eq)
    have hhf := rhalf_g (X := XN) lowN (rg R q) (by omega)
    have hb := halfR_ne hqe
    have hbl := halfR_len (x := rg R q)
    have hfr := rfar_g (X := XN) lowN t p q (by omega)
    have hn0 := th.n
    have hx : stealOf t a R H s p far = takeOf t a R H p q := by unfold stealOf; rw [hT, if_pos rfl, hv]
    rw [hx]
    unfold takeOf
    generalize hnd : nodeOf t p = nd at *
    generalize farOf t p q = fd at *
    generalize halfR (rg R q) = y at *
    obtain ⟨x', b⟩ := y
    simp only at hhf hb hbl ⊢
    obtain ⟨g, o, rfl⟩ := List.exists_cons_of_ne_nil hb
    have hol : o.length ≤ 500 := by have := hbl.1; simp at this; omega
    rw [List.tail_cons, List.headD_cons, hn0, List.nil_append]
    have hlb : (0 : Int) < ((q :: l).length : Int) := by rw [List.length_cons]; omega
    simp only [List.length_cons] at hlb
    simp +decide only [List.map_cons, List.length_cons, List.length_map, hlb, go_sem, Nat.reduceAdd]
    refine W_drawL ⟨false, none, some 2, []⟩ hmx (by kernel_rfl) ?_
    simp +decide only [go_sem, Nat.reduceAdd, Int.reduceToNat, q0, eq, encG, mdOK, rdOK, rdId, wrOK, mkOK]
    refine WO_call rfl rfl rfl rfl rfl hhf ?_
    simp +decide only [go_sem, Nat.reduceAdd, wrc, splice, encG, fillA, places, mdOK, rdOK, rdId, wrOK, mkOK]
    refine W_ind (fun k st => ∃ (i : Nat) (v1 v2 : AV), i + k = o.length ∧ FrIs 140 [(1, I p), (3, .ptr 0 0), (6, .ptr 1 0), (9, I nd), (10, L (q :: l)), (11, .ptr 2 0), (12, L (g :: o)), (13, .ptr 3 0), (14, v2), (15, I ((i + 1 : Nat) : Int))] st.fr ∧ st.S = [.var false [encT t, I a, .sl .no (R.map encG), .sl .no (H.map L), U s], .var false [.sl .nil [], I 0, .sl .nil [], .sl .nil [], U 0], .var false [I x'.f0, L x'.f1], .var false [I 0, v1]] ∧ Two st.T a.toNat v1 v2 (o.take i)) ?_ (n := o.length) ⟨0, .sl .nil [], .sl .nil [], by omega, ⟨rfl, rfl, rfl, rfl, rfl, rfl, rfl, rfl, rfl, rfl, rfl, trivial⟩, rfl, .inl ⟨by simp, rfl, .nil⟩⟩
    rintro k ⟨L', S, T⟩ ih ⟨i, v1, v2, hi, hF, rfl, h2⟩
    obtain ⟨j, rfl⟩ := hF.ex
    have hw := wrap_nat (i + 1) (by omega)
    simp +decide only [fr, jl, Nat.reduceAdd, go_sem]
    refine Wif_of (fun h => ?_) (fun h => ?_)
    · have hlt : i < o.length := by simp at h; omega
      obtain ⟨x, hx, _⟩ := getE hlt
      have hx2 : (g :: o)[i + 1]? = some x := by rw [List.getElem?_cons_succ]; exact hx
      rcases h2 with ⟨hle, rfl, hA⟩ | ⟨hlt2, ⟨o1, rfl⟩, hA⟩
      · obtain ⟨ov, hov⟩ := hA.is
        by_cases hlt3 : (o.take i).length < a.toNat
        · obtain ⟨v', T', happ, hA'⟩ := app_int hA x (by simp; omega)
          have hc : ((o.take i).length : Int) < a := by omega
          obtain ⟨ov2, hov2⟩ := hA'.is
          subst hov hov2
          simp +decide only [go_sem, Nat.reduceAdd, hc]
          refine W_draw hmx (by kernel_rfl) ?_
          simp +decide only [go_sem, Nat.reduceAdd, hx, happ, wrc, splice, hw]
          refine ih (k - 1) _ (by omega) ⟨i + 1, _, _, by omega, ⟨rfl, rfl, rfl, rfl, rfl, rfl, rfl, rfl, rfl, rfl, rfl, trivial⟩, rfl, ?_⟩
          rw [take_snoc hx]
          exact .inl ⟨by simp at hlt3 ⊢; omega, rfl, hA'⟩
        · have hc : ¬ ((o.take i).length : Int) < a := by omega
          obtain ⟨v', T', happ, hA'⟩ := app_int (T := T) (l := []) App.nil x (by simp)
          subst hov
          simp +decide only [go_sem, Nat.reduceAdd, hc, hx, happ, hw]
          refine ih (k - 1) _ (by omega) ⟨i + 1, _, _, by omega, ⟨rfl, rfl, rfl, rfl, rfl, rfl, rfl, rfl, rfl, rfl, rfl, trivial⟩, rfl, ?_⟩
          rw [take_snoc hx]
          refine .inr ⟨by simp at hlt3 hle ⊢; omega, ⟨ov, ?_⟩, ?_⟩
          · rw [List.take_append_of_le_length (by omega), List.take_of_length_le hle]
          · have e1 : (o.take i ++ [x]).drop a.toNat = [x] := by
              rw [show a.toNat = (o.take i).length by omega, List.drop_left']
              rfl
            rw [e1]; exact hA'
      · have hc : ¬ (((o.take i).take a.toNat).length : Int) < a := by
          rw [List.length_take]; omega
        obtain ⟨v', T', happ, hA'⟩ := app_int hA x (by simp; omega)
        simp +decide only [go_sem, Nat.reduceAdd, hc, hx, happ, hw]
        refine ih (k - 1) _ (by omega) ⟨i + 1, _, _, by omega, ⟨rfl, rfl, rfl, rfl, rfl, rfl, rfl, rfl, rfl, rfl, rfl, trivial⟩, rfl, ?_⟩
        rw [take_snoc hx]
        refine .inr ⟨by simp at hlt2 ⊢; omega, ⟨o1, ?_⟩, ?_⟩
        · rw [List.take_append_of_le_length (by omega)]
        · rw [List.drop_append_of_le_length (by omega)]; exact hA'
    · have hi' : i = o.length := by simp at h; omega
      subst hi'
      clear ih
      rw [List.take_length] at h2
      obtain ⟨o1, rfl⟩ := h2.fst
      obtain ⟨o2, rfl⟩ := h2.snd
      have hg1 := ringed_g (X := XN) lowN t a R H s q x' (by omega) q0 q1
      have hg2 := ringed_g (X := XN) lowN t a (R.set q.toNat x') H s p ⟨0, o.take a.toNat⟩ (by simp; omega) p0 (by simpa using p1)
      have hg3 := rowed_g (X := XN) lowN t a ((R.set q.toNat x').set p.toNat ⟨0, o.take a.toNat⟩) H s nd (o.drop a.toNat) (by omega) n0 n1
      simp +decide only [go_sem, Nat.reduceAdd]
      refine W_drawL ⟨false, none, some 4, []⟩ hmx (by kernel_rfl) ?_
      simp +decide only [go_sem, Nat.reduceAdd, Int.reduceToNat, encT, mdOK, rdOK, rdId, wrOK, mkOK]
      refine WO_call rfl rfl rfl rfl rfl hg1 ?_
      simp +decide only [go_sem, Nat.reduceAdd, Int.reduceToNat, encT, encRR, mdOK, rdOK, rdId, wrOK, mkOK]
      refine WO_call rfl rfl rfl rfl rfl hg2 ?_
      simp +decide only [go_sem, Nat.reduceAdd, Int.reduceToNat, encT, encRR, wrc, splice, mdOK, rdOK, rdId, wrOK, mkOK]
      refine W_drawL ⟨false, some 1, none, []⟩ hmx (by kernel_rfl) ?_
      simp +decide only [go_sem, Nat.reduceAdd, Int.reduceToNat, encT, encRR, wrc, splice, mdOK, rdOK, rdId, wrOK, mkOK]
      refine WO_call rfl rfl rfl rfl rfl hg3 ?_
      simp +decide only [go_sem, Nat.reduceAdd, Int.reduceToNat, encT, encRR, wrc, splice, mdOK, rdOK, rdId, wrOK, mkOK]
      refine WO_call rfl rfl rfl rfl rfl hfr ?_
      simp +decide only [go_sem, Nat.reduceAdd, Int.reduceToNat, encT, encRR, wrc, splice, mdOK, rdOK, rdId, wrOK, mkOK]
      exact ⟨_, rfl, rfl, rfl⟩
  | nil =>
    simp +decide only [go_sem, Nat.reduceAdd, encT]
    obtain ⟨nd, hnde⟩ : ∃ nd : Nat, nodeOf t p = nd := ⟨(nodeOf t p).toNat, by omega⟩
    by_cases h3 : 3 ≤ far
    · have hx : stealOf t a R H s p far = rowOfS t R H p := by unfold stealOf; rw [hT, if_pos rfl, hv]; simp only [if_pos h3]
      rw [hx]
      unfold rowOfS
      rw [hnde] at n1 ⊢
      rw [Int.toNat_natCast]
      refine W_ind (fun m st => ∃ k : Nat, k + m = H.length ∧ 1 ≤ k ∧ FrIs 140 [(2, I far), (3, .ptr 0 0), (6, .ptr 1 0), (9, I nd), (17, I k)] st.fr ∧ st.S = [.var false [encT t, I a, .sl .no (R.map encG), .sl .no (H.map L), U s], .var false [.sl .nil [], I 0, .sl .nil [], .sl .nil [], U 0]] ∧ st.T = [] ∧ scanRow H nd (H.length - 1) 1 = scanRow H nd m k) ?_ (n := H.length - 1) ⟨1, by omega, Nat.le_refl 1, ⟨rfl, rfl, rfl, rfl, by rw [← hnde]; rfl, rfl, trivial⟩, rfl, rfl, rfl⟩
      rintro m ⟨L', S, T⟩ ih ⟨k, hk, hk1, hF, rfl, rfl, hsc⟩
      obtain ⟨j, rfl⟩ := hF.ex
      have hw := wrap_nat k (by omega)
      simp +decide only [fr, jl, Nat.reduceAdd, go_sem]
      cases h : decide ((k : Int) < (H.length : Int))
      · have hm0 : m = 0 := by simp at h; omega
        subst hm0
        simp +decide only [go_sem, Nat.reduceAdd, h, wrc, splice, encT]
        exact ⟨_, rfl, rfl, by rw [hsc]; rfl⟩
      · have hlt : k < H.length := by simpa using h
        obtain ⟨m, rfl⟩ : ∃ x, m = x + 1 := ⟨m - 1, by omega⟩
        have hw2 : IntKind.i64.wrap ((nd : Int) + (k : Int)) = ((nd + k : Nat) : Int) := wrap64_of (by omega)
        have hmd : Int.tmod ((nd + k : Nat) : Int) (H.length : Int) = (((nd + k) % H.length : Nat) : Int) := rfl
        have hx0 : (nd + k) % H.length < H.length := Nat.mod_lt _ (by omega)
        have hz0 : ¬ (H.length : Int) = 0 := by omega
        rw [scanRow] at hsc
        generalize (nd + k) % H.length = x at *
        have ex := hrow_at hx0
        simp +decide only [go_sem, Nat.reduceAdd, h, h3, hw2, hz0, hmd, ex]
        cases hz : hrow H (x : Int) with
        | nil =>
          rw [hz] at hsc
          refine Wif_of (fun h => absurd h (by decide)) (fun _ => ?_)
          simp +decide only [go_sem, hw]
          exact ih m _ (by omega) ⟨k + 1, by omega, by omega, ⟨rfl, rfl, rfl, rfl, rfl, rfl, trivial⟩, rfl, rfl, hsc⟩
        | cons g l =>
          clear ih
          rw [hz, if_neg (by simp)] at hsc
          have hb0 : (0 : Int) < ((g :: l).length : Int) := by rw [List.length_cons]; omega
          have hb1 : (1 : Int) ≤ ((g :: l).length : Int) := by rw [List.length_cons]; omega
          have hu : uni 1 (List.map I (g :: l)) = true := uniI _
          have htk : List.take l.length (List.map I l) = List.map I l := List.take_of_length_le (by simp)
          have hg3 := rowed_g (X := XN) lowN t a R H s (x : Int) l (by omega) (by omega) (by omega)
          have ex2 : H[x]? = some (g :: l) := by rw [ex, hz]
          simp only [List.map_cons, List.length_cons] at hu hb1 hb0
          simp +decide only [List.length_cons, hb0, go_sem, Nat.reduceAdd, encT]
          refine W_drawL ⟨false, some 1, none, []⟩ hmx (by kernel_rfl) ?_
          simp +decide only [go_sem, Nat.reduceAdd, Int.reduceToNat, encT, encRR, wrc, splice, mdOK, rdOK, rdId, wrOK, mkOK, ex2, slA, hb1, hu, htk]
          refine WO_call rfl rfl rfl rfl rfl hg3 ?_
          simp +decide only [go_sem, Nat.reduceAdd, Int.reduceToNat, encT, encRR, wrc, splice, mdOK, rdOK, rdId, wrOK, mkOK, ex2]
          exact ⟨_, rfl, rfl, by rw [hsc]; simp only [hz]; rfl⟩
    · have hx : stealOf t a R H s p far = ⟨R, H, 0, -1⟩ := by unfold stealOf; rw [hT, if_pos rfl, hv]; simp only [if_neg h3]
      rw [hx]
      cases h1 : decide ((1 : Int) < (H.length : Int))
      · refine W_unroll ?_
        simp +decide only [go_sem, Nat.reduceAdd, h1, h3, wrc, splice, encT]
        exact ⟨_, rfl, rfl, rfl⟩
      · refine W_unroll ?_
        simp +decide only [go_sem, Nat.reduceAdd, h1, h3, wrc, splice, encT]
        exact ⟨_, rfl, rfl, rfl⟩
end
end Go.Proofs.Ytplpmelpoajpdaa.Ev
namespace Go.Proofs.Ytplpmelpoajpdaa.Ev
open Go Go.Proofs
open Go.RowKit (wrap64)
set_option linter.unusedVariables false
set_option linter.unusedSimpArgs false
set_option maxRecDepth 100000
set_option maxHeartbeats 4000000
theorem gro_rring {S : Obs} {v : AV} {l : List SRr} (h : Gro P 66 S v (l.map encG)) (x : SRr) (hl : l.length ≤ 100000) (T : Toks) :
    ∃ v' S', appX P true 23 v (.sl .full [encG x]) S T = some (v', S', T) ∧ Gro P 66 S' v' ((l ++ [x]).map encG) ∧ Left 66 S S' := by
  obtain ⟨v', S', h1, h2, h3⟩ := h.go (t := 23) (T := T) (m := [encG x]) (o := .full) ty23.2.2.2.2 ty66.1 ty66.2.2.1 ty66.2.2.2.1 rfl (by simp) rfl (by simp; omega) (by simp [maxLen]; omega)
  exact ⟨v', S', h1, by simpa using h2, h3⟩
section
variable {X : Prims} (hX : Low X)
include hX
theorem real_g (t : List SVtx) (a : Int) (R : List SRr) (H : List (List Int)) (s : Int) (f : Fw R H) : Gv P X 26 [encRR t a R H s] (encRR t a R H s) := by
  refine gm_of (rw := true) (hX _ (by decide)) fun26 rfl ?_
  have hr := f.r
  have hh := f.h
  simp +decide only [Try.f26, encRR, go_sem, Nat.reduceAdd, fillA, places, splice, rwO, lit, qO, usesT, appsT, isT, Nat.reduceBEq, stf, List.any_cons, List.any_nil, Option.isSome_some, wrc]
  refine W_ind (fun k st => ∃ (i : Nat) (v : AV), i + k = R.length ∧ FrIs 40 [(1, .ptr 0 0), (2, .ptr 1 0), (3, .ptr 2 0), (4, I i)] st.fr ∧ st.S[0]? = some (.var false [encT t, I a, .sl .no (R.map encG), .sl .no (H.map L), U s]) ∧ st.S[1]? = some (.var false [.sl .nil [], I 0, .sl .nil [], .sl .nil [], U 0]) ∧ st.S[2]? = some (.var false [encT t, I a, v, .sl .no (H.map L), U s]) ∧ Gro P 66 st.S v ((R.take i).map encG)) ?_ (n := R.length) ⟨0, .sl .nil [], by omega, ⟨rfl, rfl, rfl, rfl, rfl, trivial⟩, rfl, rfl, rfl, .nil⟩
  rintro k ⟨L', S, T⟩ ih ⟨i, v, hi, hF, hS0, hS1, hS2, hA⟩
  obtain ⟨j, rfl⟩ := hF.ex
  have hw := wrap_nat i (by omega)
  have hv := hA.one
  simp only [one, t0, t1, AV.cells, nt] at hv
  simp +decide only [fr, jl, Nat.reduceAdd, go_sem, hS0]
  refine Wif_of (fun h => ?_) (fun h => ?_)
  · have hlt : i < R.length := by simpa using h
    obtain ⟨x, hx, hm⟩ := getE hlt
    simp +decide only [go_sem]
    refine W_drawM true hmx (by kernel_rfl) ?_
    obtain ⟨v', S1, happ, hA', hL⟩ := gro_rring hA x (by simp; omega) T
    have hv' := hA'.one
    have hS20 := hL.var hS0
    have hS21 := hL.var hS1
    have hS22 := hL.var hS2
    simp only [one, t0, t1, AV.cells, nt] at hv'
    change appX P true _ _ (.sl .full [.agg [I x.f0, L x.f1]]) S _ = _ at happ
    simp +decide only [go_sem, Nat.reduceAdd, hS0, hS2, hx, encG, happ, fillA, places, splice, rwO, lit, qO, usesT, appsT, isT, Nat.reduceBEq, stf, List.any_cons, List.any_nil, Option.isSome_some, Bool.true_and, Bool.and_true, Bool.false_or, Bool.or_false, Bool.true_or, Bool.or_true, Bool.not_true, Bool.not_false, hv.1, hv.2.1, hv.2.2.1, hv.2.2.2.1, hv.2.2.2.2, hv'.1, hv'.2.1, hv'.2.2.1, hv'.2.2.2.1, hv'.2.2.2.2, hS22, hw]
    refine ih (k - 1) _ (by omega) ⟨i + 1, v', by omega, ⟨rfl, rfl, rfl, rfl, rfl, trivial⟩, ?_, ?_, ?_, ?_⟩
    · rw [List.getElem?_set_ne (by decide)]; exact hS20
    · rw [List.getElem?_set_ne (by decide)]; exact hS21
    · exact List.getElem?_set_self (List.getElem?_eq_some_iff.mp hS22).1
    · rw [take_snoc hx]; exact hA'.set hS22
  · have hi' : i = R.length := by simp at h; omega
    subst hi'
    rw [List.take_length] at hA
    clear ih
    obtain ⟨o1, z1⟩ := (hA.set (d' := false) (cs' := [encT t, I a, v, .sl .no (H.map L), U s]) hS1).fz
    have hset : (S.set 1 (.var false [encT t, I a, v, .sl .no (H.map L), U s]))[1]? = some (.var false [encT t, I a, v, .sl .no (H.map L), U s]) := List.getElem?_set_self (List.getElem?_eq_some_iff.mp hS1).1
    simp +decide only [go_sem, Nat.reduceAdd, hS1, hS2, hv.1, hv.2.1, hv.2.2.2.2, splice, rwO, lit, qO, encT]
    simp only [encT] at hset z1
    simp +decide only [go_sem, hset]
    refine ⟨_, rfl, ?_, ?_⟩
    · show [.sl .no (t.map encV), I a, fz0 _ 0 v, .sl .no (H.map L), U s].all d1 = true
      rw [z1]; rfl
    · show AV.agg (List.map s1 [.sl .no (t.map encV), I a, fz0 _ 0 v, .sl .no (H.map L), U s]) = _
      rw [z1]; rfl
end
def T5s : List SVtx := [⟨-1, 0⟩, ⟨0, 1⟩, ⟨1, 2⟩, ⟨2, 3⟩, ⟨2, 3⟩]
theorem steal5 : (stealOf T5s 4 [⟨0, []⟩, ⟨0, [1, 2, 3]⟩] [[]] 3 0 1).R = [⟨0, [2]⟩, ⟨0, [3]⟩] ∧ (stealOf T5s 4 [⟨0, []⟩, ⟨0, [1, 2, 3]⟩] [[]] 3 0 1).g = 1 ∧ (stealOf T5s 4 [⟨0, []⟩, ⟨0, [1, 2, 3]⟩] [[]] 3 0 1).d = 1 := by decide +kernel
theorem shown17_g : Gv P XN 21 [] (B true) := by
  refine gv_of (lowN _ (by decide)) fun21 rfl ?_
  have hst := steal_g T5s 4 [⟨0, []⟩, ⟨0, [1, 2, 3]⟩] [[]] 3 0 1 (by decide) ⟨by decide, by decide⟩ ⟨by decide, by decide, by decide, by decide⟩
  unfold encSto at hst
  rw [steal5.1, steal5.2.1, steal5.2.2] at hst
  have i1 := ints_g lowN [2] [2] (by decide)
  have i2 := ints_g lowN [3] [3] (by decide)
  rw [decide_eq_true rfl] at i1 i2
  simp +decide only [Try.f21, go_sem, fillA, places, splice, Nat.reduceAdd]
  refine WO_call rfl rfl rfl rfl rfl hst ?_
  simp +decide only [go_sem, Nat.reduceAdd, encRR, wrc, splice, Int.reduceToNat, encG]
  refine WO_call rfl rfl rfl rfl rfl i1 ?_
  simp +decide only [go_sem, Nat.reduceAdd, encRR, wrc, splice, Int.reduceToNat, encG]
  refine WO_call rfl rfl rfl rfl rfl i2 ?_
  simp +decide only [go_sem, Nat.reduceAdd]
  exact ⟨_, rfl, rfl, rfl⟩
end Go.Proofs.Ytplpmelpoajpdaa.Ev
namespace Go.Proofs.Ytplpmelpoajpdaa.Ev
open Go Go.Proofs
set_option linter.unusedVariables false
set_option linter.unusedSimpArgs false
set_option maxRecDepth 100000
theorem filt_pre {α : Type} {g : α → Int} {v : α → Bool} {c c' : Int} (hc : c ≤ c') : ∀ {l : List α}, l.Pairwise (fun a b => g a ≤ g b) → (l.filter fun x => v x && decide (g x ≤ c)) <+: l.filter fun x => v x && decide (g x ≤ c')
  | [], _ => List.prefix_rfl
  | a :: l, hp => by
    rw [List.pairwise_cons] at hp
    have ih := filt_pre (v := v) hc hp.2
    cases hv : v a with
    | false => simp only [List.filter_cons, hv, Bool.false_and, Bool.false_eq_true, if_false]; exact ih
    | true =>
      by_cases h1 : g a ≤ c
      · have h2 : g a ≤ c' := by omega
        simp only [List.filter_cons, hv, Bool.true_and, decide_eq_true h1, decide_eq_true h2, if_true]
        exact (List.prefix_cons_inj a).mpr ih
      · have he : (l.filter fun x => v x && decide (g x ≤ c)) = [] := List.filter_eq_nil_iff.mpr fun x hx => by
          have := hp.1 x hx
          have h3 : ¬ g x ≤ c := by omega
          rw [decide_eq_false h3]; simp
        simp only [List.filter_cons, hv, Bool.true_and, decide_eq_false h1, Bool.false_eq_true, if_false, he]
        exact List.nil_prefix
section
variable {t : List SVtx} {a : Int} {R : List SRr} {H : List (List Int)} {s p : Int}
theorem vict_pre {far far' : Int} (hm : May t a R H s) (hp : inP t p) (h : far ≤ far') : victOf t a R H s p far <+: victOf t a R H s p far' := by
  unfold victOf
  rw [if_pos (may_iff.mpr hm), if_pos (may_iff.mpr hm)]
  exact filt_pre (v := fun q => decide (0 < (rAll (rg R q)).length)) h ((nearOf_sorted hp).imp fun h => by
    rcases h with h | h
    · exact Int.le_of_lt h
    · exact Int.le_of_eq h.1)
/-! The rows that are asked. -/
theorem scan_some {H : List (List Int)} {own x : Nat} : ∀ {m k : Nat}, scanRow H own m k = some x → hrow H (x : Int) ≠ [] ∧ ∃ j, k ≤ j ∧ j < k + m ∧ x = (own + j) % H.length
  | 0, k, h => by cases h
  | m + 1, k, h => by
    rw [scanRow] at h
    split at h
    · obtain ⟨h1, j, h2, h3, h4⟩ := scan_some h
      exact ⟨h1, j, by omega, by omega, h4⟩
    · rename_i hne
      cases h
      exact ⟨fun e => hne (by rw [e]; rfl), k, Nat.le_refl _, by omega, rfl⟩
theorem scan_none {H : List (List Int)} {own : Nat} : ∀ {m k : Nat}, scanRow H own m k = none → ∀ j, k ≤ j → j < k + m → hrow H (((own + j) % H.length : Nat) : Int) = []
  | 0, k, h, j, h1, h2 => by omega
  | m + 1, k, h, j, h1, h2 => by
    rw [scanRow] at h
    split at h
    · rename_i he
      by_cases hj : j = k
      · subst hj; exact List.eq_nil_of_length_eq_zero he
      · exact scan_none h j (by omega) (by omega)
    · cases h
/-! Who stands where, counted. -/
theorem count_set {α : Type} {f : α → List Int} {z : Int} : ∀ {l : List α} {i : Nat} {y : α}, l[i]? = some y → ∀ x, ((l.set i x).flatMap f).count z + (f y).count z = (l.flatMap f).count z + (f x).count z
  | [], i, y, h, x => by simp at h
  | a :: l, 0, y, h, x => by
    simp at h; subst h
    simp only [List.set_cons_zero, List.flatMap_cons, List.count_append]; omega
  | a :: l, i + 1, y, h, x => by
    have := count_set (f := f) (z := z) (l := l) (i := i) (y := y) (by simpa using h) x
    simp only [List.set_cons_succ, List.flatMap_cons, List.count_append]; omega
theorem count_setH {z : Int} {H : List (List Int)} {i : Nat} {y : List Int} (h : H[i]? = some y) (x : List Int) : ((H.set i x).flatten).count z + y.count z = H.flatten.count z + x.count z := by
  have := count_set (f := fun l : List Int => l) (z := z) h x
  simpa [List.flatMap_id'] using this
theorem half_count {x : SRr} (z : Int) : (rAll (halfR x).1).count z + (halfR x).2.count z = (rAll x).count z := by
  obtain ⟨n, l⟩ := x
  unfold halfR rAll ringAll
  by_cases hl : l = []
  · subst hl
    by_cases hn : n = 0
    · simp [hn]
    · simp [hn]
  · have e : l.count z = (l.drop ((l.length + 1) / 2)).count z + (l.take ((l.length + 1) / 2)).count z := by
      rw [Nat.add_comm, ← List.count_append, List.take_append_drop]
    rw [if_neg hl]
    by_cases hn : n = 0
    · simp only [hn, if_true]; omega
    · simp only [if_neg hn, List.count_cons]; omega
theorem rg_set {i : Nat} {x : SRr} (h : i < R.length) (j : Nat) : rg (R.set i x) (j : Int) = if i = j then x else rg R (j : Int) := by
  unfold rg
  rw [List.getD_eq_getElem?_getD, List.getD_eq_getElem?_getD, Int.toNat_natCast, List.getElem?_set]
  split
  · rename_i e; subst e; rfl
  · rfl
/-- What stays when somebody is taken. -/
structure Stays (t : List SVtx) (a : Int) (R : List SRr) (H : List (List Int)) (s : Int) (x : Sto) : Prop where
  g : x.g ≠ 0
  perm : (x.g :: allR x.R x.H).Perm (allR R H)
  rl : x.R.length = R.length
  hl : x.H.length = H.length
  len : ∀ j : Nat, j < R.length → ((rg x.R j).f1.length : Int) ≤ a
  off : ∀ j : Nat, j < R.length → tb s j = false → rAll (rg x.R j) = []
theorem Stays.may {x : Sto} (hm : May t a R H s) (h : Stays t a R H s x) : May t a x.R x.H s := by
  have hnd := h.perm.symm.nodup hm.nd
  rw [List.nodup_cons] at hnd
  refine ⟨hm.v, hm.a2, hm.a16, by rw [h.rl]; exact hm.r, by rw [h.hl]; exact hm.h, hm.s0, fun m hs => by rw [h.rl]; exact hm.on m hs, fun j hj => h.len j (by rw [← h.rl]; exact hj), fun j hj ho => h.off j (by rw [← h.rl]; exact hj) ho, fun y hy => hm.pos y (h.perm.mem_iff.mp (List.mem_cons_of_mem _ hy)), hnd.2⟩
theorem take_stays {q : Int} (th : Thief t a R H s p) (hq : inP t q) (hqp : q ≠ p) (hqe : rAll (rg R q) ≠ []) : Stays t a R H s (takeOf t a R H p q) := by
  have hm := th.m
  have hp := th.p
  obtain ⟨p0, ep, mp, n0, en, mn⟩ := inP_at hm hp
  obtain ⟨q0, eq, mq, _, _, _⟩ := inP_at hm hq
  have p1 := (hm.inP.mp hp).2
  have q1 := (hm.inP.mp hq).2
  have hb := halfR_ne hqe
  have hbl := halfR_len (x := rg R q)
  have hcnt := fun z => half_count (x := rg R q) z
  have hqpn : q.toNat ≠ p.toNat := by omega
  have hon : ∀ j : Nat, (j : Int) = q → tb s (j : Int) = true := fun j e => by
    cases ho : tb s (j : Int) with
    | true => rfl
    | false =>
      have := hm.off j (by omega) ho
      rw [e] at this; exact absurd this hqe
  have hlq := hm.len q.toNat (by omega)
  rw [show ((q.toNat : Nat) : Int) = q by omega] at hlq
  unfold takeOf
  generalize hyx : halfR (rg R q) = y at *
  obtain ⟨x', b⟩ := y
  simp only at hb hbl hcnt ⊢
  obtain ⟨g, o, rfl⟩ := List.exists_cons_of_ne_nil hb
  rw [List.tail_cons, List.headD_cons]
  have ep1 : (R.set q.toNat x')[p.toNat]? = some (rg R p) := by rw [List.getElem?_set_ne hqpn]; exact ep
  have hperm : (g :: allR ((R.set q.toNat x').set p.toNat ⟨0, o.take a.toNat⟩) (H.set (nodeOf t p).toNat (hrow H (nodeOf t p) ++ o.drop a.toNat))).Perm (allR R H) := by
    refine List.perm_iff_count.mpr fun z => ?_
    have c1 := count_set (f := rAll) (z := z) eq x'
    have c2 := count_set (f := rAll) (z := z) ep1 ⟨0, o.take a.toNat⟩
    have c3 := count_setH (z := z) en (hrow H (nodeOf t p) ++ o.drop a.toNat)
    have c4 := hcnt z
    have c5 : (o.take a.toNat).count z + (o.drop a.toNat).count z = o.count z := by rw [← List.count_append, List.take_append_drop]
    have e6 : rAll ⟨0, o.take a.toNat⟩ = o.take a.toNat := rfl
    rw [th.e, e6, List.count_nil] at c2
    rw [List.count_append] at c3
    simp only [allR, List.count_cons, List.count_append] at c4 ⊢
    omega
  have hg : g ∈ allR R H := hperm.mem_iff.mp List.mem_cons_self
  have hg1 := hm.pos g hg
  have hrg : ∀ j : Nat, j < R.length → rg ((R.set q.toNat x').set p.toNat ⟨0, o.take a.toNat⟩) (j : Int) = if p.toNat = j then ⟨0, o.take a.toNat⟩ else if q.toNat = j then x' else rg R (j : Int) := fun j hj => by
    rw [rg_set (by simp; omega), rg_set (by omega)]
  have ha := hm.a2
  refine ⟨by simp only; omega, hperm, by simp, by simp, fun j hj => ?_, fun j hj ho => ?_⟩
  · simp only
    rw [hrg j hj]
    split
    · simp; omega
    · split
      · have := hbl.2; omega
      · exact hm.len j hj
  · simp only
    rw [hrg j hj]
    split
    · rename_i e
      have : (j : Int) = p := by omega
      rw [this, th.on] at ho; cases ho
    · split
      · rename_i e
        rw [hon j (by omega)] at ho; cases ho
      · exact hm.off j hj ho
theorem row_stays {m : Nat} (th : Thief t a R H s p) (hml : m < H.length) (hne : hrow H (m : Int) ≠ []) : Stays t a R H s ⟨R, H.set m (hrow H m).tail, (hrow H m).headD 0, 3⟩ := by
  have hm := th.m
  have em := hrow_at hml
  obtain ⟨g, l, hgl⟩ := List.exists_cons_of_ne_nil hne
  rw [hgl] at em ⊢
  rw [List.tail_cons, List.headD_cons]
  have hperm : (g :: allR R (H.set m l)).Perm (allR R H) := by
    refine List.perm_iff_count.mpr fun z => ?_
    have c3 := count_setH (z := z) em l
    simp only [allR, List.count_cons, List.count_append] at c3 ⊢
    omega
  have hg1 := hm.pos g (hperm.mem_iff.mp List.mem_cons_self)
  exact ⟨by simp only; omega, hperm, rfl, by simp, hm.len, hm.off⟩
/-- What is told of a thief. -/
theorem steal_cases (far : Int) (th : Thief t a R H s p) :
    (∃ q l, victOf t a R H s p far = q :: l ∧ stealOf t a R H s p far = takeOf t a R H p q) ∨
    (victOf t a R H s p far = [] ∧ 3 ≤ far ∧ ∃ m, m < H.length ∧ hrow H (m : Int) ≠ [] ∧ stealOf t a R H s p far = ⟨R, H.set m (hrow H m).tail, (hrow H m).headD 0, 3⟩) ∨
    (victOf t a R H s p far = [] ∧ stealOf t a R H s p far = ⟨R, H, 0, -1⟩ ∧ (3 ≤ far → H.flatten = [])) := by
  unfold stealOf
  rw [if_pos (thief_iff.mpr th)]
  have hn := node_at th.p
  rw [← th.m.h] at hn
  cases hv : victOf t a R H s p far with
  | cons q l => exact .inl ⟨q, l, rfl, rfl⟩
  | nil =>
    by_cases h3 : 3 ≤ far
    · simp only [if_pos h3]
      unfold rowOfS
      cases hs : scanRow H (nodeOf t p).toNat (H.length - 1) 1 with
      | some m =>
        obtain ⟨h1, j, h2, h4, rfl⟩ := scan_some hs
        exact .inr (.inl ⟨trivial, h3, _, Nat.mod_lt _ (by omega), h1, rfl⟩)
      | none =>
        refine .inr (.inr ⟨trivial, rfl, fun _ => ?_⟩)
        refine List.flatten_eq_nil_iff.mpr fun l hl => ?_
        obtain ⟨i, hi, rfl⟩ := List.getElem_of_mem hl
        have e1 : hrow H (i : Int) = H[i] := by simp [hrow, hi]
        rw [← e1]
        by_cases hin : i = (nodeOf t p).toNat
        · rw [hin, show (((nodeOf t p).toNat : Nat) : Int) = nodeOf t p by omega]; exact th.n
        · have hsn := scan_none hs
          generalize hnd : (nodeOf t p).toNat = nd at *
          have hndl : nd < H.length := by omega
          by_cases hlt : nd < i
          · have := hsn (i - nd) (by omega) (by omega)
            rwa [show (nd + (i - nd)) % H.length = i by rw [Nat.add_sub_cancel' (by omega)]; exact Nat.mod_eq_of_lt hi] at this
          · have := hsn (H.length + i - nd) (by omega) (by omega)
            rwa [show (nd + (H.length + i - nd)) % H.length = i by rw [show nd + (H.length + i - nd) = i + H.length by omega, Nat.add_mod_right]; exact Nat.mod_eq_of_lt hi] at this
    · simp only [if_neg h3]
      exact .inr (.inr ⟨trivial, trivial, fun h => absurd h h3⟩)
/-- As far as all, a thief finds somebody just if somebody stands anywhere. -/
theorem steal_some (th : Thief t a R H s p) : (stealOf t a R H s p 3).g ≠ 0 ↔ allR R H ≠ [] := by
  have hm := th.m
  have hp := th.p
  rcases steal_cases 3 th with ⟨q, l, hv, hs⟩ | ⟨hv, _, m, hml, hne, hs⟩ | ⟨hv, hs, h3⟩
  · have hq := (vict_mem (q := q) (far := 3) hm hp).mp (by rw [hv]; simp)
    have st := take_stays th hq.1 hq.2.1 hq.2.2.1
    rw [hs]
    refine ⟨fun _ e => ?_, fun _ => st.g⟩
    have := st.perm.length_eq
    rw [e] at this; simp at this
  · have st := row_stays th hml hne
    rw [hs]
    refine ⟨fun _ e => ?_, fun _ => st.g⟩
    have := st.perm.length_eq
    rw [e] at this; simp at this
  · rw [hs]
    refine ⟨fun h => absurd rfl h, fun h => absurd ?_ h⟩
    unfold allR
    rw [h3 (Int.le_refl 3), List.append_nil, List.flatMap_eq_nil_iff]
    intro x hx
    obtain ⟨i, hi, rfl⟩ := List.getElem_of_mem hx
    have e1 : rg R (i : Int) = R[i] := by simp [rg, hi]
    rw [← e1]
    by_cases hip : (i : Int) = p
    · rw [hip]; exact th.e
    · cases hr : rAll (rg R (i : Int)) with
      | nil => rfl
      | cons g l =>
        have hqi : inP t (i : Int) := hm.inP.mpr ⟨by omega, by omega⟩
        have : (i : Int) ∈ victOf t a R H s p 3 := (vict_mem hm hp).mpr ⟨hqi, hip, by rw [hr]; simp, farOf_le⟩
        rw [hv] at this; cases this
end
end Go.Proofs.Ytplpmelpoajpdaa.Ev
namespace Go.Proofs.Ytplpmelpoajpdaa.Ev
open Go Go.Proofs
set_option linter.unusedVariables false
/-- Runs, as one. -/
structure SRN where
  t : List SVtx
  a : Int
  R : List SRr
  H : List (List Int)
  s : Int
def encN (r : SRN) : AV := encRR r.t r.a r.R r.H r.s
theorem u64_of {x : Int} (h : IntKind.u64.min ≤ x ∧ x ≤ IntKind.u64.max) : U64 x := by
  have h1 : IntKind.u64.min = 0 := rfl
  have h2 : IntKind.u64.max = 18446744073709551615 := by decide
  rw [h1, h2] at h
  exact ⟨by omega, by omega⟩
end Go.Proofs.Ytplpmelpoajpdaa.Ev
namespace Go.Proofs.Ytplpmelpoajpdaa.Ev
open Go Go.Proofs
open Go.RowKit (wrap64)
set_option linter.unusedVariables false
set_option linter.unusedSimpArgs false
set_option maxRecDepth 100000
set_option maxHeartbeats 4000000
theorem beq_no {a b : Int} (h : a ≠ b) : (a == b) = false := by simpa using h
theorem bne_no {a b : Int} (h : a = b) : (a != b) = false := by simpa using h
theorem beq_yes {a b : Int} (h : a = b) : (a == b) = true := by simpa using h
theorem stealHalf_g (r : SRN) (hs : U64 r.s) (p : Int) {wp : Prop} (_ : wp) : Gv P XN 8 [encN r, I p] (B true) := by
  obtain ⟨t, a, R, H, s⟩ := r
  have hs : U64 s := hs
  refine gv_of (lowN _ (by decide)) fun8 rfl ?_
  have hfew := few_g lowN t a R H s
  simp +decide only [Try.f8, encN, encRR, go_sem, Nat.reduceAdd]
  refine WO_call rfl rfl rfl rfl rfl shown17_g ?_
  simp +decide only [go_sem, Nat.reduceAdd]
  refine WO_call rfl rfl rfl rfl rfl hfew ?_
  cases hF : fewB t R H
  · simp +decide only [go_sem, Nat.reduceAdd]
    refine WO_not rfl ?_
    simp +decide only [go_sem, Nat.reduceAdd]
    exact ⟨_, rfl, rfl, rfl⟩
  obtain ⟨ht, f1, f2, f3, f4⟩ := fewB_of hF
  have f : Fw R H := ⟨by omega, by omega, fun x hx => by have := f3 x hx; omega, fun x hx => by have := f4 x hx; omega⟩
  simp +decide only [go_sem, Nat.reduceAdd]
  refine WO_call rfl rfl rfl rfl rfl (thief_g lowN t a R H s p ht hs f) ?_
  cases hT : thiefB t a R H s p
  · simp +decide only [go_sem, Nat.reduceAdd]
    exact ⟨_, rfl, rfl, rfl⟩
  have th := thief_iff.mp hT
  have hm := th.m
  have hp := th.p
  have hr := f.r
  simp +decide only [go_sem, Nat.reduceAdd]
  refine WO_call rfl rfl rfl rfl rfl (made17_g lowN t a R H s f) ?_
  simp +decide only [go_sem, Nat.reduceAdd, encRR, wrc, splice, encT]
  refine WO_call rfl rfl rfl rfl rfl (vict_g t a R H s p 3 ht hs f) ?_
  have hst := steal_g t a R H s p 3 ht hs f
  rcases steal_cases 3 th with ⟨q, l, hv, hx⟩ | ⟨hv, -⟩ | ⟨hv, -⟩
  case inr.inl =>
    rw [hv]
    simp +decide only [go_sem, Nat.reduceAdd]
    refine Wif_of (fun _ => ?_) (fun h => absurd h (by decide))
    simp +decide only [go_sem, Nat.reduceAdd]
    exact ⟨_, rfl, rfl, rfl⟩
  case inr.inr =>
    rw [hv]
    simp +decide only [go_sem, Nat.reduceAdd]
    refine Wif_of (fun _ => ?_) (fun h => absurd h (by decide))
    simp +decide only [go_sem, Nat.reduceAdd]
    exact ⟨_, rfl, rfl, rfl⟩
  case inl =>
    have hq := (vict_mem (q := q) (far := 3) hm hp).mp (by rw [hv]; simp)
    have sty := take_stays th hq.1 hq.2.1 hq.2.2.1
    have q0 := (hm.inP.mp hq.1).1
    have q1 := (hm.inP.mp hq.1).2
    have p0 := (hm.inP.mp hp).1
    have p1 := (hm.inP.mp hp).2
    have eq : R[q.toNat]? = some (rg R q) := by simp [rg, show q.toNat < R.length by omega]
    have lq := f.rl _ (List.mem_of_getElem? eq)
    rw [hx] at hst
    unfold encSto at hst
    have hy1 : (takeOf t a R H p q).R[q.toNat]? = some (halfR (rg R q)).1 := by
      unfold takeOf
      rw [List.getElem?_set_ne (by omega), List.getElem?_set_self (by omega)]
    have hy2 : (takeOf t a R H p q).R[p.toNat]? = some ⟨0, (halfR (rg R q)).2.tail.take a.toNat⟩ := by
      unfold takeOf
      rw [List.getElem?_set_self (by simp; omega)]
    have hg : (takeOf t a R H p q).g = (halfR (rg R q)).2.headD 0 := rfl
    have hgz := sty.g
    have hrl := sty.rl
    rw [hv]
    have c1 : (((q :: l).length : Int) == 0) = false := beq_no (by rw [List.length_cons]; omega)
    simp only [List.length_cons] at c1
    have c2 : ¬ q < 0 := by omega
    have c3 : ¬ (R.length : Int) ≤ q := by omega
    have c4 : (q == p) = false := beq_no hq.2.1
    simp +decide only [go_sem, Nat.reduceAdd, List.map_cons, List.length_cons, List.length_map, c1, c2, c3, c4, Int.reduceToNat, encT]
    refine WO_call rfl rfl rfl rfl rfl hst ?_
    generalize takeOf t a R H p q = y at *
    have c5 : (y.g == 0) = false := beq_no hgz
    have c6 : ((y.R.length : Int) != (R.length : Int)) = false := bne_no (by rw [hrl])
    simp +decide only [go_sem, Nat.reduceAdd, encRR, wrc, splice, encT, c5, c6, q0, eq, encG]
    unfold halfR at hy1 hy2 hg
    have hqe := hq.2.2.1
    unfold rAll ringAll at hqe
    by_cases hl : (rg R q).f1 = []
    · rw [if_pos hl] at hy1 hy2 hg
      rw [hl] at hqe
      have hn : ¬ (rg R q).f0 = 0 := fun e => by rw [if_pos e] at hqe; exact hqe rfl
      rw [if_neg hn] at hg
      have c7 : (y.g == (rg R q).f0) = true := beq_yes hg
      simp only [hl]
      refine Wif_of (fun _ => ?_) (fun h => absurd h (by decide))
      have hra := ring_all_g (X := XN) lowN 0 [] (by decide)
      simp +decide only [go_sem, Nat.reduceAdd, q0, eq, c7, hy1, encG]
      refine WO_call rfl rfl rfl rfl rfl hra ?_
      simp +decide only [go_sem, Nat.reduceAdd, ringAll]
      exact ⟨_, rfl, rfl, rfl⟩
    · rw [if_neg hl] at hy1 hy2 hg
      obtain ⟨g, o, hgo⟩ := List.exists_cons_of_ne_nil hl
      have hlen : 0 < (rg R q).f1.length := by rw [hgo]; simp
      have c0 : (((rg R q).f1.length : Int) == 0) = false := beq_no (by omega)
      have hgg : y.g = g := by
        rw [hg, hgo]
        obtain ⟨k, hk⟩ : ∃ k, ((g :: o).length + 1) / 2 = k + 1 := ⟨((g :: o).length + 1) / 2 - 1, by simp; omega⟩
        rw [hk]; rfl
      have ha := hm.a2
      have c7 : (y.g == g) = true := beq_yes hgg
      have e8 : ((((rg R q).f1.drop (((rg R q).f1.length + 1) / 2)).length : Nat) : Int) = (((rg R q).f1.length / 2 : Nat) : Int) := by simp; omega
      have w2 : IntKind.i64.wrap (((rg R q).f1.length : Int).tdiv 2) = (((rg R q).f1.length / 2 : Nat) : Int) := by rw [show ((rg R q).f1.length : Int).tdiv 2 = (((rg R q).f1.length / 2 : Nat) : Int) from rfl]; exact wrap64_of (by omega)
      have c8 : (((((rg R q).f1.drop (((rg R q).f1.length + 1) / 2)).length : Nat) : Int) == (((rg R q).f1.length / 2 : Nat) : Int)) = true := beq_yes e8
      have c9 : ((((((rg R q).f1.take (((rg R q).f1.length + 1) / 2)).tail.take a.toNat).length : Nat) : Int) ≤ a) := by simp; omega
      have hel : (rg R q).f1[0]? = some g := by rw [hgo]; rfl
      have n2 : ¬ (2 : Int) = 0 := by decide
      have c10 : ((rg R q).f0 == (rg R q).f0) = true := beq_yes rfl
      simp +decide only [c0, go_sem, Nat.reduceAdd]
      refine W_draw hmx (by kernel_rfl) ?_
      simp +decide only [go_sem, Nat.reduceAdd, q0, p0, eq, hel, c7, hy1, hy2, encG, Int.reduceToNat, w2, n2, c8, c9, c10]
      exact ⟨_, rfl, rfl, rfl⟩
end Go.Proofs.Ytplpmelpoajpdaa.Ev
namespace Go.Proofs.Ytplpmelpoajpdaa.Ev
open Go Go.Proofs
open Go.RowKit (wrap64)
set_option linter.unusedVariables false
set_option linter.unusedSimpArgs false
set_option maxRecDepth 100000
set_option maxHeartbeats 4000000
section
variable {X : Prims} (hX : Low X)
include hX
theorem idx_rings_g (l : List (SRr)) (hl : l.length ≤ 1000000) (g : FuncId) (cap : List AV) (S : Obs) (p : (SRr) → Bool) (hc : Cp cap) (hg : Takes P X g cap S encG p l) :
    Gs P X 65 [.sl .no (l.map encG), .fn g cap] S fun r S' => r = I (idxf p l) ∧ ∃ J, S' = S ++ J := by
  refine gs_of (rw := false) (kf := false) (hX _ (by decide)) fun65 rfl ?_
  simp +decide only [Try.f65, go_sem, Nat.reduceAdd]
  refine W_ind (fun k st => ∃ i : Nat, i + k = l.length ∧ FrIs 19 [(0, .sl .no (l.map encG)), (1, .fn g cap), (7, I l.length), (8, I i)] st.fr ∧ (∃ J, st.S = S ++ J) ∧ st.T = [] ∧ ∀ y ∈ l.take i, p y = false) ?_ (n := l.length) ⟨0, by omega, ⟨rfl, rfl, rfl, rfl, rfl, trivial⟩, ⟨[], by simp⟩, rfl, by simp⟩
  rintro k ⟨L', S', T⟩ ih ⟨i, hi, hF, ⟨J, rfl⟩, rfl, hall⟩
  obtain ⟨j, rfl⟩ := hF.ex
  have hw := wrap_nat i (by omega)
  simp +decide only [fr, jl, Nat.reduceAdd, go_sem]
  refine Wif_of (fun h => ?_) (fun h => ?_)
  · have hlt : i < l.length := by simpa using h
    obtain ⟨x, hx, hm⟩ := getE hlt
    simp +decide only [go_sem, hx, encG]
    refine WO_calls (g := g) (cap := cap) rfl rfl rfl hc.ok ?_ ?_ ?_
    · show (([encG x] ++ cap).all d2 && !X.keep g) = false
      rw [List.all_append, hc.d, Bool.and_false, Bool.false_and]
    · show ([encG x] ++ cap).all nt = true
      rw [List.all_append, hc.n]; rfl
    · show Gs P X g (List.map t2 ([encG x] ++ cap)) (S ++ J) _
      rw [List.map_append, hc.t]
      refine (hg x hm J).mono fun r S' h => ?_
      obtain ⟨rfl, J', rfl⟩ := h
      simp +decide only [go_sem]
      refine Wif_of (fun h => ?_) (fun h => ?_)
      · simp +decide only [go_sem]
        exact ⟨_, rfl, by rw [idxf_at hx h hall], J', by simp [killIds]⟩
      · simp +decide only [go_sem, hw]
        refine ih (k - 1) _ (by omega) ⟨i + 1, by omega, ⟨rfl, rfl, rfl, rfl, rfl, trivial⟩, ⟨J', rfl⟩, rfl, fun y hy => ?_⟩
        rw [take_snoc hx, List.mem_append] at hy
        rcases hy with hy | hy
        · exact hall y hy
        · rw [List.mem_singleton] at hy; subst hy; exact h
  · have hi' : i = l.length := by simp at h; omega
    subst hi'
    rw [List.take_length] at hall
    simp +decide only [go_sem]
    exact ⟨_, rfl, by rw [idxf_none hall], J, by simp [killIds]⟩
theorem idx_rows_g (l : List (List Int)) (hl : l.length ≤ 1000000) (g : FuncId) (cap : List AV) (S : Obs) (p : (List Int) → Bool) (hc : Cp cap) (hg : Takes P X g cap S L p l) :
    Gs P X 66 [.sl .no (l.map L), .fn g cap] S fun r S' => r = I (idxf p l) ∧ ∃ J, S' = S ++ J := by
  refine gs_of (rw := false) (kf := false) (hX _ (by decide)) fun66 rfl ?_
  simp +decide only [Try.f66, go_sem, Nat.reduceAdd]
  refine W_ind (fun k st => ∃ i : Nat, i + k = l.length ∧ FrIs 19 [(0, .sl .no (l.map L)), (1, .fn g cap), (7, I l.length), (8, I i)] st.fr ∧ (∃ J, st.S = S ++ J) ∧ st.T = [] ∧ ∀ y ∈ l.take i, p y = false) ?_ (n := l.length) ⟨0, by omega, ⟨rfl, rfl, rfl, rfl, rfl, trivial⟩, ⟨[], by simp⟩, rfl, by simp⟩
  rintro k ⟨L', S', T⟩ ih ⟨i, hi, hF, ⟨J, rfl⟩, rfl, hall⟩
  obtain ⟨j, rfl⟩ := hF.ex
  have hw := wrap_nat i (by omega)
  simp +decide only [fr, jl, Nat.reduceAdd, go_sem]
  refine Wif_of (fun h => ?_) (fun h => ?_)
  · have hlt : i < l.length := by simpa using h
    obtain ⟨x, hx, hm⟩ := getE hlt
    simp +decide only [go_sem, hx]
    refine WO_calls (g := g) (cap := cap) rfl rfl rfl hc.ok ?_ ?_ ?_
    · show (([L x] ++ cap).all d2 && !X.keep g) = false
      rw [List.all_append, hc.d, Bool.and_false, Bool.false_and]
    · show ([L x] ++ cap).all nt = true
      rw [List.all_append, hc.n]; rfl
    · show Gs P X g (List.map t2 ([L x] ++ cap)) (S ++ J) _
      rw [List.map_append, hc.t]
      refine (hg x hm J).mono fun r S' h => ?_
      obtain ⟨rfl, J', rfl⟩ := h
      simp +decide only [go_sem]
      refine Wif_of (fun h => ?_) (fun h => ?_)
      · simp +decide only [go_sem]
        exact ⟨_, rfl, by rw [idxf_at hx h hall], J', by simp [killIds]⟩
      · simp +decide only [go_sem, hw]
        refine ih (k - 1) _ (by omega) ⟨i + 1, by omega, ⟨rfl, rfl, rfl, rfl, rfl, trivial⟩, ⟨J', rfl⟩, rfl, fun y hy => ?_⟩
        rw [take_snoc hx, List.mem_append] at hy
        rcases hy with hy | hy
        · exact hall y hy
        · rw [List.mem_singleton] at hy; subst hy; exact h
  · have hi' : i = l.length := by simp at h; omega
    subst hi'
    rw [List.take_length] at hall
    simp +decide only [go_sem]
    exact ⟨_, rfl, by rw [idxf_none hall], J, by simp [killIds]⟩
end
def whereOf (R : List SRr) (H : List (List Int)) (g : Int) : Int × Int :=
  if 0 ≤ idxf (fun x => decide (g ∈ rAll x)) R then (idxf (fun x => decide (g ∈ rAll x)) R, -1) else (-1, idxf (fun l => decide (g ∈ l)) H)
theorem where1_g (x : SRr) (g : Int) (hx : x.f1.length ≤ 1000) (S : Obs) {j : Nat} (h : S[j]? = some (.var false [I g])) : Gs P XN 64 [encG x, .ptr j 0] S fun r S' => r = B (decide (g ∈ rAll x)) ∧ ∃ J, S' = S ++ J := by
  refine gs_of (rw := false) (kf := false) (lowN _ (by decide)) fun64 rfl ?_
  have hl := rAll_len x
  have hg : ∀ m, (S ++ m)[j]? = some (.var false [I g]) := fun m => gOld h
  simp +decide only [Try.f64, go_sem, Nat.reduceAdd, encG]
  refine W_draw hmx (by kernel_rfl) ?_
  simp +decide only [go_sem, Nat.reduceAdd, hg, gA0]
  refine WO_call rfl rfl rfl rfl rfl (ring_all_g lowN x.f0 x.f1 (by omega)) ?_
  change WO P XN _ _ _ _ _ ⟨put _ _ (L (rAll x)), _, _⟩ _
  simp +decide only [go_sem, Nat.reduceAdd, hg]
  refine WO_call rfl rfl rfl rfl rfl (contains_g lowN (rAll x) g (by omega)) ?_
  simp +decide only [go_sem, Nat.reduceAdd]
  exact ⟨_, rfl, rfl, _, by simp [killIds]; rfl⟩
theorem where2_g (l : List Int) (g : Int) (hl : l.length ≤ 1000) (S : Obs) {j : Nat} (h : S[j]? = some (.var false [I g])) : Gs P XN 67 [L l, .ptr j 0] S fun r S' => r = B (decide (g ∈ l)) ∧ ∃ J, S' = S ++ J := by
  refine gs_of (rw := false) (kf := false) (lowN _ (by decide)) fun67 rfl ?_
  simp +decide only [Try.f67, go_sem, Nat.reduceAdd, h]
  refine WO_call rfl rfl rfl rfl rfl (contains_g lowN l g (by omega)) ?_
  simp +decide only [go_sem, Nat.reduceAdd]
  exact ⟨_, rfl, rfl, [], by simp [killIds]⟩
theorem where_g (t : List SVtx) (a : Int) (R : List SRr) (H : List (List Int)) (s g : Int) (f : Fw R H) : Gv P XN 35 [encRR t a R H s, I g] (.tup [I (whereOf R H g).1, I (whereOf R H g).2]) := by
  refine gv_of (lowN _ (by decide)) fun35 rfl ?_
  have hr := f.r
  have hh := f.h
  simp +decide only [Try.f35, encRR, go_sem, Nat.reduceAdd, capOk]
  refine WO_calls (g := 65) (cap := []) rfl rfl rfl rfl rfl rfl ?_
  refine (idx_rings_g lowN R (by omega) 64 [.ptr 1 0] [.var false [encT t, I a, .sl .no (R.map encG), .sl .no (H.map L), U s], .var false [I g]] (fun x => decide (g ∈ rAll x)) Cp.ptr (fun x hx J => where1_g x g (by have := f.rl x hx; omega) _ (j := 1) rfl |>.mono fun r S' h => ⟨h.1, by obtain ⟨J', e⟩ := h.2; exact ⟨J ++ J', by rw [e, List.append_assoc]⟩⟩)).mono fun r S' h => ?_
  obtain ⟨rfl, J, rfl⟩ := h
  unfold whereOf
  by_cases h0 : 0 ≤ idxf (fun x => decide (g ∈ rAll x)) R
  · simp +decide only [go_sem, Nat.reduceAdd, h0]
    exact ⟨_, rfl, rfl, rfl⟩
  · simp +decide only [go_sem, Nat.reduceAdd, h0, capOk]
    refine WO_calls (g := 66) (cap := []) rfl rfl rfl rfl rfl rfl ?_
    refine (idx_rows_g lowN H (by omega) 67 [.ptr 1 0] (.var false [encT t, I a, .sl .no (R.map encG), .sl .no (H.map L), U s] :: .var false [I g] :: J) (fun l => decide (g ∈ l)) Cp.ptr (fun x hx J2 => where2_g x g (by have := f.hl x hx; omega) _ (j := 1) rfl |>.mono fun r S' h => ⟨h.1, by obtain ⟨J', e⟩ := h.2; exact ⟨J2 ++ J', by rw [e, List.append_assoc]⟩⟩)).mono fun r S' h => ?_
    obtain ⟨rfl, J2, rfl⟩ := h
    simp +decide only [go_sem, Nat.reduceAdd]
    exact ⟨_, rfl, rfl, rfl⟩
end Go.Proofs.Ytplpmelpoajpdaa.Ev
namespace Go.Proofs.Ytplpmelpoajpdaa.Ev
open Go Go.Proofs
open Go.RowKit (wrap64)
set_option linter.unusedVariables false
set_option linter.unusedSimpArgs false
set_option maxRecDepth 100000
set_option maxHeartbeats 4000000
theorem half_head {x : SRr} (h : rAll x ≠ []) : (halfR x).2.headD 0 ∈ rAll x := by
  obtain ⟨g, o, hgo⟩ := List.exists_cons_of_ne_nil (halfR_ne h)
  have hc := half_count (x := x) g
  rw [hgo, List.count_cons_self] at hc
  rw [hgo, List.headD_cons]
  exact List.count_pos_iff.mp (by omega)
theorem flat_apart {α : Type} {f : α → List Int} : ∀ {l : List α} {i j : Nat} {x y : α} {z : Int}, (l.flatMap f).Nodup → l[i]? = some x → l[j]? = some y → i < j → z ∈ f x → z ∉ f y
  | [], i, j, x, y, z, _, h, _, _, _ => by simp at h
  | a :: l, 0, j + 1, x, y, z, hn, hx, hy, _, hz => fun h => by
    rw [List.flatMap_cons, List.nodup_append] at hn
    simp at hx; subst hx
    exact hn.2.2 z hz z (List.mem_flatMap.mpr ⟨y, List.mem_of_getElem? (by simpa using hy), h⟩) rfl
  | a :: l, i + 1, j + 1, x, y, z, hn, hx, hy, hij, hz => by
    rw [List.flatMap_cons, List.nodup_append] at hn
    exact flat_apart hn.2.1 (by simpa using hx) (by simpa using hy) (by omega) hz
theorem where_at {t : List SVtx} {a : Int} {R : List SRr} {H : List (List Int)} {s q g : Int} (hm : May t a R H s) (hq : inP t q) (hg : g ∈ rAll (rg R q)) : (whereOf R H g).1 = q := by
  obtain ⟨q0, eq, mq, _, _, _⟩ := inP_at hm hq
  have hnd : (R.flatMap rAll).Nodup := (List.sublist_append_left _ _).nodup hm.nd
  have h := idxf_at (p := fun x => decide (g ∈ rAll x)) eq (decide_eq_true hg) (fun y hy => by
    rw [List.mem_take_iff_getElem] at hy
    obtain ⟨j, hj, rfl⟩ := hy
    exact decide_eq_false fun hgy => flat_apart hnd (List.getElem?_eq_getElem (by omega)) eq (by omega) hgy hg)
  unfold whereOf
  rw [h, if_pos (by omega)]
  simp only; omega
theorem near_plain {t : List SVtx} {a : Int} {R : List SRr} {H : List (List Int)} {s p far : Int} (th : Thief t a R H s p) (h3 : far < 3) :
    let x := stealOf t a R H s p far
    let y := stealOf t a R H s p 3
    (x.g ≠ 0 → x.g = y.g ∧ x.d = y.d ∧ x.d ≤ far ∧ 0 ≤ (whereOf R H x.g).1 ∧ farOf t p (whereOf R H x.g).1 = x.d) ∧ (x.g = 0 → y.g ≠ 0 → far < y.d) := by
  intro x y
  have hm := th.m
  have hp := th.p
  have hpre := vict_pre (far := far) (far' := 3) hm hp (by omega)
  rcases steal_cases far th with ⟨q, l, hv, hs⟩ | ⟨hv, hf, _⟩ | ⟨hv, hs, _⟩
  · have hq := (vict_mem (q := q) (far := far) hm hp).mp (by rw [hv]; simp)
    have st := take_stays th hq.1 hq.2.1 hq.2.2.1
    have hy : y = takeOf t a R H p q := by
      rcases steal_cases 3 th with ⟨q', l', hv', hs'⟩ | ⟨hv', _⟩ | ⟨hv', _⟩
      · rw [hv, hv', List.cons_prefix_cons] at hpre
        rw [show y = _ from hs', hpre.1]
      · rw [hv, hv'] at hpre; simp at hpre
      · rw [hv, hv'] at hpre; simp at hpre
    have hx : x = takeOf t a R H p q := hs
    rw [hx, hy]
    have hw := where_at hm hq.1 (half_head hq.2.2.1)
    have q0 := (hm.inP.mp hq.1).1
    refine ⟨fun _ => ⟨rfl, rfl, hq.2.2.2, ?_, ?_⟩, fun h => absurd h st.g⟩
    · rw [show (takeOf t a R H p q).g = (halfR (rg R q)).2.headD 0 from rfl, hw]; exact q0
    · rw [show (takeOf t a R H p q).g = (halfR (rg R q)).2.headD 0 from rfl, hw]; rfl
  · omega
  · have hx : x = ⟨R, H, 0, -1⟩ := hs
    rw [hx]
    refine ⟨fun h => absurd rfl h, fun _ hy => ?_⟩
    rcases steal_cases 3 th with ⟨q', l', hv', hs'⟩ | ⟨hv', _, m, _, _, hs'⟩ | ⟨hv', hs', _⟩
    · have hq := (vict_mem (q := q') (far := 3) hm hp).mp (by rw [hv']; simp)
      rw [show y = _ from hs']
      show far < farOf t p q'
      rcases Int.lt_or_le far (farOf t p q') with h | h
      · exact h
      · have := (vict_mem (q := q') (far := far) hm hp).mpr ⟨hq.1, hq.2.1, hq.2.2.1, h⟩
        rw [hv] at this; cases this
    · rw [show y = _ from hs']; exact h3
    · exact absurd (by rw [show y = _ from hs']) hy
theorem stealNear_g (r : SRN) (hs : U64 r.s) (p : Int) {wp : Prop} (_ : wp) : Gv P XN 10 [encN r, I p] (B true) := by
  obtain ⟨t, a, R, H, s⟩ := r
  have hs : U64 s := hs
  refine gv_of (lowN _ (by decide)) fun10 rfl ?_
  have hfew := few_g lowN t a R H s
  simp +decide only [Try.f10, encN, encRR, go_sem, Nat.reduceAdd]
  refine WO_call rfl rfl rfl rfl rfl shown17_g ?_
  simp +decide only [go_sem, Nat.reduceAdd]
  refine WO_call rfl rfl rfl rfl rfl hfew ?_
  cases hF : fewB t R H
  · simp +decide only [go_sem, Nat.reduceAdd]
    refine WO_not rfl ?_
    simp +decide only [go_sem, Nat.reduceAdd]
    exact ⟨_, rfl, rfl, rfl⟩
  obtain ⟨ht, f1, f2, f3, f4⟩ := fewB_of hF
  have f : Fw R H := ⟨by omega, by omega, fun x hx => by have := f3 x hx; omega, fun x hx => by have := f4 x hx; omega⟩
  simp +decide only [go_sem, Nat.reduceAdd]
  refine WO_call rfl rfl rfl rfl rfl (thief_g lowN t a R H s p ht hs f) ?_
  cases hT : thiefB t a R H s p
  · simp +decide only [go_sem, Nat.reduceAdd]
    exact ⟨_, rfl, rfl, rfl⟩
  have th := thief_iff.mp hT
  simp +decide only [go_sem, Nat.reduceAdd]
  refine WO_call rfl rfl rfl rfl rfl (made17_g lowN t a R H s f) ?_
  simp +decide only [go_sem, Nat.reduceAdd, encRR, wrc, splice, encT]
  refine WO_call rfl rfl rfl rfl rfl (steal_g t a R H s p 3 ht hs f) ?_
  have key : ∀ far : Int, far < 3 → _ := fun far h => near_plain th h
  simp only at key
  unfold encSto
  generalize stealOf t a R H s p 3 = y at key
  simp +decide only [go_sem, Nat.reduceAdd, encRR, wrc, splice, encT]
  refine W_ind (fun k st => ∃ d : Nat, d + k = 3 ∧ FrIs 98 [(1, I p), (2, .ptr 0 0), (5, B true), (6, .ptr 1 0), (8, I y.g), (9, I y.d), (10, I d)] st.fr ∧ (∃ J, st.S = .var false [encT t, I a, .sl .no (R.map encG), .sl .no (H.map L), U s] :: .var false [encT t, I a, .sl .no (R.map encG), .sl .no (H.map L), U s] :: J) ∧ st.T = []) ?_ (n := 3) ⟨0, rfl, ⟨rfl, rfl, rfl, rfl, rfl, rfl, rfl, rfl, trivial⟩, ⟨_, rfl⟩, rfl⟩
  rintro k ⟨L', S, T⟩ ih ⟨d, hd, hFr, ⟨J, rfl⟩, rfl⟩
  obtain ⟨j, rfl⟩ := hFr.ex
  have hw := wrap_nat d (by omega)
  simp +decide only [fr, jl, Nat.reduceAdd, go_sem]
  refine Wif_of (fun h => ?_) (fun h => ?_)
  · have hd3 : (d : Int) < 3 := by simpa using h
    have hk := key (d : Int) hd3
    have hst := steal_g t a R H s p (d : Int) ht hs f
    unfold encSto at hst
    simp +decide only [go_sem, Nat.reduceAdd, encT]
    refine WO_call rfl rfl rfl rfl rfl hst ?_
    generalize stealOf t a R H s p (d : Int) = x at hk
    simp +decide only [go_sem, Nat.reduceAdd, encRR, wrc, splice, encT]
    refine WO_call rfl rfl rfl rfl rfl (where_g t a R H s x.g f) ?_
    have hnext : ∀ fr' J', FrIs 98 [(1, I p), (2, .ptr 0 0), (5, B true), (6, .ptr 1 0), (8, I y.g), (9, I y.d), (10, I ((d + 1 : Nat) : Int))] fr' → _ := fun fr' J' hfr => ih (k - 1) ⟨fr', .var false [encT t, I a, .sl .no (R.map encG), .sl .no (H.map L), U s] :: .var false [encT t, I a, .sl .no (R.map encG), .sl .no (H.map L), U s] :: J', []⟩ (by omega) ⟨d + 1, by omega, hfr, ⟨J', rfl⟩, rfl⟩
    by_cases hz : x.g = 0
    · have c1 : (x.g != 0) = false := bne_no hz
      have c2 : (x.g == 0) = true := beq_yes hz
      by_cases hy : y.g = 0
      · have c3 : (y.g != 0) = false := bne_no hy
        simp +decide only [go_sem, Nat.reduceAdd, c1, c2, c3]
        refine WO_not rfl ?_
        simp +decide only [go_sem, Nat.reduceAdd, c1, c2, c3, hw]
        exact hnext _ _ ⟨rfl, rfl, rfl, rfl, rfl, rfl, rfl, rfl, trivial⟩
      · have c3 : (y.g != 0) = true := by simpa using hy
        have c4 : ¬ y.d ≤ (d : Int) := by have := hk.2 hz hy; omega
        simp +decide only [go_sem, Nat.reduceAdd, c1, c2, c3, c4]
        refine WO_not rfl ?_
        simp +decide only [go_sem, Nat.reduceAdd, c1, c2, c3, c4, hw]
        exact hnext _ _ ⟨rfl, rfl, rfl, rfl, rfl, rfl, rfl, rfl, trivial⟩
    · obtain ⟨k1, k2, k3, k4, k5⟩ := hk.1 hz
      have c1 : (x.g != 0) = true := by simpa using hz
      have c2 : (x.g == 0) = false := beq_no hz
      have c3 : (x.g != y.g) = false := bne_no k1
      have c4 : (x.d != y.d) = false := bne_no k2
      have c5 : ¬ (d : Int) < x.d := by omega
      have c6 : ¬ (whereOf R H x.g).1 < 0 := by omega
      have c7 : (farOf t p (whereOf R H x.g).1 != x.d) = false := bne_no k5
      simp +decide only [go_sem, Nat.reduceAdd, c1, c2, c3, c4, c5, c6, encT]
      refine WO_call rfl rfl rfl rfl rfl (far_g lowN t p (whereOf R H x.g).1 (by omega)) ?_
      simp +decide only [go_sem, Nat.reduceAdd, c1, c2, c7, hw]
      exact hnext _ _ ⟨rfl, rfl, rfl, rfl, rfl, rfl, rfl, rfl, trivial⟩
  · simp +decide only [go_sem, Nat.reduceAdd]
    exact ⟨_, rfl, rfl, rfl⟩
end Go.Proofs.Ytplpmelpoajpdaa.Ev
namespace Go.Proofs.Ytplpmelpoajpdaa.Ev
open Go Go.Proofs
open Go.RowKit (wrap64)
set_option linter.unusedVariables false
set_option linter.unusedSimpArgs false
set_option maxRecDepth 100000
set_option maxHeartbeats 2000000
theorem count_snoc {l : List Int} {i : Nat} {x y : Int} (h : l[i]? = some x) : (l.take (i + 1)).count y = (l.take i).count y + (if (x == y) = true then 1 else 0) := by
  rw [take_snoc h, List.count_append, List.count_singleton]
theorem count_le' (l : List Int) (y : Int) : l.count y ≤ l.length := List.count_le_length
section
variable {X : Prims} (hX : Low X)
include hX
/-- Where the members are the same, as often, it says so. -/
theorem bag_g (a b : List Int) (ha : a.length ≤ 100000) (hp : a.Perm b) : Gv P X 33 [L a, L b] (B true) := by
  refine gv_of (hX _ (by decide)) fun33 rfl ?_
  have hl := hp.length_eq
  have hne : ((a.length : Int) != (b.length : Int)) = false := by simp; omega
  simp +decide only [Try.f33, go_sem, hne]
  refine W_ind (fun k st => ∃ i : Nat, i + k = a.length ∧ FrIs 49 [(0, L a), (1, L b), (5, I i)] st.fr ∧ st.S = [] ∧ st.T = []) ?_ (n := a.length) ⟨0, by omega, ⟨rfl, rfl, rfl, rfl, trivial⟩, rfl, rfl⟩
  rintro k ⟨L', S, T⟩ ih ⟨i, hi, hF, rfl, rfl⟩
  obtain ⟨j, rfl⟩ := hF.ex
  have hw := wrap_nat i (by omega)
  simp +decide only [fr, jl, Nat.reduceAdd, go_sem]
  refine Wif_of (fun h => ?_) (fun h => ?_)
  · have hlt : i < a.length := by simpa using h
    obtain ⟨y, hy, _⟩ := getE hlt
    simp +decide only [go_sem]
    refine W_ind (fun k st => ∃ n : Nat, n + k = a.length ∧ FrIs 49 [(0, L a), (1, L b), (5, I i), (6, I (((a.take n).count y : Int) - ((b.take n).count y : Int))), (7, I n)] st.fr ∧ st.S = [] ∧ st.T = []) ?_ (n := a.length) ⟨0, by omega, ⟨rfl, rfl, rfl, rfl, by simp, rfl, trivial⟩, rfl, rfl⟩
    rintro k2 ⟨L', S, T⟩ ih2 ⟨n, hn, hF, rfl, rfl⟩
    obtain ⟨j, rfl⟩ := hF.ex
    have hw2 := wrap_nat n (by omega)
    simp +decide only [fr, jl, Nat.reduceAdd, go_sem]
    refine Wif_of (fun h => ?_) (fun h => ?_)
    · have hlt2 : n < a.length := by simpa using h
      obtain ⟨x1, hx1, _⟩ := getE hlt2
      obtain ⟨x2, hx2, _⟩ := getE (show n < b.length by omega)
      have c1 := count_snoc (y := y) hx1
      have c2 := count_snoc (y := y) hx2
      have d1 := count_le' (a.take n) y
      have d2' := count_le' (b.take n) y
      have d3 : (a.take n).length ≤ a.length := List.length_take_le' _ _
      have d4 : (b.take n).length ≤ b.length := List.length_take_le' _ _
      generalize (a.take n).count y = u at *
      generalize (b.take n).count y = v at *
      have w1 : IntKind.i64.wrap ((u : Int) - v + 1) = (u : Int) - v + 1 := wrap64_of (by omega)
      have w2 : IntKind.i64.wrap ((u : Int) - v + 1 - 1) = (u : Int) - v + 1 - 1 := wrap64_of (by omega)
      have w3 : IntKind.i64.wrap ((u : Int) - v - 1) = (u : Int) - v - 1 := wrap64_of (by omega)
      simp +decide only [go_sem]
      refine W_draw hmx (by kernel_rfl) ?_
      simp +decide only [go_sem, hx1, hy]
      refine Wif_of (fun h1 => ?_) (fun h1 => ?_)
      · simp +decide only [go_sem, w1]
        refine W_draw hmx (by kernel_rfl) ?_
        simp +decide only [go_sem, hx2, hy]
        refine Wif_of (fun h2 => ?_) (fun h2 => ?_)
        · simp +decide only [go_sem, w2, hw2]
          refine ih2 (k2 - 1) _ (by omega) ⟨n + 1, by omega, ⟨rfl, rfl, rfl, rfl, ?_, rfl, trivial⟩, rfl, rfl⟩
          rw [c1, c2, if_pos h1, if_pos h2]
          exact congrArg I (by omega)
        · simp +decide only [go_sem, hw2]
          refine ih2 (k2 - 1) _ (by omega) ⟨n + 1, by omega, ⟨rfl, rfl, rfl, rfl, ?_, rfl, trivial⟩, rfl, rfl⟩
          rw [c1, c2, if_pos h1, if_neg (by rw [h2]; decide)]
          exact congrArg I (by omega)
      · simp +decide only [go_sem]
        refine W_draw hmx (by kernel_rfl) ?_
        simp +decide only [go_sem, hx2, hy]
        refine Wif_of (fun h2 => ?_) (fun h2 => ?_)
        · simp +decide only [go_sem, w3, hw2]
          refine ih2 (k2 - 1) _ (by omega) ⟨n + 1, by omega, ⟨rfl, rfl, rfl, rfl, ?_, rfl, trivial⟩, rfl, rfl⟩
          rw [c1, c2, if_neg (by rw [h1]; decide), if_pos h2]
          exact congrArg I (by omega)
        · simp +decide only [go_sem, hw2]
          refine ih2 (k2 - 1) _ (by omega) ⟨n + 1, by omega, ⟨rfl, rfl, rfl, rfl, ?_, rfl, trivial⟩, rfl, rfl⟩
          rw [c1, c2, if_neg (by rw [h1]; decide), if_neg (by rw [h2]; decide)]
          exact congrArg I (by omega)
    · have hn' : n = a.length := by simp at h; omega
      subst hn'
      have e0 : ((a.take a.length).count y : Int) - ((b.take a.length).count y : Int) = 0 := by
        rw [List.take_length, hl, List.take_length, List.perm_iff_count.mp hp y]; omega
      simp only [e0]
      simp +decide only [go_sem]
      refine Wif_of (fun h => absurd h (by decide)) (fun _ => ?_)
      simp +decide only [go_sem, hw]
      exact ih (k - 1) _ (by omega) ⟨i + 1, by omega, ⟨rfl, rfl, rfl, rfl, trivial⟩, rfl, rfl⟩
  · simp +decide only [go_sem]
    exact ⟨_, rfl, rfl, rfl⟩
end
end Go.Proofs.Ytplpmelpoajpdaa.Ev
namespace Go.Proofs.Ytplpmelpoajpdaa.Ev
open Go Go.Proofs
open Go.RowKit (wrap64)
set_option linter.unusedVariables false
set_option linter.unusedSimpArgs false
set_option maxRecDepth 100000
set_option maxHeartbeats 4000000
theorem some_plain {t : List SVtx} {a : Int} {R : List SRr} {H : List (List Int)} {s p : Int} (th : Thief t a R H s p) (far : Int) (h0 : 0 ≤ far) (h3 : far ≤ 3) :
    let x := stealOf t a R H s p far
    (x.g = 0 → x.d = -1 ∧ x.R = R ∧ x.H = H) ∧ (x.g ≠ 0 → Stays t a R H s x ∧ 1 ≤ x.d ∧ x.d ≤ far) := by
  intro x
  have hm := th.m
  have hp := th.p
  rcases steal_cases far th with ⟨q, l, hv, hs⟩ | ⟨hv, hf, m, hml, hne, hs⟩ | ⟨hv, hs, _⟩
  · have hq := (vict_mem (q := q) (far := far) hm hp).mp (by rw [hv]; simp)
    have st := take_stays th hq.1 hq.2.1 hq.2.2.1
    rw [show x = _ from hs]
    have hfp := far_pos hp hq.1 (Ne.symm hq.2.1)
    exact ⟨fun h => absurd h st.g, fun _ => ⟨st, hfp.1, hq.2.2.2⟩⟩
  · have st := row_stays th hml hne
    rw [show x = _ from hs]
    exact ⟨fun h => absurd h st.g, fun _ => ⟨st, by simp, by simpa using hf⟩⟩
  · rw [show x = _ from hs]
    exact ⟨fun _ => ⟨rfl, rfl, rfl⟩, fun h => absurd rfl h⟩
theorem may_few {t : List SVtx} {a : Int} {R : List SRr} {H : List (List Int)} {s : Int} (hm : May t a R H s) (h40 : R.length ≤ 64) (hh : H.length ≤ 64) (hl : ∀ l ∈ H, l.length ≤ 500) : Fw R H := by
  refine ⟨h40, hh, fun x hx => ?_, hl⟩
  obtain ⟨i, hi, rfl⟩ := List.getElem_of_mem hx
  have h1 := hm.len i hi
  have e1 : rg R (i : Int) = R[i] := by simp [rg, hi]
  rw [e1] at h1
  have := hm.a16
  omega
theorem flat_mem_len {H : List (List Int)} : ∀ l ∈ H, l.length ≤ H.flatten.length := by
  intro l hl
  induction H with
  | nil => cases hl
  | cons a H ih =>
    rw [List.flatten_cons, List.length_append]
    rcases List.mem_cons.mp hl with rfl | hl
    · omega
    · have := ih hl; omega
theorem steal_rows {t : List SVtx} {a : Int} {R : List SRr} {H : List (List Int)} {s p far : Int} (f : Fw R H) (hr : ∀ x ∈ R, x.f1.length ≤ 40) (hl : ∀ l ∈ H, l.length ≤ 40) : ∀ l ∈ (stealOf t a R H s p far).H, l.length ≤ 500 := by
  have key : ∀ (i : Nat) (y : List Int), y.length ≤ 500 → ∀ l ∈ H.set i y, l.length ≤ 500 := fun i y hy l hl2 => by
    rcases List.mem_or_eq_of_mem_set hl2 with h | h
    · have := hl l h; omega
    · subst h; exact hy
  have hrow : ∀ n : Int, (hrow H n).length ≤ 40 := fun n => by
    unfold Ev.hrow
    rw [List.getD_eq_getElem?_getD]
    cases e : H[n.toNat]? with
    | none => simp
    | some y => exact hl y (List.mem_of_getElem? e)
  have hring : ∀ q : Int, (rg R q).f1.length ≤ 40 := fun q => by
    unfold rg
    rw [List.getD_eq_getElem?_getD]
    cases e : R[q.toNat]? with
    | none => decide
    | some y => exact hr y (List.mem_of_getElem? e)
  unfold stealOf
  split
  · split
    · rename_i q l hv
      unfold takeOf
      refine key _ _ ?_
      have h1 := hrow (nodeOf t p)
      have h2 := (halfR_len (x := rg R q)).1
      have h3 := hring q
      simp; omega
    · split
      · unfold rowOfS
        split
        · refine key _ _ ?_
          rename_i m _
          have := hrow (m : Int); simp; omega
        · exact fun l h => by have := hl l h; omega
      · exact fun l h => by have := hl l h; omega
  · exact fun l h => by have := hl l h; omega
theorem stealSome_g (r : SRN) (hs : U64 r.s) (p far : Int) (hfar : (Lit.int .u8 far).wf = true) {wp : Prop} (_ : wp) : Gv P XN 6 [encN r, I p, .v (.int .u8 far)] (B true) := by
  obtain ⟨t, a, R, H, s⟩ := r
  have hs : U64 s := hs
  have hfr : 0 ≤ far ∧ far ≤ 255 := by
    have : IntKind.u8.min ≤ far ∧ far ≤ IntKind.u8.max := by simpa [Lit.wf] using hfar
    exact this
  refine gv_of (lowN _ (by decide)) fun6 rfl ?_
  have hfew := few_g lowN t a R H s
  simp +decide only [Try.f6, encN, encRR, go_sem, Nat.reduceAdd]
  refine WO_call rfl rfl rfl rfl rfl shown17_g ?_
  simp +decide only [go_sem, Nat.reduceAdd]
  refine WO_call rfl rfl rfl rfl rfl hfew ?_
  cases hF : fewB t R H
  · simp +decide only [go_sem, Nat.reduceAdd]
    refine WO_not rfl ?_
    simp +decide only [go_sem, Nat.reduceAdd]
    exact ⟨_, rfl, rfl, rfl⟩
  obtain ⟨ht, f1, f2, f3, f4⟩ := fewB_of hF
  have f : Fw R H := ⟨by omega, by omega, fun x hx => by have := f3 x hx; omega, fun x hx => by have := f4 x hx; omega⟩
  simp +decide only [go_sem, Nat.reduceAdd]
  refine WO_call rfl rfl rfl rfl rfl (thief_g lowN t a R H s p ht hs f) ?_
  cases hT : thiefB t a R H s p
  · simp +decide only [go_sem, Nat.reduceAdd]
    exact ⟨_, rfl, rfl, rfl⟩
  have th := thief_iff.mp hT
  have hm := th.m
  simp +decide only [go_sem, Nat.reduceAdd]
  refine WO_call rfl rfl rfl rfl rfl (made17_g lowN t a R H s f) ?_
  simp +decide only [go_sem, Nat.reduceAdd, encRR, wrc, splice, encT]
  have h3 := steal_g t a R H s p 3 ht hs f
  have hsm := steal_some th
  have hp3 := some_plain th 3 (by decide) (by decide)
  unfold encSto at h3
  refine WO_call rfl rfl rfl rfl rfl h3 ?_
  have e4 : ∃ d : Int, Int.tmod far 4 = d ∧ 0 ≤ d ∧ d ≤ 3 := ⟨far % 4, Int.tmod_eq_emod_of_nonneg hfr.1, by omega, by omega⟩
  obtain ⟨d, e4, d0, d3⟩ := e4
  have w1 : IntKind.i64.wrap d = d := wrap64_of (by omega)
  have n4 : ¬ (4 : Int) = 0 := by decide
  have hst := steal_g t a R H s p d ht hs f
  have hpl := some_plain th d d0 d3
  have hrw := steal_rows (t := t) (a := a) (s := s) (p := p) (far := d) f f3 f4
  unfold encSto at hst
  simp +decide only [go_sem, Nat.reduceAdd, encRR, wrc, splice, encT, e4, w1, n4, convA, Option.isSome_some]
  refine WO_call rfl rfl rfl rfl rfl hst ?_
  simp only at hp3 hpl
  generalize hy : stealOf t a R H s p 3 = y at *
  have hxy : d ≤ 3 → (stealOf t a R H s p d).g ≠ 0 → y.g ≠ 0 := fun _ hx => by
    rw [← hy]
    refine (steal_some th).mpr fun e => ?_
    have := ((hpl.2 hx).1).perm.length_eq
    rw [e] at this; simp at this
  generalize stealOf t a R H s p d = x at *
  simp +decide only [go_sem, Nat.reduceAdd, encRR, wrc, splice, encT]
  refine WO_call rfl rfl rfl rfl rfl (runs_all_g lowN t a R H s f) ?_
  have hA := f.all
  simp +decide only [go_sem, Nat.reduceAdd]
  by_cases hyz : y.g = 0
  · have hA0 : allR R H = [] := Decidable.byContradiction fun h => hsm.mpr h hyz
    have hxz : x.g = 0 := Decidable.byContradiction fun h => hxy d3 h hyz
    obtain ⟨h1, h2, h3⟩ := hpl.1 hxz
    have c1 : (y.g != 0) = false := bne_no hyz
    have c2 : (y.g == 0) = true := beq_yes hyz
    have c3 : (y.d == -1) = true := beq_yes (hp3.1 hyz).1
    have c4 : (x.g != 0) = false := bne_no hxz
    have c5 : (x.g == 0) = true := beq_yes hxz
    have c6 : (x.d == -1) = true := beq_yes h1
    have hin := ints_g (X := XN) lowN (allR R H) (allR R H) (by omega)
    rw [decide_eq_true rfl] at hin
    have hra := runs_all_g (X := XN) lowN t a R H s f
    rw [hA0] at hin hra
    rw [hA0, h2, h3]
    simp +decide only [go_sem, Nat.reduceAdd, c1, c2, c3, c4, c5, c6]
    refine W_draw hmx (by kernel_rfl) ?_
    simp +decide only [go_sem, Nat.reduceAdd, c1, c2, c3, c4, c5, c6, encT]
    refine WO_call rfl rfl rfl rfl rfl hra ?_
    simp +decide only [go_sem, Nat.reduceAdd, encT]
    refine WO_call rfl rfl rfl rfl rfl hra ?_
    simp +decide only [go_sem, Nat.reduceAdd, encT]
    refine WO_call rfl rfl rfl rfl rfl hin ?_
    simp +decide only [go_sem, Nat.reduceAdd, encT]
    exact ⟨_, rfl, rfl, rfl⟩
  · have hA0 : allR R H ≠ [] := hsm.mp hyz
    have hAl : (0 : Int) < ((allR R H).length : Int) := by have := List.length_pos_iff.mpr hA0; omega
    have hyd := (hp3.2 hyz).2
    have c1 : (y.g != 0) = true := by simpa using hyz
    have c2 : (y.g == 0) = false := beq_no hyz
    have c3 : (y.d == -1) = false := beq_no (by omega)
    by_cases hxz : x.g = 0
    · obtain ⟨h1, h2, h3⟩ := hpl.1 hxz
      have c4 : (x.g != 0) = false := bne_no hxz
      have c5 : (x.g == 0) = true := beq_yes hxz
      have c6 : (x.d == -1) = true := beq_yes h1
      have hin := ints_g (X := XN) lowN (allR R H) (allR R H) (by omega)
      rw [decide_eq_true rfl] at hin
      have hra := runs_all_g (X := XN) lowN t a R H s f
      rw [h2, h3]
      generalize allR R H = A at *
      simp +decide only [go_sem, Nat.reduceAdd, c1, c2, c3, c4, c5, c6, hAl]
      refine W_draw hmx (by kernel_rfl) ?_
      simp +decide only [go_sem, Nat.reduceAdd, c1, c2, c3, c4, c5, c6, encT]
      refine WO_call rfl rfl rfl rfl rfl hra ?_
      simp +decide only [go_sem, Nat.reduceAdd, encT]
      refine WO_call rfl rfl rfl rfl rfl hra ?_
      simp +decide only [go_sem, Nat.reduceAdd, encT]
      refine WO_call rfl rfl rfl rfl rfl hin ?_
      simp +decide only [go_sem, Nat.reduceAdd, encT]
      exact ⟨_, rfl, rfl, rfl⟩
    · obtain ⟨st, x1, x2⟩ := hpl.2 hxz
      have hmx2 := st.may hm
      have fx : Fw x.R x.H := may_few hmx2 (by rw [st.rl]; omega) (by rw [st.hl]; omega) hrw
      have c4 : (x.g != 0) = true := by simpa using hxz
      have c5 : (x.g == 0) = false := beq_no hxz
      have c7 : (1 : Int) ≤ x.d := x1
      have hmy := runs_may_g (X := XN) lowN t a x.R x.H s ht hs fx
      rw [may_iff.mpr hmx2] at hmy
      have hAx := fx.all
      have hra := runs_all_g (X := XN) lowN t a R H s f
      have hrx := runs_all_g (X := XN) lowN t a x.R x.H s fx
      have hbg := bag_g (X := XN) lowN (x.g :: allR x.R x.H) (allR R H) (by simp; omega) st.perm
      have hF : App P 3 [] (.sl .full ([x.g].map I)) ([x.g].map I) := .inr (.inl ⟨rfl, uniI _⟩)
      obtain ⟨v2, T2, happ2, hA2⟩ := app_ints hF (allR x.R x.H) .no (by simp; omega)
      obtain ⟨o2, rfl⟩ := hA2.is
      simp only [List.map_cons, List.map_nil] at happ2
      simp only [List.cons_append, List.nil_append] at happ2
      generalize allR R H = A at *
      generalize allR x.R x.H = A2 at *
      simp +decide only [go_sem, Nat.reduceAdd, c1, c2, c3, c4, c5, hAl]
      refine W_draw hmx (by kernel_rfl) ?_
      simp +decide only [go_sem, Nat.reduceAdd, c1, c2, c3, c4, c5, c7, x2, e4, w1, n4, convA, Option.isSome_some, encT]
      refine WO_call rfl rfl rfl rfl rfl hmy ?_
      simp +decide only [go_sem, Nat.reduceAdd, encT]
      refine WO_call rfl rfl rfl rfl rfl hrx ?_
      simp +decide only [go_sem, Nat.reduceAdd, encT, happ2]
      refine WO_call rfl rfl rfl rfl rfl hra ?_
      simp +decide only [go_sem, Nat.reduceAdd, encT]
      refine WO_call rfl rfl rfl rfl rfl hbg ?_
      simp +decide only [go_sem, Nat.reduceAdd, encT]
      exact ⟨_, rfl, rfl, rfl⟩
end Go.Proofs.Ytplpmelpoajpdaa.Ev
