/- Slices of slices, structs put together. No condition. -/
import Derived.Test.YtjfaafnngloblaaEv5
namespace Go.Proofs.Ytjfaafnngloblaa.Ev
open Go
set_option linter.unusedVariables false
set_option linter.unusedSimpArgs false
section
variable {P : Program} {w0 : World} {Z0 : Zs} {M0 : Nat → Prop} {Z : Zs} {β : List Nat} {γ : List Value} {S : Obs} {T : Toks} {w : World}
theorem bndA_some {m d r : Nat} {x : AV} {v : Value} {code : BoundsCode} (h : bndA m (some x) d = some r) (hx : R3 Z β γ T w P x v) : (Instr.sliceBound v m code).run P w = .ok r w ∧ r ≤ m := by
  simp only [bndA] at h
  split at h
  · rename_i i hi
    split at h
    · rename_i hb
      simp only [Option.some.injEq] at h
      subst h
      obtain ⟨k, rfl⟩ := idxV_inv hi hx
      exact ⟨by simp [Instr.sliceBound, asIntOf, hb], by omega⟩
    · cases h
  · cases h
theorem uni_at {n : Nat} {l : List AV} (h : uni n l = true) {i : Nat} (hi : i < l.length) : (l.getD i .dead).cells.length = n := by
  have := List.all_eq_true.mp h (l[i]) (List.getElem_mem hi)
  rw [List.getD_eq_getElem?_getD, List.getElem?_eq_getElem hi]
  simpa using this
/-- A part of a slice. -/
theorem DR.cut {o o' : Tok} {l : List AV} {v : Value} (h : DR Z w (.sl o l) v) (a b n : Nat) (hab : a ≤ b) (hb : b ≤ l.length) (hu : (a == 0 || uni n l) = true) :
    ∃ A len c, v = .slice A len c ∧ b ≤ c ∧ len = l.length ∧ ∀ c', b - a ≤ c' → (A = none → c' = 0) → DR Z w (.sl o' ((l.take b).drop a)) (.slice (if a = 0 then A else A.map (·.add (a * n))) (b - a) c') := by
  rcases h.sl_inv with ⟨rfl, a0, c0, rfl, h0⟩ | ⟨b0, p, c, k, xs, rfl, hc, hk, hz, hd⟩
  · have hb0 : b = 0 := by simpa using hb
    subst hb0
    obtain rfl : a = 0 := by omega
    exact ⟨a0, 0, c0, rfl, Nat.zero_le _, rfl, fun c' h1 h2 => .nil _ _ _ h2⟩
  · refine ⟨some ⟨b0, p, none⟩, l.length, c, rfl, by omega, rfl, fun c' h1 h2 => ?_⟩
    have hlen : ((l.take b).drop a).length = b - a := by simp; omega
    have hkn : a ≠ 0 → b - a ≠ 0 → k = n := by
      intro ha hba
      have hu' : uni n l = true := by
        have : (a == 0) = false := by simpa using ha
        rw [this] at hu; simpa using hu
      rw [← hk 0 (by omega), uni_at hu' (by omega)]
    have hadd : (if a = 0 then some (⟨b0, p, none⟩ : Addr) else (some (⟨b0, p, none⟩ : Addr)).map (·.add (a * n))) = some ⟨b0, p + a * n, none⟩ := by
      split
      · rename_i h; subst h; simp
      · simp [Addr.add_lit]
    rw [hadd, ← hlen]
    have hget : ∀ i, i < ((l.take b).drop a).length → ((l.take b).drop a).getD i .dead = l.getD (a + i) .dead := by
      intro i hi
      have : a + i < b := by omega
      simp [List.getD_eq_getElem?_getD, List.getElem?_drop, List.getElem?_take, this]
    have hoff : ∀ i j, i < ((l.take b).drop a).length → p + a * n + (i * k + j) = p + ((a + i) * k + j) := by
      intro i j hi
      by_cases ha : a = 0
      · subst ha; simp
      · have := hkn ha (by omega)
        subst this
        rw [Nat.add_mul]; omega
    refine .sl _ _ b0 (p + a * n) c' k (fun i j => xs (a + i) j) (by omega) (fun i hi => ?_) (fun i j hi hj => ?_) (fun i j hi hj => ?_)
    · rw [hget i hi]; exact hk _ (by omega)
    · rw [hoff i j hi]; exact hz (a + i) j (by omega) hj
    · rw [hget i hi]; exact hd (a + i) j (by omega) hj
theorem slA_run {t : TypeId} {x y : AV} {v : Value} {lo hi mx : Option Operand} {fr : List AV} {a : Act} (F : FR P Z β γ T w fr a) (hx : R3 Z β γ T w P x v)
    (h : slA P t x (lo.map (opd fr)) (hi.map (opd fr)) (mx.map (opd fr)) = some y) : ∃ r, (Instr.sliceAt t v (lo.map a.eval) (hi.map a.eval) (mx.map a.eval)).run P w = .ok r w ∧ R3 Z β γ T w P y r := by
  unfold slA at h
  cases x with
  | sl o l =>
    simp only at h
    split at h
    case h_2 => cases h
    rename_i e he
    split at h
    case h_2 => cases h
    rename_i n hh hn hbh
    split at h
    case h_2 => cases h
    rename_i aa hba
    have hu := tel_inv he
    have hd0 : DR Z w (.sl o l) v := hx.1
    obtain ⟨A, len, cap, rfl, _⟩ : ∃ A len c, v = .slice A len c ∧ True := by
      rcases hd0.sl_inv with ⟨_, _, _, rfl, _⟩ | ⟨_, _, _, _, _, rfl, _⟩
      · exact ⟨_, _, _, rfl, trivial⟩
      · exact ⟨_, _, _, rfl, trivial⟩
    have hlen : len = l.length := by
      rcases hd0.sl_inv with ⟨rfl, _, _, h1, _⟩ | ⟨_, _, _, _, _, h1, _⟩
      · cases h1; rfl
      · cases h1; rfl
    subst hlen
    have hcap : l.length ≤ cap ∧ (A = none → cap = 0) := by
      rcases hd0.sl_inv with ⟨rfl, _, _, h1, h2⟩ | ⟨_, _, _, _, _, h1, hc, _⟩
      · cases h1; exact ⟨Nat.zero_le _, h2⟩
      · cases h1; exact ⟨hc, fun h => by cases h⟩
    have hhle : hh ≤ l.length := by
      cases hi with
      | none => simp [bndA] at hbh; omega
      | some q => exact (bndA_some (code := .index) hbh (opd_r F q)).2
    have hale : aa ≤ hh := by
      cases lo with
      | none => simp [bndA] at hba; omega
      | some q => exact (bndA_some (code := .index) hba (opd_r F q)).2
    have hHiN : hi = none → hh = l.length := by rintro rfl; simp [bndA] at hbh; omega
    have hHi : ∀ q, hi = some q → ∀ (m : Nat) (code : BoundsCode), hh ≤ m → (Instr.sliceBound (a.eval q) m code).run P w = .ok hh w := by
      rintro q rfl m code hm
      have h1 := opd_r F q
      simp only [Option.map_some, bndA] at hbh
      split at hbh
      · rename_i i hi'
        split at hbh
        · rename_i hb
          simp only [Option.some.injEq] at hbh
          subst hbh
          obtain ⟨k, e⟩ := idxV_inv hi' h1
          rw [e]
          have : 0 ≤ i ∧ i ≤ (m : Int) := ⟨hb.1, by omega⟩
          simp [Instr.sliceBound, asIntOf, this]
        · cases hbh
      · cases hbh
    have hLoN : lo = none → aa = 0 := by rintro rfl; simp [bndA] at hba; omega
    have hLo : ∀ q, lo = some q → ∀ (code : BoundsCode), (Instr.sliceBound (a.eval q) hh code).run P w = .ok aa w := by
      rintro q rfl code
      exact (bndA_some hba (opd_r F q)).1
    split at h
    · split at h
      case isFalse => cases h
      rename_i hmx _ huni
      simp only [Option.some.injEq] at h
      subst h
      have hmx' : mx = none := by cases mx <;> simp_all
      subst hmx'
      obtain ⟨A', len', c', e1, _, _, hcut⟩ := hd0.cut (o' := .no) aa hh n hale hhle huni
      cases e1
      refine ⟨.slice (if cap = aa then A else A.map (·.add (aa * n))) (hh - aa) (cap - aa), ?_, ?_⟩
      · have e2 : (Instr.sliceBounds true l.length cap (lo.map a.eval) (hi.map a.eval) none).run P w = .ok (aa, hh, cap) w := by
          cases lo with
          | none =>
            obtain rfl := hLoN rfl
            cases hi with
            | none => rw [hHiN rfl]; simp [Instr.sliceBounds]
            | some q => simp [Instr.sliceBounds, hHi q rfl cap _ (by omega)]
          | some q' =>
            cases hi with
            | none =>
              have h2 := hLo q' rfl
              rw [hHiN rfl] at h2 ⊢
              simp [Instr.sliceBounds, h2]
            | some q => simp [Instr.sliceBounds, hHi q rfl cap _ (by omega), hLo q' rfl]
        simp [Instr.sliceAt, Instr.slice, run_underlying hu, e2, run_sz hn]
      · refine ⟨?_, trivial⟩
        by_cases hca : cap = aa
        · subst hca
          have hh' : hh = cap := by omega
          subst hh'
          simp only [if_true, Nat.sub_self]
          have hnil : (l.take hh).drop hh = [] := by simp
          rw [hnil]
          exact .nil _ _ _ (fun _ => rfl)
        · rw [if_neg hca]
          have := hcut (cap - aa) (by omega) (fun h => by have := hcap.2 h; omega)
          by_cases ha0 : aa = 0
          · subst ha0
            have e : A.map (·.add (0 * n)) = A := by cases A <;> simp [Addr.add]
            rw [e]; simpa using this
          · rw [if_neg ha0] at this; exact this
    · rename_i m' hmx
      split at h
      case h_2 => cases h
      rename_i q1 m hq1 hm
      split at h
      case isFalse => cases h
      rename_i hmm
      obtain ⟨hmh, huni⟩ := hmm
      simp only [Option.some.injEq] at h
      subst h
      obtain ⟨mq, rfl, rfl⟩ : ∃ mq, mx = some mq ∧ m' = opd fr mq := by
        cases mx with
        | none => simp at hmx
        | some mq => exact ⟨mq, rfl, by simpa using hmx.symm⟩
      obtain ⟨hq, rfl⟩ : ∃ hq, hi = some hq := by cases hi <;> simp_all
      obtain ⟨k, em⟩ := idxV_inv hm (opd_r F mq)
      obtain ⟨A', len', c', e1, _, _, hcut⟩ := hd0.cut (o' := .full) aa hh n hale hhle huni
      cases e1
      subst hmh
      refine ⟨.slice (if hh = aa then A else A.map (·.add (aa * n))) (hh - aa) (hh - aa), ?_, ?_⟩
      · have e2 : (Instr.sliceBounds true l.length cap (lo.map a.eval) (some (a.eval hq)) (some (a.eval mq))).run P w = .ok (aa, hh, hh) w := by
          have h1 : (Instr.sliceBound (a.eval mq) cap .slice3Acap).run P w = .ok hh w := by
            rw [em]
            have : 0 ≤ (hh : Int) ∧ (hh : Int) ≤ (cap : Int) := ⟨by omega, by omega⟩
            simp [Instr.sliceBound, asIntOf, this]
          have h2 := hHi hq rfl hh .slice3B (Nat.le_refl _)
          cases lo with
          | none =>
            obtain rfl := hLoN rfl
            simp [Instr.sliceBounds, h1, h2]
          | some q' => simp [Instr.sliceBounds, h1, h2, hLo q' rfl]
        simp [Instr.sliceAt, Instr.slice, run_underlying hu, e2, run_sz hn]
      · have hlen : ((l.take hh).drop aa).length = hh - aa := by simp; omega
        refine ⟨?_, _, by rw [hlen]⟩
        by_cases hca : hh = aa
        · subst hca
          simp only [if_true, Nat.sub_self]
          have hnil : (l.take hh).drop hh = [] := by simp
          rw [hnil]
          exact .nil _ _ _ (fun _ => rfl)
        · rw [if_neg hca]
          have := hcut (hh - aa) (Nat.le_refl _) (fun h => by have := hcap.2 h; omega)
          by_cases ha0 : aa = 0
          · subst ha0
            have e : A.map (·.add (0 * n)) = A := by cases A <;> simp [Addr.add]
            rw [e]; simpa using this
          · rw [if_neg ha0] at this; exact this
  | _ => simp at h
end
end Go.Proofs.Ytjfaafnngloblaa.Ev
