/- Append. No condition. -/
import Derived.Test.YtjfaafnngloblaaEv8
namespace Go.Proofs.Ytjfaafnngloblaa.Ev
open Go
set_option linter.unusedVariables false
set_option linter.unusedSimpArgs false
def flat (f : Nat → Nat → Value) (n k : Nat) : List Value := (List.range (n * k)).map fun q => f (q / k) (q % k)
theorem flat_len (f : Nat → Nat → Value) (n k : Nat) : (flat f n k).length = n * k := by simp [flat]
theorem flat_get {f : Nat → Nat → Value} {n k q : Nat} {u : Value} (h : (flat f n k)[q]? = some u) : q < n * k ∧ u = f (q / k) (q % k) := by
  unfold flat at h
  rw [List.getElem?_map] at h
  obtain ⟨i, hi, rfl⟩ := Option.map_eq_some_iff.1 h
  obtain ⟨h1, rfl⟩ := List.getElem?_eq_some_iff.1 hi
  simp only [List.length_range] at h1
  simp only [List.getElem_range]
  exact ⟨h1, trivial⟩
theorem idx_lt {i j n k : Nat} (hi : i < n) (hj : j < k) : i * k + j < n * k := by
  have : (i + 1) * k ≤ n * k := Nat.mul_le_mul_right k hi
  rw [Nat.add_mul] at this; omega
theorem flat_at {f : Nat → Nat → Value} {n k i j : Nat} (hi : i < n) (hj : j < k) : (flat f n k)[i * k + j]? = some (f i j) := by
  have hk : 0 < k := by omega
  unfold flat
  rw [List.getElem?_map, List.getElem?_range (idx_lt hi hj)]
  simp only [Option.map_some]
  rw [show i * k + j = j + k * i from by rw [Nat.mul_comm]; omega, Nat.add_mul_div_left _ _ hk, Nat.add_mul_mod_self_left, Nat.div_eq_of_lt hj, Nat.mod_eq_of_lt hj, Nat.zero_add]
theorem divmod {q n k : Nat} (h : q < n * k) : q / k < n ∧ q % k < k ∧ q / k * k + q % k = q := by
  have hk : 0 < k := by
    cases k with
    | zero => simp at h
    | succ k => omega
  exact ⟨Nat.div_lt_of_lt_mul (by rw [Nat.mul_comm]; exact h), Nat.mod_lt _ hk, by rw [Nat.mul_comm]; exact Nat.div_add_mod q k⟩
section
variable {P : Program} {w0 : World} {Z0 : Zs} {M0 : Nat → Prop} {Z Z' : Zs} {β : List Nat} {γ : List Value} {S : Obs} {T : Toks} {w w' : World}
theorem tby_inv {e : TypeId} {n b : Nat} {z : List AV} (h1 : tsz P e = some n) (h2 : tby P e = some b) (h3 : tzero P e = some z) : ∃ i z0, P.info? e = some i ∧ i.size = n ∧ i.bytes = b ∧ i.zero = some z0 ∧ z0.cells.size = z.length := by
  unfold tsz at h1; unfold tby at h2; unfold tzero at h3
  obtain ⟨i, hi, rfl⟩ := Option.map_eq_some_iff.1 h1
  rw [hi] at h2 h3
  simp only [Option.map_some, Option.some.injEq, Option.bind_some] at h2 h3
  obtain ⟨z0, hz, rfl⟩ := Option.map_eq_some_iff.1 h3
  exact ⟨i, z0, hi, rfl, h2, hz, by simp⟩
/-- Nothing appended. -/
theorem append_none {t ty e : TypeId} {n : Nat} (ht : P.underlying t = some (.slice e)) (hn : tsz P e = some n) {A B : Option Addr} {len c c' : Nat} (hc : len ≤ c) (hB : B = none ∨ True) :
    (Builtin.append_ #[t, t] ty #[.slice A len c, .slice B 0 c']).run P w = .ok (.slice A len c) w := by
  have h1 : (Builtin.firstCells n 0 (.slice B 0 c')).run P w = .ok #[] w := by
    cases B with
    | none => rfl
    | some b => simp [Builtin.firstCells, loadCells, loadCellsFrom]
  cases A with
  | none => simp [Builtin.append_, run_underlying ht, run_sz hn, Builtin.lenOf, hc, h1]
  | some a => simp [Builtin.append_, run_underlying ht, run_sz hn, Builtin.lenOf, hc, h1, storeCells]
/-- A chain's slice that has grown: its block, its cells. -/
structure Grown (P : Program) (Z : Zs) (β : List Nat) (M0 : Nat → Prop) (n0 : Nat) (w w' : World) (e : TypeId) (n : Nat) (old : Value) (r : Value) (len : Nat) (f : Nat → Nat → Value) : Prop where
  mk ::
  out : ∃ g cap cur, r = .slice (some ⟨g, 0, none⟩) len cap ∧ w'.heap[g]? = some (.cells cur e (0, 0)) ∧ len ≤ cap ∧ cap ≤ maxLen ∧ cur.size = cap * n ∧
    (∀ i j, i < len → j < n → w'.cell? ⟨g, i * n + j, none⟩ = some (f i j)) ∧
    ((g = w.heap.size ∧ Grow w w') ∨ (spare old = some g ∧ (M0 g ∨ n0 ≤ g) ∧ g ∉ β ∧ Keep (fun k => k = g) w w' ∧ ∀ b o, Z b o → w'.cell? ⟨b, o, none⟩ = w.cell? ⟨b, o, none⟩))
theorem spare_some {a : Addr} {n c : Nat} (h : n ≠ c) : spare (.slice (some a) n c) = some a.block := by simp [spare, h]
theorem append_some {t ty e : TypeId} {n b : Nat} {z : List AV} (ht : P.underlying t = some (.slice e)) (h1 : tsz P e = some n) (h2 : tby P e = some b) (h3 : tzero P e = some z) (hz : z.length = n) (hn : 0 < n)
    {v : Value} {len : Nat} {fo : Nat → Nat → Value} (hv : (v = .slice none 0 0 ∧ len = 0) ∨ ∃ ad c, v = .slice (some ad) len c ∧ (∀ i j, i < len → j < n → w.cell? (ad.add (i * n + j)) = some (fo i j)))
    {n0 : Nat} (hown : OwnS P Z β M0 n0 w e v) {q p m c' : Nat} {fn : Nat → Nat → Value} (hm : 0 < m) (hu : ∀ i j, i < m → j < n → w.cell? ⟨q, p + (i * n + j), none⟩ = some (fn i j)) (h1c : ∀ i j, i < m → j < n → (fn i j).oneCell' = true)
    (hb : (len + m) * b ≤ 140737488355328) (hml : len + m ≤ maxLen) :
    ∃ r w', (Builtin.append_ #[t, t] ty #[v, .slice (some ⟨q, p, none⟩) m c']).run P w = .ok r w' ∧ Grown P Z β M0 n0 w w' e n v r (len + m) (fun i j => if i < len then fo i j else fn (i - len) j) := by
  obtain ⟨i, z0, hi, rfl, rfl, hz0, hzs⟩ := tby_inv h1 h2 h3
  have hzs' : z0.cells.size = i.size := by rw [hzs, hz]
  have hml' := hml
  simp only [maxLen] at hml'
  have hnl := flat_len fn m i.size
  have hnews : ∀ j u, (flat fn m i.size)[j]? = some u → w.cell? ((⟨q, p, none⟩ : Addr).add j) = some u := by
    intro j u h
    obtain ⟨hj, rfl⟩ := flat_get h
    obtain ⟨a1, a2, a3⟩ := divmod hj
    rw [Addr.add_lit]
    have := hu _ _ a1 a2
    rw [a3] at this
    exact this
  have hone : ∀ u ∈ flat fn m i.size, u.oneCell' = true := by
    intro u h
    obtain ⟨j, hj, rfl⟩ := List.mem_iff_getElem.1 h
    obtain ⟨hj', e'⟩ := flat_get (List.getElem?_eq_getElem hj)
    rw [e']
    obtain ⟨a1, a2, _⟩ := divmod hj'
    exact h1c _ _ a1 a2
  -- a new block
  have fresh : ∀ (olds : List Value) (old : Nat), olds.length = len * i.size → (∀ a j, a < len → j < i.size → olds[a * i.size + j]? = some (fo a j)) → old < len + m →
      Grown P Z β M0 n0 w (w.drew.alloc (.cells (olds.toArray ++ (flat fn m i.size).toArray ++ Builtin.zeroCells z0.cells (grownCap w (len + m) old e - (len + m))) e)) e i.size v
        (.slice (some ⟨w.heap.size, 0, none⟩) (len + m) (grownCap w (len + m) old e)) (len + m) (fun i j => if i < len then fo i j else fn (i - len) j) := by
    intro olds old ho hol hlt
    have hge := grownCap_ge w (len + m) old e
    refine ⟨⟨w.heap.size, _, _, rfl, heap_alloc_new w.drew _, hge, grownCap_le_maxLen w (len + m) old e hml, ?_, ?_, .inl ⟨rfl, rfl, rfl, rfl, by simp, fun k hk _ => heap_alloc_old w.drew _ k hk⟩⟩⟩
    · simp only [Array.size_append, List.size_toArray, size_zeroCells, hzs', ho, hnl, ← Nat.add_mul]
      congr 1; omega
    · intro a j ha hj
      rw [cell_of_row _ w.heap.size _ _ e (0, 0) (heap_alloc_new w.drew _)]
      have hidx := idx_lt ha hj
      rw [Nat.add_mul] at hidx
      rw [Array.getElem?_append_left (by simp [ho, hnl]; omega)]
      by_cases h : a < len
      · rw [if_pos h, Array.getElem?_append_left (by simp [ho]; exact idx_lt h hj)]
        simpa using hol a j h hj
      · rw [if_neg h, Array.getElem?_append_right (by
          simp [ho]
          exact Nat.le_trans (Nat.mul_le_mul_right _ (Nat.le_of_not_lt h)) (Nat.le_add_right _ _))]
        have hx : a * i.size + j - olds.toArray.size = (a - len) * i.size + j := by
          simp only [List.size_toArray, ho, Nat.sub_mul]
          have : len * i.size ≤ a * i.size := Nat.mul_le_mul_right _ (Nat.le_of_not_lt h)
          omega
        rw [hx]
        have := flat_at (f := fn) (n := m) (i := a - len) (by omega) hj
        simpa using this
  obtain ⟨A, nn, c, rfl, hd⟩ := hown
  rcases hv with ⟨hv, rfl⟩ | ⟨ad, c1, hv, hcell⟩
  · cases hv
    have hr := run_append_nil (P := P) w t ty e i z0 ht hi hz0 ⟨q, p, none⟩ m c' (flat fn m i.size) hnl hnews hm (by omega) (by simp only [Nat.zero_add] at hb; omega)
    have hf := fresh [] 0 (by simp) (fun a j h => by omega) (by omega)
    simp only [Nat.zero_add] at hf ⊢
    refine ⟨_, _, hr, ?_⟩
    simpa using hf
  · cases hv
    by_cases hroom : len + m ≤ c
    · rcases hd with ⟨rfl, _⟩ | ⟨g, cur, k, h5, h6, h7, h8, h9, h10, h11, h12, h13⟩
      · omega
      · cases h5
        rw [h1] at h10
        cases h10
        have hfit : len * i.size + (flat fn m i.size).length ≤ cur.size := by
          rw [hnl, h11, ← Nat.add_mul]; exact Nat.mul_le_mul_right _ hroom
        have hr := run_append_room (P := P) w t ty e i ht hi g len c cur h7 ⟨q, p, none⟩ m c' (flat fn m i.size) hnl hnews hone hroom hfit
        have hlk : len * i.size ≤ cur.size := by omega
        refine ⟨_, _, hr, ⟨⟨g, c, _, rfl, setRow_heap w g cur _ e (0, 0) h7, hroom, h9, ?_, ?_, .inr ⟨by rw [spare_some (by omega)], h6, h13, setRow_keep rfl, ?_⟩⟩⟩⟩
        · simp only [List.size_toArray, List.length_append, List.length_take, List.length_drop, Array.length_toList]; omega
        · intro a j ha hj
          rw [cell_of_row _ g _ _ e (0, 0) (setRow_heap w g cur _ e (0, 0) h7)]
          simp only [List.getElem?_toArray]
          have hidx := idx_lt ha hj
          rw [Nat.add_mul] at hidx
          have htl : (cur.toList.take (len * i.size)).length = len * i.size := by simp; omega
          rw [List.getElem?_append_left (by simp only [List.length_append, htl, hnl]; omega)]
          by_cases h : a < len
          · rw [if_pos h, List.getElem?_append_left (by rw [htl]; exact idx_lt h hj), List.getElem?_take, if_pos (idx_lt h hj)]
            have := hcell a j h hj
            rw [Addr.add_lit, Nat.zero_add, cell_of_row w g _ cur e (0, 0) h7] at this
            simpa using this
          · have hge : len * i.size ≤ a * i.size := Nat.mul_le_mul_right _ (Nat.le_of_not_lt h)
            rw [if_neg h, List.getElem?_append_right (by rw [htl]; omega), htl]
            have hx : a * i.size + j - len * i.size = (a - len) * i.size + j := by rw [Nat.sub_mul]; omega
            rw [hx]
            exact flat_at (by omega) hj
        · intro b' o' hz'
          by_cases hbg : b' = g
          · subst hbg
            have ho' := h12 _ hz'
            rw [cell_of_row _ b' _ _ e (0, 0) (setRow_heap w b' cur _ e (0, 0) h7), cell_of_row w b' _ cur e (0, 0) h7]
            simp only [List.getElem?_toArray]
            rw [List.append_assoc, List.getElem?_append_left (by simp; omega), List.getElem?_take, if_pos ho']
            simp
          · exact World.cell?_of_block (w := w) (setRow_other w g b' _ hbg)
    · have hol : ∀ j u, (flat fo len i.size)[j]? = some u → w.cell? (ad.add j) = some u := by
        intro j u h
        obtain ⟨hj, rfl⟩ := flat_get h
        obtain ⟨a1, a2, a3⟩ := divmod hj
        have := hcell _ _ a1 a2
        rw [a3] at this
        exact this
      have hr := run_append_grow (P := P) w t ty e i z0 ht hi hz0 ad len c (flat fo len i.size) (flat_len _ _ _) hol ⟨q, p, none⟩ m c' (flat fn m i.size) hnl hnews (by omega) (by omega) (growslice_fits (by omega) hb)
      exact ⟨_, _, hr, fresh (flat fo len i.size) c (flat_len _ _ _) (fun a j h hj => flat_at h hj) (by omega)⟩
end
end Go.Proofs.Ytjfaafnngloblaa.Ev
