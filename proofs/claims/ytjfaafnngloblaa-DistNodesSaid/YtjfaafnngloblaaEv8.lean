/- What new blocks and stores do to what is held. No condition. -/
import Derived.Test.YtjfaafnngloblaaEv7
namespace Go.Proofs.Ytjfaafnngloblaa.Ev
open Go
set_option linter.unusedVariables false
set_option linter.unusedSimpArgs false
section
variable {P : Program} {w0 : World} {Z0 : Zs} {M0 : Nat → Prop} {Z Z' : Zs} {β : List Nat} {γ : List Value} {S : Obs} {T : Toks} {w w' : World}
abbrev Grow (w w' : World) : Prop := Keep (fun _ => False) w w'
theorem Keep.weak {M M' : Nat → Prop} (h : Keep M w w') (hm : ∀ k, k < w.heap.size → M k → M' k) : Keep M' w w' :=
  ⟨h.os, h.tape, h.output, h.size, fun k hk hn => h.block k hk fun hx => hn (hm k hk hx)⟩
theorem Grow.old (h : Grow w w') {k : Nat} (hk : k < w.heap.size) : w'.heap[k]? = w.heap[k]? := h.block k hk (fun h => h)
theorem Grow.cell (h : Grow w w') {b o : Nat} (hb : b < w.heap.size) : w'.cell? ⟨b, o, none⟩ = w.cell? ⟨b, o, none⟩ := World.cell?_of_block (w := w) (h.old hb)
theorem lt_of_heap {g : Nat} {x : Obj} (h : w.heap[g]? = some x) : g < w.heap.size := (Array.getElem?_eq_some_iff.1 h).1
theorem OwnS.grow {β' : List Nat} {n0 : Nat} {e : TypeId} {v : Value} (h : OwnS P Z β M0 n0 w e v) (G : Grow w w') (h2 : ∀ b o, Z' b o → Z b o ∨ w.heap.size ≤ b) (h3 : ∀ g ∈ β', g ∈ β ∨ w.heap.size ≤ g) : OwnS P Z' β' M0 n0 w' e v := by
  obtain ⟨a, n, c, rfl, h⟩ := h
  refine ⟨a, n, c, rfl, ?_⟩
  rcases h with h | ⟨g, cur, k, b1, b2, b3, b4, b5, b6, b7, b8, b9⟩
  · exact .inl h
  · have hg := lt_of_heap b3
    refine .inr ⟨g, cur, k, b1, b2, (G.old hg).trans b3, b4, b5, b6, b7, fun o hz => ?_, fun hm => ?_⟩
    · rcases h2 g o hz with h | h
      · exact b8 o h
      · omega
    · rcases h3 g hm with h | h
      · exact b9 h
      · omega
/-- New blocks, some of them for ever as they are. -/
theorem EN.grow (E : EN P w0 Z0 M0 Z β γ S T w) (G : Grow w w') (h1 : ∀ b o, Z b o → Z' b o) (h2 : ∀ b o, Z' b o → Z b o ∨ w.heap.size ≤ b) (h3 : ∀ b o, Z' b o → b < w'.heap.size) :
    EN P w0 Z0 M0 Z' β γ S T w' ∧ VX Z Z' β β γ γ T T w w' := by
  have X : VX Z Z' β β γ γ T T w w' := VX.ofZ ⟨h1, fun b o h => G.cell (E.zs b o h)⟩ β γ T
  refine ⟨⟨E.kp.trans (G.weak fun _ _ h => h.elim), E.zc.trans X.z, ?_, h3, E.bl, E.gl, ?_, E.bi, ?_, E.ti⟩, X⟩
  · intro b o hz hb
    rcases h2 b o hz with h | h
    · exact E.zn b o h hb
    · have := E.kp.size; omega
  · intro id o ho
    obtain ⟨g, cur, e, a1, a2, a3, a4, a5, a6, a7⟩ := E.ob id o ho
    have hg := lt_of_heap a3
    refine ⟨g, cur, e, a1, a2, (G.old hg).trans a3, a4, fun j hj => (a5 j hj).ext X, fun p hp => ?_, a7⟩
    rcases h2 g p hp with h | h
    · exact a6 p h
    · omega
  · intro τ e he
    obtain ⟨v, hv, h⟩ := E.tk τ e he
    exact ⟨v, hv, h.grow G h2 (fun g hg => .inl hg)⟩
theorem grow_alloc (w : World) (o : Obj) : Grow w (w.alloc o) := ⟨rfl, rfl, rfl, by simp, fun k hk _ => heap_alloc_old w o k hk⟩
theorem grow_drew (w : World) : Grow w w.drew := ⟨rfl, rfl, rfl, Nat.le_refl _, fun _ _ _ => rfl⟩
theorem getD_snoc_lt {α : Type} {l : List α} {x d : α} {i : Nat} (h : i < l.length) : (l ++ [x]).getD i d = l.getD i d := by
  simp [List.getD_eq_getElem?_getD, List.getElem?_append_left h]
/-- One object more. -/
theorem EN.new (E : EN P w0 Z0 M0 Z β γ S T w) {cs : List AV} {cur : Array Value} {e : TypeId} (hr : RL P Z β γ T w cs cur.toList) :
    EN P w0 Z0 M0 Z (β ++ [w.heap.size]) γ (S ++ [⟨false, cs⟩]) T (w.alloc (.cells cur e)) ∧ VX Z Z β (β ++ [w.heap.size]) γ γ T T w (w.alloc (.cells cur e)) := by
  have G := grow_alloc w (.cells cur e)
  obtain ⟨E', X'⟩ := E.grow (Z' := Z) G (fun _ _ h => h) (fun _ _ h => .inl h) (fun b o h => by have := E.zs b o h; simp; omega)
  have hfresh : ∀ (i : Nat) (g : Nat), β[i]? = some g → g < w.heap.size := by
    intro i g hg
    have hi : i < S.length := by rw [← E.bl]; exact (List.getElem?_eq_some_iff.1 hg).1
    obtain ⟨g', cur', e', a1, _, a3, _⟩ := E.ob i S[i] (List.getElem?_eq_getElem hi)
    rw [hg] at a1
    obtain rfl := Option.some.inj a1
    exact lt_of_heap a3
  have X : VX Z Z β (β ++ [w.heap.size]) γ γ T T w (w.alloc (.cells cur e)) := ⟨X'.z, fun id g h => by
    rw [List.getElem?_append_left (List.getElem?_eq_some_iff.1 h).1]; exact h, X'.l, X'.t⟩
  have X2 : VX Z Z β (β ++ [w.heap.size]) γ γ T T (w.alloc (.cells cur e)) (w.alloc (.cells cur e)) := ⟨.refl _ _, X.b, Nat.le_refl _, fun τ e _ h => ⟨h, rfl⟩⟩
  refine ⟨⟨E'.kp, E'.zc, E'.zn, E'.zs, by simp [E.bl], E.gl, ?_, ?_, ?_, E.ti⟩, X⟩
  · intro id o ho
    by_cases hid : id < S.length
    · rw [List.getElem?_append_left hid] at ho
      obtain ⟨g, cur', e', a1, a2, a3, a4, a5, a6, a7⟩ := E'.ob id o ho
      exact ⟨g, cur', e', X.b _ _ a1, a2, a3, a4, fun j hj => (a5 j hj).ext X2, a6, a7⟩
    · rw [List.getElem?_append_right (by omega)] at ho
      obtain ⟨h0, rfl⟩ : id - S.length = 0 ∧ (⟨false, cs⟩ : Ob) = o := by
        cases hd : id - S.length with
        | zero => rw [hd] at ho; exact ⟨rfl, by simpa using ho⟩
        | succ n => rw [hd] at ho; simp at ho
      have hid' : id = β.length := by rw [E.bl]; omega
      refine ⟨w.heap.size, cur, e, by rw [hid', List.getElem?_append_right (Nat.le_refl _)]; simp, .inr E.kp.size, heap_alloc_new w _, by simpa using hr.1, fun j hj => ?_, fun p hz => ?_, fun h => by cases h⟩
      · have := hr.2 j hj
        have h2 := R1.ext X this
        simpa [List.getD_eq_getElem?_getD, Array.getD_eq_getD_getElem?] using h2
      · have := E.zs _ _ hz; omega
  · intro i j g hi hj
    by_cases h1 : i < β.length
    · rw [List.getElem?_append_left h1] at hi
      by_cases h2 : j < β.length
      · rw [List.getElem?_append_left h2] at hj; exact E.bi i j g hi hj
      · have hl := hfresh i g hi
        rw [List.getElem?_append_right (by omega)] at hj
        cases hd : j - β.length with
        | zero => rw [hd] at hj; simp at hj; omega
        | succ n => rw [hd] at hj; simp at hj
    · rw [List.getElem?_append_right (by omega)] at hi
      cases hd : i - β.length with
      | succ n => rw [hd] at hi; simp at hi
      | zero =>
        rw [hd] at hi
        have hg : w.heap.size = g := by simpa using hi
        by_cases h2 : j < β.length
        · rw [List.getElem?_append_left h2] at hj
          have := hfresh j g hj; omega
        · rw [List.getElem?_append_right (by omega)] at hj
          cases hd' : j - β.length with
          | zero => omega
          | succ n => rw [hd'] at hj; simp at hj
  · intro τ f hf
    obtain ⟨v, hv, h⟩ := E.tk τ f hf
    exact ⟨v, hv, h.grow G (fun _ _ h => .inl h) (fun g hg => by
      rcases List.mem_append.1 hg with hm | hm
      · exact .inl hm
      · exact .inr (by simp at hm; omega))⟩
theorem setRow_keep {M : Nat → Prop} {g : Nat} {cs : Array Value} (h : M g) : Keep M w (w.setRow g cs) :=
  ⟨rfl, rfl, rfl, by simp, fun k _ hk => setRow_other w g k cs (fun e => hk (e ▸ h))⟩
/-- A store into an object. -/
theorem EN.store (E : EN P w0 Z0 M0 Z β γ S T w) {id g : Nat} {o : Ob} {cur : Array Value} {e : TypeId} (ho : S[id]? = some o) (hg : β[id]? = some g) (hh : w.heap[g]? = some (.cells cur e (0, 0)))
    {cs : List AV} {ys : Array Value} (hl : ys.size = cur.size) (hr : RL P Z β γ T w cs ys.toList) (hd : o.d = true → cs.all d1 = true) :
    EN P w0 Z0 M0 Z β γ (S.set id ⟨o.d, cs⟩) T (w.setRow g ys) ∧ VX Z Z β β γ γ T T w (w.setRow g ys) := by
  obtain ⟨g', cur', e', a1, a2, a3, a4, a5, a6, a7⟩ := E.ob id o ho
  rw [hg] at a1
  obtain rfl := Option.some.inj a1
  rw [hh] at a3
  have hoth : ∀ k, k ≠ g → (w.setRow g ys).heap[k]? = w.heap[k]? := fun k hk => setRow_other w g k ys hk
  have X : VX Z Z β β γ γ T T w (w.setRow g ys) := VX.ofZ ⟨fun _ _ h => h, fun b p hz => World.cell?_of_block (w := w) (hoth b (fun h => a6 p (h ▸ hz)))⟩ β γ T
  refine ⟨⟨?_, E.zc.trans X.z, E.zn, fun b p h => by simpa using E.zs b p h, by simp [E.bl], E.gl, ?_, E.bi, ?_, E.ti⟩, X⟩
  · refine ⟨E.kp.os, E.kp.tape, E.kp.output, by simpa using E.kp.size, fun k hk hn => ?_⟩
    rw [hoth k (by rintro rfl; rcases a2 with h | h; exact hn h; omega)]
    exact E.kp.block k hk hn
  · intro i o' hi
    by_cases hid : i = id
    · subst hid
      have hlt : i < S.length := (List.getElem?_eq_some_iff.1 ho).1
      rw [List.getElem?_set_self hlt] at hi
      obtain rfl := Option.some.inj hi
      refine ⟨g, ys, e, hg, a2, setRow_heap w g cur ys e (0, 0) hh, by simpa using hr.1, fun j hj => ?_, a6, hd⟩
      have := R1.ext X (hr.2 j hj)
      simpa [List.getD_eq_getElem?_getD, Array.getD_eq_getD_getElem?] using this
    · rw [List.getElem?_set_ne (Ne.symm hid)] at hi
      obtain ⟨g1, cur1, e1, b1, b2, b3, b4, b5, b6, b7⟩ := E.ob i o' hi
      have hne : g1 ≠ g := fun h => hid (E.bi i id g (h ▸ b1) hg)
      exact ⟨g1, cur1, e1, b1, b2, (hoth g1 hne).trans b3, b4, fun j hj => (b5 j hj).ext X, b6, b7⟩
  · intro τ f hf
    obtain ⟨v, hv, a, n, c, rfl, h⟩ := E.tk τ f hf
    refine ⟨_, hv, a, n, c, rfl, ?_⟩
    rcases h with h | ⟨g1, cur1, k, b1, b2, b3, b4, b5, b6, b7, b8, b9⟩
    · exact .inl h
    · have hne : g1 ≠ g := by rintro rfl; exact b9 (List.mem_of_getElem? hg)
      exact .inr ⟨g1, cur1, k, b1, b2, (hoth g1 hne).trans b3, b4, b5, b6, b7, b8, b9⟩
theorem one_cells {a : AV} {v : Value} (h : R3 Z β γ T w P a v) (ho : a.cells.all one = true) : ∀ u ∈ v.cells.toList, u.oneCell' = true := by
  have hr := h.rl ho
  intro u hu
  obtain ⟨j, hj, rfl⟩ := List.mem_iff_getElem.1 hu
  have hj' : j < a.cells.length := by rw [hr.1]; exact hj
  have h1 := hr.2 j hj'
  have h2 := one_cell h1 (all_getD ho hj')
  simpa [List.getD_eq_getElem?_getD, List.getElem?_eq_getElem hj] using h2
theorem store_run (E : EN P w0 Z0 M0 Z β γ S T w) {t : TypeId} {x y : AV} {u v : Value} {n : Nat} {S' : Obs} (hx : R3 Z β γ T w P x u) (hy : R3 Z β γ T w P y v) (h1 : tsz P t = some n) (hl : y.cells.length = n) (h : wrc S x y.cells = some S') :
    ∃ w', (Instr.storeAt t u v).run P w = .ok () w' ∧ EN P w0 Z0 M0 Z β γ S' T w' ∧ VX Z Z β β γ γ T T w w' := by
  cases x with
  | ptr id off =>
    simp only [wrc] at h
    obtain ⟨g, hg, rfl⟩ := hx
    split at h
    case h_2 => cases h
    rename_i o ho
    split at h
    case isFalse => cases h
    rename_i hc
    obtain ⟨hle, hall⟩ := hc
    simp only [Bool.and_eq_true, Bool.or_eq_true, Bool.not_eq_true'] at hall
    simp only [Option.some.injEq] at h
    subst h
    obtain ⟨g', cur, e, a1, a2, a3, a4, a5, a6, a7⟩ := E.ob id o ho
    rw [hg] at a1
    obtain rfl := Option.some.inj a1
    have hrl := hy.rl hall.1
    have hvs : v.cells.toList.length = n := by rw [← hrl.1, hl]
    have hv2 : v.cells.size = n := by rw [← Array.length_toList, hvs]
    have hst := run_storeCells_at P g off e v.cells.toList 0 cur w a3 (by rw [hvs]; omega) (one_cells hy hall.1)
    have hrl0 : RL P Z β γ T w o.cs cur.toList := ⟨by simpa using a4, fun j hj => by
      have := a5 j hj
      simpa [List.getD_eq_getElem?_getD, Array.getD_eq_getD_getElem?] using this⟩
    have hsp := hrl0.splice hrl (o := off) hle
    obtain ⟨E', X'⟩ := E.store ho hg a3 (cs := splice o.cs off y.cells) (ys := (cur.toList.take off ++ (v.cells.toList ++ cur.toList.drop (off + v.cells.toList.length))).toArray) (by simp; omega) (by simpa using hsp) (fun hd => by
      have h0 := a7 hd
      have h2 : y.cells.all d1 = true := by rcases hall.2 with h | h; rw [hd] at h; cases h; exact h
      simp only [splice, List.all_append, Bool.and_eq_true]
      exact ⟨List.all_eq_true.mpr fun z hz => List.all_eq_true.mp h0 z (List.mem_of_mem_take hz), h2, List.all_eq_true.mpr fun z hz => List.all_eq_true.mp h0 z (List.mem_of_mem_drop hz)⟩)
    refine ⟨_, ?_, E', X'⟩
    have hsz : v.cells.size = n := by rw [← Array.length_toList, hvs]
    simp only [Nat.add_zero, List.append_assoc] at hst
    simp [Instr.storeAt, Instr.sureAddr, storeVar, hsz, run_sz h1, hst]
  | _ => simp [wrc] at h
end
end Go.Proofs.Ytjfaafnngloblaa.Ev
