/- Rows that a text lists. No condition. -/
import Derived.Test.YtplpmelpoajpdaaTlLib1
namespace Go.Proofs.Ytplpmelpoajpdaa.Ev
open Go
set_option linter.unusedSectionVars false
set_option linter.unusedVariables false
set_option linter.unusedSimpArgs false
section
variable [TVm] {P : Program} {w0 : World} {Z0 : Zs} {M0 : Nat → Prop} {Z Z' : Zs} {β : List Bk} {γ : List Value} {S : Obs} {T : Toks} {w w' : World}
abbrev Grow (w w' : World) : Prop := Keep (fun _ => False) w w'
theorem Keep.weak {M M' : Nat → Prop} (h : Keep M w w') (hm : ∀ k, k < w.heap.size → M k → M' k) : Keep M' w w' :=
  ⟨h.os, h.tape, h.output, h.size, fun k hk hn => h.block k hk fun hx => hn (hm k hk hx)⟩
theorem Grow.old (h : Grow w w') {k : Nat} (hk : k < w.heap.size) : w'.heap[k]? = w.heap[k]? := h.block k hk (fun h => h)
theorem Grow.cell (h : Grow w w') {b o : Nat} (hb : b < w.heap.size) : w'.cell? ⟨b, o, none⟩ = w.cell? ⟨b, o, none⟩ := World.cell?_of_block (w := w) (h.old hb)
theorem lt_of_heap {g : Nat} {x : Obj} (h : w.heap[g]? = some x) : g < w.heap.size := (Array.getElem?_eq_some_iff.1 h).1
theorem OwnS.grow {B B' : Nat → Prop} {n0 : Nat} {e : TypeId} {v : Value} (h : OwnS P Z B M0 n0 w e v) (G : Grow w w') (h2 : ∀ b o, Z' b o → Z b o ∨ w.heap.size ≤ b) (h3 : ∀ g, B' g → B g ∨ w.heap.size ≤ g) : OwnS P Z' B' M0 n0 w' e v := by
  obtain ⟨a, n, c, rfl, h⟩ := h
  refine ⟨a, n, c, rfl, ?_⟩
  rcases h with h | ⟨g, cur, k, b1, b2, b3, b4, b5, b6, b7, b8, b9⟩
  · exact .inl h
  · have hg := lt_of_heap b3
    refine .inr ⟨g, cur, k, b1, b2, (G.old hg).trans b3, b4, b5, b6, b7, fun o hz => ?_, fun hm => ?_⟩
    · rcases h2 g o hz with h | h
      · exact b8 o h
      · omega
    · rcases h3 g hm with h | h
      · exact b9 h
      · omega
/-- New blocks, some of them for ever as they are. -/
theorem EN.grow (E : EN P w0 Z0 M0 Z β γ S T w) (G : Grow w w') (h1 : ∀ b o, Z b o → Z' b o) (h2 : ∀ b o, Z' b o → Z b o ∨ w.heap.size ≤ b) (h3 : ∀ b o, Z' b o → b < w'.heap.size) :
    EN P w0 Z0 M0 Z' β γ S T w' ∧ VX Z Z' β β γ γ T T w w' := by
  have X : VX Z Z' β β γ γ T T w w' := VX.ofZ ⟨h1, fun b o h => G.cell (E.zs b o h)⟩ β γ T
  refine ⟨⟨E.kp.trans (G.weak fun _ _ h => h.elim), E.zc.trans X.z, ?_, h3, E.bl, E.gl, ?_, E.bi, ?_, E.ti⟩, X⟩
  · intro b o hz hb
    rcases h2 b o hz with h | h
    · exact E.zn b o h hb
    · have := E.kp.size; omega
  · intro id o ho
    intro hlv
    obtain ⟨b, a1, a2, a3, a4, a5⟩ := E.ob id o ho hlv
    refine ⟨b, a1, a2, Nat.lt_of_lt_of_le a3 G.size, fun p hp => ?_, a5.ext X (G.old a3)⟩
    rcases h2 b.g p hp with h | h
    · exact a4 p h
    · omega
  · intro τ e he
    obtain ⟨v, hv, h⟩ := E.tk τ e he
    exact ⟨v, hv, h.grow G h2 (fun g hg => .inl hg)⟩
theorem grow_alloc (w : World) (o : Obj) : Grow w (w.alloc o) := ⟨rfl, rfl, rfl, by simp, fun k hk _ => heap_alloc_old w o k hk⟩
theorem grow_drew (w : World) : Grow w w.drew := ⟨rfl, rfl, rfl, Nat.le_refl _, fun _ _ _ => rfl⟩
theorem getD_snoc_lt {α : Type} {l : List α} {x d : α} {i : Nat} (h : i < l.length) : (l ++ [x]).getD i d = l.getD i d := by
  simp [List.getD_eq_getElem?_getD, List.getElem?_append_left h]
theorem EN.lb_lt (E : EN P w0 Z0 M0 Z β γ S T w) {g : Nat} (h : LB S β g) : g < w.heap.size := by
  obtain ⟨id, o, b, h1, h2, h3, rfl⟩ := h
  obtain ⟨b', a1, _, a3, _⟩ := E.ob id o h1 h2
  rw [h3] at a1
  obtain rfl := Option.some.inj a1
  exact a3
/-- One object more. -/
theorem EN.new' (E : EN P w0 Z0 M0 Z β γ S T w) {o : Ob} {bk : Bk} (G : Grow w w') (hg : w.heap.size ≤ bk.g ∧ bk.g < w'.heap.size) (hc : VX Z Z β (β ++ [bk]) γ γ T T w w' → Cont P Z (β ++ [bk]) γ T w' o bk) :
    EN P w0 Z0 M0 Z (β ++ [bk]) γ (S ++ [o]) T w' ∧ VX Z Z β (β ++ [bk]) γ γ T T w w' := by
  obtain ⟨E', X'⟩ := E.grow (Z' := Z) G (fun _ _ h => h) (fun _ _ h => .inl h) (fun b p h => by have := E.zs b p h; have := G.size; omega)
  have X : VX Z Z β (β ++ [bk]) γ γ T T w w' := ⟨X'.z, fun id b h => ⟨b, by
    rw [List.getElem?_append_left (List.getElem?_eq_some_iff.1 h).1]; exact h, Nat.le_refl _, fun _ => rfl⟩, X'.l, X'.t⟩
  have hcont := hc X
  have X2 : VX Z Z β (β ++ [bk]) γ γ T T w' w' := ⟨.refl _ _, X.b, Nat.le_refl _, fun τ e _ h => ⟨h, rfl⟩⟩
  have hold : ∀ (i : Nat) o', (S ++ [o])[i]? = some o' → (i < S.length ∧ S[i]? = some o') ∨ (i = S.length ∧ o' = o) := by
    intro i o' h
    by_cases hi : i < S.length
    · rw [List.getElem?_append_left hi] at h; exact .inl ⟨hi, h⟩
    · rw [List.getElem?_append_right (by omega)] at h
      cases hd : i - S.length with
      | zero => rw [hd] at h; exact .inr ⟨by omega, by simpa using h.symm⟩
      | succ n => rw [hd] at h; simp at h
  have hnb : (β ++ [bk])[S.length]? = some bk := by rw [← E.bl, List.getElem?_append_right (Nat.le_refl _)]; simp
  have hob : ∀ (i : Nat), i < S.length → (β ++ [bk])[i]? = β[i]? := fun i hi => List.getElem?_append_left (by rw [E.bl]; exact hi)
  refine ⟨⟨E'.kp, E'.zc, E'.zn, E'.zs, by simp [E.bl], E.gl, ?_, ?_, ?_, E.ti⟩, X⟩
  · intro id o' ho hlv
    rcases hold id o' ho with ⟨hi, ho⟩ | ⟨rfl, rfl⟩
    · obtain ⟨b, a1, a2, a3, a4, a5⟩ := E'.ob id o' ho hlv
      exact ⟨b, by rw [hob id hi]; exact a1, a2, a3, a4, a5.ext X2 rfl⟩
    · exact ⟨bk, hnb, .inr (by have := E.kp.size; omega), hg.2, fun p hz => by have := E.zs _ _ hz; omega, hcont⟩
  · intro i j oi oj bi bj hi hli hj hlj hbi hbj he
    rcases hold i oi hi with ⟨h1, hi1⟩ | ⟨rfl, rfl⟩
    · rw [hob i h1] at hbi
      rcases hold j oj hj with ⟨h2, hj1⟩ | ⟨rfl, rfl⟩
      · rw [hob j h2] at hbj
        exact E.bi i j oi oj bi bj hi1 hli hj1 hlj hbi hbj he
      · rw [hnb] at hbj
        obtain rfl := Option.some.inj hbj
        have := E.lb_lt ⟨i, oi, bi, hi1, hli, hbi, rfl⟩
        omega
    · rw [hnb] at hbi
      obtain rfl := Option.some.inj hbi
      rcases hold j oj hj with ⟨h2, hj1⟩ | ⟨rfl, rfl⟩
      · rw [hob j h2] at hbj
        have := E.lb_lt ⟨j, oj, bj, hj1, hlj, hbj, rfl⟩
        omega
      · rfl
  · intro τ f hf
    obtain ⟨v, hv, h⟩ := E.tk τ f hf
    exact ⟨v, hv, h.grow G (fun _ _ h => .inl h) (fun g hg' => by
      obtain ⟨i, o', b, h1, h2, h3, rfl⟩ := hg'
      rcases hold i o' h1 with ⟨hi, h1⟩ | ⟨rfl, rfl⟩
      · rw [hob i hi] at h3; exact .inl ⟨i, o', b, h1, h2, h3, rfl⟩
      · rw [hnb] at h3; obtain rfl := Option.some.inj h3; exact .inr (by omega))⟩
theorem EN.new (E : EN P w0 Z0 M0 Z β γ S T w) {o : Ob} {x : Obj} {bk : Bk} (hg : bk.g = w.heap.size) (hc : VX Z Z β (β ++ [bk]) γ γ T T w (w.alloc x) → Cont P Z (β ++ [bk]) γ T (w.alloc x) o bk) :
    EN P w0 Z0 M0 Z (β ++ [bk]) γ (S ++ [o]) T (w.alloc x) ∧ VX Z Z β (β ++ [bk]) γ γ T T w (w.alloc x) := E.new' (grow_alloc w x) (by rw [hg]; simp) hc
/-- An object that changes, in its block or in a new one. -/
theorem EN.put (E : EN P w0 Z0 M0 Z β γ S T w) {id : Nat} {o o' : Ob} {b b' : Bk} (ho : S[id]? = some o) (hlv : o.live = true) (hb : β[id]? = some b) (K : Keep (fun k => k = b.g) w w') (hg : b'.g = b.g ∨ (w.heap.size ≤ b'.g ∧ b'.g < w'.heap.size))
    (hv1 : b.v ≤ b'.v) (hv2 : b.v = b'.v → b' = b) (hc : VX Z Z β (β.set id b') γ γ T T w w' → Cont P Z (β.set id b') γ T w' o' b') :
    EN P w0 Z0 M0 Z (β.set id b') γ (S.set id o') T w' ∧ VX Z Z β (β.set id b') γ γ T T w w' := by
  obtain ⟨b1, a1, a2, a3, a4, a5⟩ := E.ob id o ho hlv
  rw [hb] at a1
  obtain rfl := Option.some.inj a1
  have hlt : id < S.length := (List.getElem?_eq_some_iff.1 ho).1
  have hltb : id < β.length := by rw [E.bl]; exact hlt
  have hoth : ∀ k, k < w.heap.size → k ≠ b.g → w'.heap[k]? = w.heap[k]? := fun k hk hn => K.block k hk hn
  have X : VX Z Z β (β.set id b') γ γ T T w w' := by
    refine ⟨⟨fun _ _ h => h, fun g p hz => World.cell?_of_block (w := w) (hoth g (E.zs g p hz) (fun h => a4 p (h ▸ hz)))⟩, fun i bi hi => ?_, Nat.le_refl _, fun τ e _ h => ⟨h, rfl⟩⟩
    by_cases hid : i = id
    · subst hid
      rw [hb] at hi
      obtain rfl := Option.some.inj hi
      exact ⟨b', List.getElem?_set_self hltb, hv1, hv2⟩
    · exact ⟨bi, by rw [List.getElem?_set_ne (Ne.symm hid)]; exact hi, Nat.le_refl _, fun _ => rfl⟩
  have hcont := hc X
  have hob : ∀ (i : Nat) oi, (S.set id o')[i]? = some oi → (i = id ∧ oi = o') ∨ (i ≠ id ∧ S[i]? = some oi) := by
    intro i oi h
    by_cases hid : i = id
    · subst hid; rw [List.getElem?_set_self hlt] at h; exact .inl ⟨rfl, (Option.some.inj h).symm⟩
    · rw [List.getElem?_set_ne (Ne.symm hid)] at h; exact .inr ⟨hid, h⟩
  have hbo : ∀ i, i ≠ id → (β.set id b')[i]? = β[i]? := fun i hi => List.getElem?_set_ne (Ne.symm hi)
  have hbs : (β.set id b')[id]? = some b' := List.getElem?_set_self hltb
  have hnew : ∀ g, g < w.heap.size → g = b'.g → b'.g = b.g := fun g h1 h2 => by rcases hg with h | h; exact h; omega
  refine ⟨⟨?_, E.zc.trans X.z, E.zn, fun g p h => by have := E.zs g p h; have := K.size; omega, by simp [E.bl], E.gl, ?_, ?_, ?_, E.ti⟩, X⟩
  · refine ⟨K.os.trans E.kp.os, K.tape.trans E.kp.tape, K.output.trans E.kp.output, Nat.le_trans E.kp.size K.size, fun k hk hn => ?_⟩
    rw [hoth k (Nat.lt_of_lt_of_le hk E.kp.size) (fun h => by subst h; rcases a2 with h | h; exact hn h; omega)]
    exact E.kp.block k hk hn
  · intro i oi hi hl
    rcases hob i oi hi with ⟨rfl, rfl⟩ | ⟨hid, hi⟩
    · refine ⟨b', hbs, ?_, ?_, ?_, hcont⟩
      · rcases hg with h | h
        · rw [h]; exact a2
        · exact .inr (by have := E.kp.size; omega)
      · rcases hg with h | h
        · rw [h]; exact Nat.lt_of_lt_of_le a3 K.size
        · exact h.2
      · intro p hz
        rcases hg with h | h
        · rw [h] at hz; exact a4 p hz
        · have := E.zs _ _ hz; omega
    · obtain ⟨bi, c1, c2, c3, c4, c5⟩ := E.ob i oi hi hl
      refine ⟨bi, by rw [hbo i hid]; exact c1, c2, Nat.lt_of_lt_of_le c3 K.size, c4, c5.ext X (hoth _ c3 fun h => hid (E.bi i id oi o bi b hi hl ho hlv c1 hb h))⟩
  · intro i j oi oj bi bj hi hli hj hlj hbi hbj he
    rcases hob i oi hi with ⟨e1, _⟩ | ⟨hid, hi1⟩
    · rcases hob j oj hj with ⟨e2, _⟩ | ⟨hjd, hj1⟩
      · omega
      · exfalso
        rw [e1, hbs] at hbi
        obtain rfl := Option.some.inj hbi
        rw [hbo j hjd] at hbj
        have h1 := E.lb_lt ⟨j, oj, bj, hj1, hlj, hbj, rfl⟩
        exact hjd (E.bi j id oj o bj b hj1 hlj ho hlv hbj hb (by rw [← he]; exact hnew _ h1 he.symm))
    · rw [hbo i hid] at hbi
      rcases hob j oj hj with ⟨e2, _⟩ | ⟨hjd, hj1⟩
      · exfalso
        rw [e2, hbs] at hbj
        obtain rfl := Option.some.inj hbj
        have h1 := E.lb_lt ⟨i, oi, bi, hi1, hli, hbi, rfl⟩
        exact hid (E.bi i id oi o bi b hi1 hli ho hlv hbi hb (by rw [he]; exact hnew _ h1 he))
      · rw [hbo j hjd] at hbj
        exact E.bi i j oi oj bi bj hi1 hli hj1 hlj hbi hbj he
  · intro τ f hf
    obtain ⟨v, hv, a, n, c, rfl, h⟩ := E.tk τ f hf
    refine ⟨_, hv, a, n, c, rfl, ?_⟩
    rcases h with h | ⟨g1, cur1, k, d1, d2, d3, d4, d5, d6, d7, d8, d9⟩
    · exact .inl h
    · have hlt1 := lt_of_heap d3
      have hne : g1 ≠ b.g := by rintro rfl; exact d9 ⟨id, o, b, ho, hlv, hb, rfl⟩
      refine .inr ⟨g1, cur1, k, d1, d2, (hoth g1 hlt1 hne).trans d3, d4, d5, d6, d7, d8, ?_⟩
      rintro ⟨i, oi, bi, h1, h2, h3, h4⟩
      rcases hob i oi h1 with ⟨rfl, rfl⟩ | ⟨hid, h1⟩
      · rw [hbs] at h3
        obtain rfl := Option.some.inj h3
        exact hne (by rw [← h4]; exact hnew g1 hlt1 h4.symm)
      · rw [hbo i hid] at h3
        exact d9 ⟨i, oi, bi, h1, h2, h3, h4⟩
theorem set_same {α : Type} {l : List α} {i : Nat} {a : α} (h : l[i]? = some a) : l.set i a = l := by
  apply List.ext_getElem?
  intro j
  by_cases hj : j = i
  · subst hj
    rw [List.getElem?_set_self (List.getElem?_eq_some_iff.1 h).1, h]
  · rw [List.getElem?_set_ne (Ne.symm hj)]
/-- .. in its block. -/
theorem EN.put0 (E : EN P w0 Z0 M0 Z β γ S T w) {id : Nat} {o o' : Ob} {b : Bk} (ho : S[id]? = some o) (hlv : o.live = true) (hb : β[id]? = some b) (K : Keep (fun k => k = b.g) w w') (hc : VX Z Z β β γ γ T T w w' → Cont P Z β γ T w' o' b) :
    EN P w0 Z0 M0 Z β γ (S.set id o') T w' ∧ VX Z Z β β γ γ T T w w' := by
  have h := E.put (b' := b) (o' := o') ho hlv hb K (.inl rfl) (Nat.le_refl _) (fun _ => rfl) (by rw [set_same hb]; exact hc)
  rwa [set_same hb] at h
/-- An object that is nobody's any more. -/
theorem EN.kill (E : EN P w0 Z0 M0 Z β γ S T w) (id : Nat) : EN P w0 Z0 M0 Z β γ (S.set id .dead) T w := by
  have hob : ∀ (i : Nat) oi, (S.set id .dead)[i]? = some oi → oi.live = true → i ≠ id ∧ S[i]? = some oi := by
    intro i oi h hl
    by_cases hid : i = id
    · subst hid
      have hlt : i < S.length := by simpa using (List.getElem?_eq_some_iff.1 h).1
      rw [List.getElem?_set_self hlt] at h
      obtain rfl := Option.some.inj h
      cases hl
    · rw [List.getElem?_set_ne (Ne.symm hid)] at h; exact ⟨hid, h⟩
  refine ⟨E.kp, E.zc, E.zn, E.zs, by simp [E.bl], E.gl, fun i o hi hl => E.ob i o (hob i o hi hl).2 hl, fun i j oi oj bi bj hi hli hj hlj => E.bi i j oi oj bi bj (hob i oi hi hli).2 hli (hob j oj hj hlj).2 hlj, fun τ f hf => ?_, E.ti⟩
  obtain ⟨v, hv, a, n, c, rfl, h⟩ := E.tk τ f hf
  refine ⟨_, hv, a, n, c, rfl, ?_⟩
  rcases h with h | ⟨g1, cur1, k, d1, d2, d3, d4, d5, d6, d7, d8, d9⟩
  · exact .inl h
  · refine .inr ⟨g1, cur1, k, d1, d2, d3, d4, d5, d6, d7, d8, ?_⟩
    rintro ⟨i, oi, bi, h1, h2, h3, h4⟩
    exact d9 ⟨i, oi, bi, (hob i oi h1 h2).2, h2, h3, h4⟩
/-- A row that nobody writes any more. -/
theorem EN.freeze (E : EN P w0 Z0 M0 Z β γ S T w) {id : Nat} {d : Bool} {v k : Nat} {e : TypeId} {l : List AV} {b : Bk} (m : Nat) (ho : S[id]? = some (.row d v k e l)) (hb : β[id]? = some b) :
    EN P w0 Z0 M0 (fun g p => Z g p ∨ (g = b.g ∧ p < m * k)) β γ (S.set id .dead) T w ∧ VX Z (fun g p => Z g p ∨ (g = b.g ∧ p < m * k)) β β γ γ T T w w := by
  obtain ⟨b1, a1, a2, a3, a4, a5⟩ := E.ob id _ ho rfl
  rw [hb] at a1
  obtain rfl := Option.some.inj a1
  have X : VX Z (fun g p => Z g p ∨ (g = b.g ∧ p < m * k)) β β γ γ T T w w := VX.ofZ ⟨fun _ _ h => .inl h, fun _ _ _ => rfl⟩ β γ T
  have E' := E.kill id
  have hob : ∀ (i : Nat) oi, (S.set id .dead)[i]? = some oi → oi.live = true → i ≠ id ∧ S[i]? = some oi := by
    intro i oi h hl
    by_cases hid : i = id
    · subst hid
      have hlt : i < S.length := by simpa using (List.getElem?_eq_some_iff.1 h).1
      rw [List.getElem?_set_self hlt] at h
      obtain rfl := Option.some.inj h
      cases hl
    · rw [List.getElem?_set_ne (Ne.symm hid)] at h; exact ⟨hid, h⟩
  refine ⟨⟨E'.kp, E'.zc.trans X.z, ?_, ?_, E'.bl, E'.gl, ?_, E'.bi, ?_, E'.ti⟩, X⟩
  · intro g p hz hlt
    rcases hz with hz | ⟨rfl, _⟩
    · exact E.zn g p hz hlt
    · rcases a2 with h | h
      · exact .inr h
      · omega
  · intro g p hz
    rcases hz with hz | ⟨rfl, _⟩
    · exact E.zs g p hz
    · exact a3
  · intro i oi hi hl
    obtain ⟨hid, hi⟩ := hob i oi hi hl
    obtain ⟨bi, c1, c2, c3, c4, c5⟩ := E.ob i oi hi hl
    refine ⟨bi, c1, c2, c3, fun p hz => ?_, c5.ext X rfl⟩
    rcases hz with hz | ⟨h, _⟩
    · exact c4 p hz
    · exact hid (E.bi i id oi _ bi b hi hl ho rfl c1 hb h)
  · intro τ f hf
    obtain ⟨u, hu, a, n, c, rfl, h⟩ := E'.tk τ f hf
    obtain ⟨u', hu', a', n', c', he, h'⟩ := E.tk τ f hf
    rw [hu] at hu'
    obtain rfl := Option.some.inj hu'
    cases he
    refine ⟨_, hu, a, n, c, rfl, ?_⟩
    rcases h with h | ⟨g1, cur1, k1, d1, d2, d3, d4, d5, d6, d7, d8, d9⟩
    · exact .inl h
    · rcases h' with h' | ⟨g2, cur2, k2, f1, f2, f3, f4, f5, f6, f7, f8, f9⟩
      · exact .inl h'
      · rw [d1] at f1
        cases f1
        refine .inr ⟨g1, cur1, k1, d1, d2, d3, d4, d5, d6, d7, fun p hz => ?_, d9⟩
        rcases hz with hz | ⟨rfl, _⟩
        · exact d8 p hz
        · exact absurd ⟨id, _, b, ho, rfl, hb, rfl⟩ f9
/-- .. is a list. -/
theorem EN.frozen (E : EN P w0 Z0 M0 Z β γ S T w) {id ver n : Nat} {k : Nat} {e : TypeId} {l : List AV} {b : Bk} {v : Value} (m : Nat) (ho : S[id]? = some (.row true ver k e l)) (hb : β[id]? = some b) (hn : n ≤ l.length) (hm : n ≤ m) (hx : R0 Z β γ T w P (.ms id ver n) v) :
    DR (fun g p => Z g p ∨ (g = b.g ∧ p < m * k)) w (.sl .no (l.take n)) v := by
  obtain ⟨b1, a1, a2, a3, a4, a5⟩ := E.ob id _ ho rfl
  rw [hb] at a1
  obtain rfl := Option.some.inj a1
  obtain ⟨h1, h2, h3, h4, h5, h6, h7, h8, cur, h9, h10, h11⟩ := a5
  obtain ⟨b2, A, C, c1, c2, rfl, c4, c5, c6⟩ := hx
  rw [hb] at c1
  obtain rfl := Option.some.inj c1
  obtain ⟨rfl, rfl⟩ := c6 h1
  have Zx : ZExt Z (fun g p => Z g p ∨ (g = b.g ∧ p < m * k)) w w := ⟨fun _ _ h => .inl h, fun _ _ _ => rfl⟩
  have hlen : (l.take n).length = n := by simp; omega
  have hget : ∀ i, i < n → (l.take n).getD i .dead = l.getD i .dead := fun i hi => by simp [List.getD_eq_getElem?_getD, List.getElem?_take, hi]
  have hk : ∀ i, i < l.length → (l.getD i .dead).cells.length = k := fun i hi => by
    rw [List.getD_eq_getElem?_getD, List.getElem?_eq_getElem hi]; exact h7 _ (List.getElem_mem hi)
  have := DR.sl (Z := fun g p => Z g p ∨ (g = b.g ∧ p < m * k)) (w := w) .no (l.take n) b.g 0 b.c k (fun i j => cur.getD (i * k + j) undef) (by rw [hlen]; exact c4) (fun i hi => by
    rw [hlen] at hi
    rw [hget i hi]; exact hk i (by omega)) (fun i j hi hj => by
    rw [hlen] at hi
    have h12 : i * k + j < cur.size := by
      rw [h10]
      have := Nat.mul_le_mul_right k (show i + 1 ≤ b.c by omega)
      rw [Nat.add_mul] at this; omega
    refine ⟨.inr ⟨rfl, ?_⟩, ?_⟩
    · have := Nat.mul_le_mul_right k (show i + 1 ≤ m by omega)
      rw [Nat.add_mul] at this; omega
    · rw [Nat.zero_add, cell_of_row w b.g _ cur e (0, 0) h9]
      simp [Array.getD_eq_getD_getElem?, Array.getElem?_eq_getElem h12]) (fun i j hi hj => by
    rw [hlen] at hi
    rw [hget i hi]
    have hd := h8 rfl
    have hdi : d2 (l.getD i .dead) = true := all_getD hd (by omega)
    have hR := h11 i j (by omega) hj
    refine (hR.dr ?_).ext Zx
    have hkk := hk i (by omega)
    generalize l.getD i .dead = q at hdi hkk ⊢
    cases q with
    | agg cs => exact all_getD (l := cs) hdi (by rw [show cs.length = k from hkk]; exact hj)
    | _ =>
      have hj0 : j = 0 := by
        have : k = 1 := hkk.symm
        omega
      subst hj0
      exact hdi)
  rw [hlen] at this
  exact this
theorem one_cells {a : AV} {v : Value} (h : R3 Z β γ T w P a v) (ho : a.cells.all one = true) : ∀ u ∈ v.cells.toList, u.oneCell' = true := by
  have hr := h.rl ho
  intro u hu
  obtain ⟨j, hj, rfl⟩ := List.mem_iff_getElem.1 hu
  have hj' : j < a.cells.length := by rw [hr.1]; exact hj
  have h1 := hr.2 j hj'
  have h2 := one_cell h1 (all_getD ho hj')
  simpa [List.getD_eq_getElem?_getD, List.getElem?_eq_getElem hj] using h2
end
end Go.Proofs.Ytplpmelpoajpdaa.Ev
namespace Go.Proofs.Ytplpmelpoajpdaa.Ev
open Go
set_option linter.unusedSectionVars false
set_option linter.unusedVariables false
set_option linter.unusedSimpArgs false
theorem getD_mid {α : Type} {l vs : List α} {p q : Nat} {d : α} (h : p + vs.length ≤ l.length) : (l.take p ++ (vs ++ l.drop (p + vs.length))).getD q d = if q < p then l.getD q d else if q < p + vs.length then vs.getD (q - p) d else l.getD q d := by
  have hl : (l.take p).length = p := by simp; omega
  by_cases h1 : q < p
  · rw [if_pos h1, List.getD_eq_getElem?_getD, List.getElem?_append_left (by omega), List.getElem?_take, if_pos h1, List.getD_eq_getElem?_getD]
  · rw [if_neg h1, List.getD_eq_getElem?_getD, List.getElem?_append_right (by omega), hl]
    by_cases h2 : q < p + vs.length
    · rw [if_pos h2, List.getElem?_append_left (by omega), List.getD_eq_getElem?_getD]
    · rw [if_neg h2, List.getElem?_append_right (by omega), List.getElem?_drop, List.getD_eq_getElem?_getD]
      congr 2; omega
theorem splice_getD {l cs : List AV} {o q : Nat} (h : o + cs.length ≤ l.length) : (splice l o cs).getD q .dead = if q < o then l.getD q .dead else if q < o + cs.length then cs.getD (q - o) .dead else l.getD q .dead := getD_mid h
theorem splice_len {l cs : List AV} {o : Nat} (h : o + cs.length ≤ l.length) : (splice l o cs).length = l.length := by
  simp [splice]; omega
theorem one_one {y : AV} (h : one y = true) : y.cells = [y] := by cases y <;> first | rfl | cases h
theorem ofCells_cells {x : AV} {cs : List AV} (hl : cs.length = x.cells.length) (h : (∀ c, x ≠ .agg c) → ∀ y ∈ cs, y.cells = [y]) : (ofCells x cs).cells = cs := by
  cases x with
  | agg c => rfl
  | _ =>
    match cs, hl with
    | [y], _ => exact h (fun c e => by cases e) y (by simp)
theorem killL_get {cs : List AV} : ∀ {S : Obs} {id : Nat}, cs.any (isMs id) = false → (killL cs S)[id]? = S[id]? := by
  induction cs with
  | nil => intro S id h; rfl
  | cons a cs ih =>
    intro S id h
    simp only [List.any_cons, Bool.or_eq_false_iff] at h
    simp only [killL]
    rw [ih h.2]
    cases a with
    | ms i v n =>
      have hne : i ≠ id := by simpa [isMs] using h.1
      exact List.getElem?_set_ne hne
    | _ => rfl
theorem killL_len {cs : List AV} : ∀ {S : Obs}, (killL cs S).length = S.length := by
  induction cs with
  | nil => intro S; rfl
  | cons a cs ih =>
    intro S
    simp only [killL]
    rw [ih]
    cases a <;> simp [killA]
section
variable [TVm] {P : Program} {w0 : World} {Z0 : Zs} {M0 : Nat → Prop} {Z Z' : Zs} {β : List Bk} {γ : List Value} {S : Obs} {T : Toks} {w w' : World}
theorem cellsT_len {cs : List AV} : (cellsT cs).length = cs.length := by unfold cellsT; split <;> simp
theorem cellsT_d1 {cs : List AV} (h : cs.all d1 = true) : (cellsT cs).all d1 = true := by
  unfold cellsT
  split
  · exact h
  · rw [List.all_map]
    refine List.all_eq_true.mpr fun z hz => ?_
    have := List.all_eq_true.mp h z hz
    show d1 (t1 z) = true
    cases z with
    | fn f c =>
      simp only [d1, t1, List.all_map, List.all_eq_true] at this ⊢
      intro q hq
      have := this q hq
      show d0 (t0 q) = true
      cases q with
      | sl o l => cases o <;> rfl
      | _ => exact this
    | sl o l => cases o <;> rfl
    | _ => exact this
theorem cellsT_r {cs : List AV} {j : Nat} {v : Value} (hj : j < cs.length) (h : R1 Z β γ T w P (cs.getD j .dead) v) : R1 Z β (gT γ) (tT T) w P ((cellsT cs).getD j .dead) v := by
  unfold cellsT gT tT
  by_cases ht : TVm.tv = true
  · simp only [if_pos ht]; exact h
  · simp only [if_neg ht]; rw [getD_map_lt hj]; exact h.t1
theorem setRow_keep {M : Nat → Prop} {g : Nat} {cs : Array Value} (h : M g) : Keep M w (w.setRow g cs) :=
  ⟨rfl, rfl, rfl, by simp, fun k _ hk => setRow_other w g k cs (fun e => hk (e ▸ h))⟩
theorem RL.ext (X : VX Z Z' β β γ γ T T w w') {cs : List AV} {ys : List Value} (h : RL P Z β γ T w cs ys) : RL P Z' β γ T w' cs ys := ⟨h.1, fun j hj => (h.2 j hj).ext X⟩
theorem RL.cons {a : AV} {v : Value} {cs : List AV} {ys : List Value} (h1 : R1 Z β γ T w P a v) (h : RL P Z β γ T w cs ys) : RL P Z β γ T w (a :: cs) (v :: ys) := by
  refine ⟨by simp [h.1], fun j hj => ?_⟩
  cases j with
  | zero => exact h1
  | succ j => exact h.2 j (by simpa using hj)
theorem RL.tail {a : AV} {v : Value} {cs : List AV} {ys : List Value} (h : RL P Z β γ T w (a :: cs) (v :: ys)) : R1 Z β γ T w P a v ∧ RL P Z β γ T w cs ys :=
  ⟨h.2 0 (by simp), by simpa using h.1, fun j hj => h.2 (j + 1) (by simpa using hj)⟩
/-- Rows that are handed over, as lists. -/
theorem freezeL : ∀ (cs : List AV) {S : Obs} {Z : Zs}, EN P w0 Z0 M0 Z β γ S T w → msNd cs = true → ∀ (S0 : Obs), (∀ id, cs.any (isMs id) = true → S0[id]? = S[id]?) → (cs.map (fz0 S0 0)).all d1 = true → ∀ (ys : List Value), RL P Z β γ T w cs ys →
    ∃ Z', EN P w0 Z0 M0 Z' β γ (killL cs S) T w ∧ VX Z Z' β β γ γ T T w w ∧ RL P Z' β γ T w (cs.map (fz0 S0 0)) ys
  | [], S, Z, E, _, S0, _, _, ys, h => ⟨Z, E, .refl _ _ _ _ _, h⟩
  | a :: cs, S, Z, E, hnd, S0, hS, hall, ys, h => by
    cases ys with
    | nil => exact absurd h.1 (by simp)
    | cons v ys =>
      obtain ⟨h1, h2⟩ := h.tail
      simp only [msNd, Bool.and_eq_true] at hnd
      simp only [List.map_cons, List.all_cons, Bool.and_eq_true] at hall
      have other : (∀ id ver n, a ≠ .ms id ver n) → ∃ Z', EN P w0 Z0 M0 Z' β γ (killL (a :: cs) S) T w ∧ VX Z Z' β β γ γ T T w w ∧ RL P Z' β γ T w ((a :: cs).map (fz0 S0 0)) (v :: ys) := by
        intro hne
        have e1 : killA S a = S := by cases a <;> first | rfl | exact absurd rfl (hne _ _ _)
        have e2 : fz0 S0 0 a = a := by cases a <;> first | rfl | exact absurd rfl (hne _ _ _)
        obtain ⟨Z', E', X', h'⟩ := freezeL cs E hnd.2 S0 (fun id hid => hS id (by simp [hid])) hall.2 ys h2
        refine ⟨Z', by simp only [killL, e1]; exact E', X', ?_⟩
        rw [List.map_cons, e2]
        exact .cons (h1.ext X') h'
      cases a with
      | ms id ver n =>
        have hS0 := hS id (by simp [isMs])
        have hd := hall.1
        have hrow : ∃ k e l, rowA S0 id ver = some (true, k, e, l) ∧ n ≤ l.length ∧ fz0 S0 0 (.ms id ver n) = .sl .no (l.take n) := by
          simp only [fz0, Nat.zero_le, if_true] at hd ⊢
          split at hd
          · rename_i k e l hr
            split at hd
            · rename_i hn
              exact ⟨k, e, l, hr, hn, by simp [hn]⟩
            · simp [d1, d0] at hd
          · simp [d1, d0] at hd
        obtain ⟨k, e, l, hr, hn, hfz⟩ := hrow
        have hrS := rowA_inv hr
        simp only at hrS
        rw [hS0] at hrS
        obtain ⟨b, hb, _⟩ := E.ob id _ hrS rfl
        obtain ⟨E1, X1⟩ := E.freeze l.length hrS hb
        have hD := E.frozen l.length hrS hb hn hn (show R0 Z β γ T w P (.ms id ver n) v from h1)
        have hnd1 : cs.any (isMs id) = false := by simpa using hnd.1
        obtain ⟨Z', E', X', h'⟩ := freezeL cs E1 hnd.2 S0 (fun id' hid' => by
          have hne : id ≠ id' := by rintro rfl; rw [hnd1] at hid'; cases hid'
          rw [hS id' (by simp [hid']), List.getElem?_set_ne hne]) hall.2 ys (h2.ext X1)
        refine ⟨Z', E', X1.trans X', ?_⟩
        rw [List.map_cons, hfz]
        exact .cons ⟨hD.ext X'.z, trivial⟩ h'
      | _ => exact other (fun _ _ _ e => by cases e)
theorem getD_toList {α : Type} (a : Array α) (i : Nat) (d : α) : a.toList.getD i d = a.getD i d := by
  simp [List.getD_eq_getElem?_getD, Array.getD_eq_getD_getElem?]
theorem store_run (E : EN P w0 Z0 M0 Z β γ S T w) {t : TypeId} {x y : AV} {u v : Value} {n : Nat} {S' : Obs} (hx : R3 Z β γ T w P x u) (hy : R3 Z β γ T w P y v) (h1 : tsz P t = some n) (hl : y.cells.length = n) (h : wrc S x y.cells = some S') :
    ∃ w' Z', (Instr.storeAt t u v).run P w = .ok () w' ∧ EN P w0 Z0 M0 Z' β γ S' T w' ∧ VX Z Z' β β γ γ T T w w' := by
  have run : ∀ g off cur e, w.heap[g]? = some (.cells cur e (0, 0)) → u = .pointer (some ⟨g, off, none⟩) → v.cells.toList.length = n → off + n ≤ cur.size → (∀ z ∈ v.cells.toList, z.oneCell' = true) →
      (Instr.storeAt t u v).run P w = .ok () (w.setRow g (cur.toList.take off ++ (v.cells.toList ++ cur.toList.drop (off + v.cells.toList.length))).toArray) := by
    rintro g off cur e hh rfl hvs hle hone
    have hst := run_storeCells_at P g off e v.cells.toList 0 cur w hh (by rw [hvs]; omega) hone
    have hsz : v.cells.size = n := by rw [← Array.length_toList, hvs]
    simp only [Nat.add_zero, List.append_assoc] at hst
    simp [Instr.storeAt, Instr.sureAddr, storeVar, hsz, run_sz h1, hst]
  cases x with
  | ptr id off =>
    simp only [wrc] at h
    obtain ⟨b, ad, hb, rfl, had⟩ := hx
    split at h
    case h_2 => cases h
    rename_i d c ho
    split at h
    case isFalse => cases h
    rename_i hc
    obtain ⟨hle, hall⟩ := hc
    simp only [Bool.and_eq_true, Bool.or_eq_true, Bool.not_eq_true'] at hall
    simp only [Option.some.injEq] at h
    subst h
    obtain ⟨b', hb', a2, a3, a4, hv, hd1, cur, e, hh, hlc, hcc⟩ := E.ob id _ ho rfl
    obtain rfl : b = b' := by rw [hb] at hb'; exact Option.some.inj hb'
    obtain rfl := had hv
    have hrl := hy.rl hall.1
    have hvs : v.cells.toList.length = n := by rw [← hrl.1, hl]
    have hr := run b.g off cur e hh rfl hvs (by omega) (one_cells hy hall.1)
    have hlist : (cur.toList.take off ++ (v.cells.toList ++ cur.toList.drop (off + v.cells.toList.length))).length = cur.size := by simp; simp at hvs; omega
    have hget : ∀ q, (cur.toList.take off ++ (v.cells.toList ++ cur.toList.drop (off + v.cells.toList.length))).toArray.getD q undef = if q < off then cur.getD q undef else if q < off + n then v.cells.toList.getD (q - off) undef else cur.getD q undef := fun q => by
      rw [← getD_toList, List.toList_toArray, getD_mid (by rw [hvs, Array.length_toList]; omega), hvs, getD_toList cur]
    generalize (cur.toList.take off ++ (v.cells.toList ++ cur.toList.drop (off + v.cells.toList.length))) = A at hr hlist hget
    obtain ⟨E', X'⟩ := E.put0 (o' := .var d (splice c off (cellsT y.cells))) (w' := w.setRow b.g A.toArray) ho rfl hb (setRow_keep rfl) (fun X => ⟨hv, fun hd => by
      have h0 := hd1 hd
      have h2 : y.cells.all d1 = true := by rcases hall.2 with h | h; rw [hd] at h; cases h; exact h
      simp only [splice, List.all_append, Bool.and_eq_true]
      refine ⟨List.all_eq_true.mpr fun z hz => List.all_eq_true.mp h0 z (List.mem_of_mem_take hz), ?_, List.all_eq_true.mpr fun z hz => List.all_eq_true.mp h0 z (List.mem_of_mem_drop hz)⟩
      exact cellsT_d1 h2, A.toArray, e, setRow_heap w b.g cur _ e (0, 0) hh, by rw [splice_len (by rw [cellsT_len]; omega), List.size_toArray, hlist, hlc], fun j hj => by
        rw [splice_len (by rw [cellsT_len]; omega)] at hj
        have X0 := X.vars
        rw [splice_getD (by rw [cellsT_len]; omega), hget, cellsT_len, hl]
        split
        · exact (hcc j hj).ext X0
        · split
          · rename_i h3 h4
            have := cellsT_r (by omega) (hrl.2 (j - off) (by omega))
            exact this.ext X0
          · exact (hcc j hj).ext X0⟩)
    exact ⟨_, Z, hr, E', X'⟩
  | ep id ver i off =>
    simp only [wrc] at h
    obtain ⟨b, ad, hb, _, rfl, had⟩ := hx
    split at h
    case h_2 => cases h
    rename_i d ver' k e l ho
    split at h
    case h_2 => cases h
    rename_i q hq
    split at h
    case isFalse => cases h
    rename_i hc
    obtain ⟨rfl, hle, hall⟩ := hc
    simp only [Bool.and_eq_true, Bool.not_eq_true'] at hall
    obtain ⟨⟨⟨hone, hd⟩, hnot⟩, hnd⟩ := hall
    simp only [Option.some.injEq] at h
    subst h
    have hrl := hy.rl hone
    obtain ⟨Z1, E1, X1, hrl1⟩ := freezeL y.cells E hnd S (fun _ _ => rfl) hd _ hrl
    have ho1 : (killL y.cells S)[id]? = some (.row d ver' k e l) := by rw [killL_get hnot]; exact ho
    obtain ⟨b', hb', a2, a3, a4, hv, hk, hk0, hsz, hlc, hcm, hcells, hd2, cur, hh, hcs, hcc⟩ := E1.ob id _ ho1 rfl
    obtain rfl : b = b' := by rw [hb] at hb'; exact Option.some.inj hb'
    obtain rfl := had hv
    obtain ⟨hi, hqi⟩ := List.getElem?_eq_some_iff.1 hq
    have hqk : q.cells.length = k := hcells q (List.mem_of_getElem? hq)
    have hg : l.getD i .dead = q := by simp [List.getD_eq_getElem?_getD, hq]
    have hvs : v.cells.toList.length = n := by rw [← hrl.1, hl]
    have hik : i * k + k ≤ cur.size := by
      rw [hcs]
      have := Nat.mul_le_mul_right k (show i + 1 ≤ b.c from Nat.le_trans hi hlc)
      rw [Nat.add_mul] at this; omega
    have hr := run b.g (i * k + off) cur e hh (by rw [hk]) hvs (by omega) (one_cells hy hone)
    have hlist : (cur.toList.take (i * k + off) ++ (v.cells.toList ++ cur.toList.drop (i * k + off + v.cells.toList.length))).length = cur.size := by simp; simp at hvs; omega
    have hget : ∀ q, (cur.toList.take (i * k + off) ++ (v.cells.toList ++ cur.toList.drop (i * k + off + v.cells.toList.length))).toArray.getD q undef = if q < i * k + off then cur.getD q undef else if q < i * k + off + n then v.cells.toList.getD (q - (i * k + off)) undef else cur.getD q undef := fun q => by
      rw [← getD_toList, List.toList_toArray, getD_mid (by rw [hvs, Array.length_toList]; omega), hvs, getD_toList cur]
    generalize (cur.toList.take (i * k + off) ++ (v.cells.toList ++ cur.toList.drop (i * k + off + v.cells.toList.length))) = A at hr hlist hget
    let cs' := (y.cells.map (fz0 S 0)).map s1
    have hcl : cs'.length = n := by simp [cs', hl]
    have hspl : (splice q.cells off cs').length = k := by rw [splice_len (by omega), hqk]
    have hcsone : ∀ z ∈ cs', z.cells = [z] := by
      intro z hz
      simp only [cs', List.map_map, List.mem_map, Function.comp] at hz
      obtain ⟨z0, hz0, rfl⟩ := hz
      have hd0 : d1 (fz0 S 0 z0) = true := List.all_eq_true.mp hd _ (List.mem_map.mpr ⟨z0, hz0, rfl⟩)
      generalize fz0 S 0 z0 = z1 at hd0
      cases z1 <;> first | rfl | exact absurd hd0 (by simp [d1, d0])
    have hof : (ofCells q (splice q.cells off cs')).cells = splice q.cells off cs' := by
      refine ofCells_cells (by rw [hspl, hqk]) (fun hna z hz => ?_)
      have hqc : q.cells = [q] := by cases q <;> first | rfl | exact absurd rfl (hna _)
      simp only [splice, List.mem_append] at hz
      rcases hz with hz | hz | hz
      · have := List.mem_of_mem_take hz; rw [hqc] at this; simp at this; rw [this]; exact hqc
      · exact hcsone z hz
      · have := List.mem_of_mem_drop hz; rw [hqc] at this; simp at this; rw [this]; exact hqc
    have hset : ∀ i', i' < l.length → (l.set i (ofCells q (splice q.cells off cs'))).getD i' .dead = if i' = i then ofCells q (splice q.cells off cs') else l.getD i' .dead := by
      intro i' hi'
      by_cases e : i' = i
      · subst e; rw [if_pos rfl]; simp [List.getD_eq_getElem?_getD, hi']
      · rw [if_neg e]; simp [List.getD_eq_getElem?_getD, List.getElem?_set_ne (Ne.symm e)]
    obtain ⟨E', X'⟩ := E1.put0 (o' := .row d ver' k e (l.set i (ofCells q (splice q.cells off cs')))) (w' := w.setRow b.g A.toArray) ho1 rfl hb (setRow_keep rfl) (fun X => by
      have X0 : VX Z1 Z1 β β [] [] [] [] w (w.setRow b.g A.toArray) := ⟨X.z, X.b, Nat.le_refl _, fun _ _ h => absurd h (Nat.not_lt_zero _)⟩
      refine ⟨hv, hk, hk0, hsz, by simpa using hlc, hcm, fun z hz => ?_, fun hdt => ?_, A.toArray, setRow_heap w b.g cur _ e (0, 0) hh, by rw [List.size_toArray, hlist, hcs], fun i' j hi' hj => ?_⟩
      · rcases List.mem_or_eq_of_mem_set hz with h | h
        · exact hcells z h
        · rw [h, hof, hspl]
      · refine List.all_eq_true.mpr fun z hz => ?_
        rcases List.mem_or_eq_of_mem_set hz with h | h
        · exact List.all_eq_true.mp (hd2 hdt) z h
        · rw [h]
          have hqd : d2 q = true := List.all_eq_true.mp (hd2 hdt) q (List.mem_of_getElem? hq)
          have hqcs : ∀ z ∈ q.cells, d1 z = true := fun z hz => by
            obtain ⟨j, hj, rfl⟩ := List.mem_iff_getElem.1 hz
            cases q with
            | agg c => exact List.all_eq_true.mp hqd _ hz
            | _ =>
              have : j = 0 := by simpa [AV.cells] using hj
              subst this
              exact hqd
          have hall : (splice q.cells off cs').all d1 = true := by
            simp only [splice, List.all_append, Bool.and_eq_true]
            refine ⟨List.all_eq_true.mpr fun z hz => hqcs z (List.mem_of_mem_take hz), ?_, List.all_eq_true.mpr fun z hz => hqcs z (List.mem_of_mem_drop hz)⟩
            refine List.all_eq_true.mpr fun z hz => ?_
            simp only [cs', List.map_map, List.mem_map, Function.comp] at hz
            obtain ⟨z0, hz0, rfl⟩ := hz
            have hd0 : d1 (fz0 S 0 z0) = true := List.all_eq_true.mp hd _ (List.mem_map.mpr ⟨z0, hz0, rfl⟩)
            generalize fz0 S 0 z0 = z1 at hd0
            cases z1 with
            | fn f c =>
              simp only [d1, s1, List.all_map, List.all_eq_true] at hd0 ⊢
              intro q hq
              have := hd0 q hq
              show d0 (s0 q) = true
              cases q <;> first | exact this | rfl
            | _ => revert hd0; simp [d1, d0, s1, s0]
          cases q with
          | agg c => exact hall
          | _ =>
            have hk1 : k = 1 := hqk.symm
            match hm : splice _ off cs', hspl with
            | [z], _ =>
              rw [hm] at hall
              have hz1 : d1 z = true := by simpa using hall
              show d2 z = true
              cases z with
              | agg c => exact absurd hz1 (by simp [d1, d0])
              | _ => exact hz1
            | [], h0 => simp at h0; omega
            | _ :: _ :: _, h0 => simp at h0; omega
      · have hi2 : i' < l.length := by simpa using hi'
        rw [hset i' hi2, hget]
        have hold : ∀ q, q < l.length → R1 Z1 β [] [] (w.setRow b.g A.toArray) P ((l.getD q .dead).cells.getD j .dead) (cur.getD (q * k + j) undef) := fun q hq => (hcc q j hq hj).ext X0
        by_cases he : i' = i
        · subst he
          rw [if_pos rfl, hof, splice_getD (by rw [hcl, hqk]; omega), hcl]
          by_cases h5 : j < off
          · rw [if_pos h5, if_pos (by omega)]
            have := hold i' hi2; rw [hg] at this; exact this
          · rw [if_neg h5, if_neg (show ¬ (i' * k + j < i' * k + off) by omega)]
            by_cases h6 : j < off + n
            · rw [if_pos h6, if_pos (show i' * k + j < i' * k + off + n by omega)]
              have h7 : i' * k + j - (i' * k + off) = j - off := by omega
              rw [h7, getD_map_lt (by simp; omega)]
              have h8 := hrl1.2 (j - off) (by simp; omega)
              have h9 : d1 ((y.cells.map (fz0 S 0)).getD (j - off) .dead) = true := all_getD hd (by simp; omega)
              exact ((h8.dr h9).r1 (P := P) (β := β) (γ := []) (T := [])).ext X0
            · rw [if_neg h6, if_neg (show ¬ (i' * k + j < i' * k + off + n) by omega)]
              have := hold i' hi2; rw [hg] at this; exact this
        · rw [if_neg he]
          have hout : ¬ (i * k + off ≤ i' * k + j ∧ i' * k + j < i * k + off + n) := by
            rintro ⟨p1, p2⟩
            rcases Nat.lt_or_ge i' i with h | h
            · have := Nat.mul_le_mul_right k (show i' + 1 ≤ i from h)
              rw [Nat.add_mul] at this; omega
            · have := Nat.mul_le_mul_right k (show i + 1 ≤ i' by omega)
              rw [Nat.add_mul] at this; omega
          split
          · exact hold i' hi2
          · split
            · rename_i h6 h7; exact absurd ⟨by omega, h7⟩ hout
            · exact hold i' hi2)
    exact ⟨_, Z1, hr, E', X1.trans X'⟩
  | _ => simp [wrc] at h
end
end Go.Proofs.Ytplpmelpoajpdaa.Ev
namespace Go.Proofs.Ytplpmelpoajpdaa.Ev
open Go
set_option linter.unusedSectionVars false
set_option linter.unusedVariables false
set_option linter.unusedSimpArgs false
def flat (f : Nat → Nat → Value) (n k : Nat) : List Value := (List.range (n * k)).map fun q => f (q / k) (q % k)
theorem flat_len (f : Nat → Nat → Value) (n k : Nat) : (flat f n k).length = n * k := by simp [flat]
theorem flat_get {f : Nat → Nat → Value} {n k q : Nat} {u : Value} (h : (flat f n k)[q]? = some u) : q < n * k ∧ u = f (q / k) (q % k) := by
  unfold flat at h
  rw [List.getElem?_map] at h
  obtain ⟨i, hi, rfl⟩ := Option.map_eq_some_iff.1 h
  obtain ⟨h1, rfl⟩ := List.getElem?_eq_some_iff.1 hi
  simp only [List.length_range] at h1
  simp only [List.getElem_range]
  exact ⟨h1, trivial⟩
theorem idx_lt {i j n k : Nat} (hi : i < n) (hj : j < k) : i * k + j < n * k := by
  have : (i + 1) * k ≤ n * k := Nat.mul_le_mul_right k hi
  rw [Nat.add_mul] at this; omega
theorem flat_at {f : Nat → Nat → Value} {n k i j : Nat} (hi : i < n) (hj : j < k) : (flat f n k)[i * k + j]? = some (f i j) := by
  have hk : 0 < k := by omega
  unfold flat
  rw [List.getElem?_map, List.getElem?_range (idx_lt hi hj)]
  simp only [Option.map_some]
  rw [show i * k + j = j + k * i from by rw [Nat.mul_comm]; omega, Nat.add_mul_div_left _ _ hk, Nat.add_mul_mod_self_left, Nat.div_eq_of_lt hj, Nat.mod_eq_of_lt hj, Nat.zero_add]
theorem divmod {q n k : Nat} (h : q < n * k) : q / k < n ∧ q % k < k ∧ q / k * k + q % k = q := by
  have hk : 0 < k := by
    cases k with
    | zero => simp at h
    | succ k => omega
  exact ⟨Nat.div_lt_of_lt_mul (by rw [Nat.mul_comm]; exact h), Nat.mod_lt _ hk, by rw [Nat.mul_comm]; exact Nat.div_add_mod q k⟩
section
variable [TVm] {P : Program} {w0 : World} {Z0 : Zs} {M0 : Nat → Prop} {Z Z' : Zs} {β : List Bk} {γ : List Value} {S : Obs} {T : Toks} {w w' : World}
theorem tby_inv {e : TypeId} {n b : Nat} {z : List AV} (h1 : tsz P e = some n) (h2 : tby P e = some b) (h3 : tzero P e = some z) : ∃ i z0, P.info? e = some i ∧ i.size = n ∧ i.bytes = b ∧ i.zero = some z0 ∧ z0.cells.size = z.length := by
  unfold tsz at h1; unfold tby at h2; unfold tzero at h3
  obtain ⟨i, hi, rfl⟩ := Option.map_eq_some_iff.1 h1
  rw [hi] at h2 h3
  simp only [Option.map_some, Option.some.injEq, Option.bind_some] at h2 h3
  obtain ⟨z0, hz, rfl⟩ := Option.map_eq_some_iff.1 h3
  exact ⟨i, z0, hi, rfl, h2, hz, by simp⟩
/-- Nothing appended. -/
theorem append_none {t ty e : TypeId} {n : Nat} (ht : P.underlying t = some (.slice e)) (hn : tsz P e = some n) {A B : Option Addr} {len c c' : Nat} (hc : len ≤ c) (hB : B = none ∨ True) :
    (Builtin.append_ #[t, t] ty #[.slice A len c, .slice B 0 c']).run P w = .ok (.slice A len c) w := by
  have h1 : (Builtin.firstCells n 0 (.slice B 0 c')).run P w = .ok #[] w := by
    cases B with
    | none => rfl
    | some b => simp [Builtin.firstCells, loadCells, loadCellsFrom]
  cases A with
  | none => simp [Builtin.append_, run_underlying ht, run_sz hn, Builtin.lenOf, hc, h1]
  | some a => simp [Builtin.append_, run_underlying ht, run_sz hn, Builtin.lenOf, hc, h1, storeCells]
/-- A chain's slice that has grown: its block, its cells. -/
structure Grown (P : Program) (Z : Zs) (B : Nat → Prop) (M0 : Nat → Prop) (n0 : Nat) (w w' : World) (e : TypeId) (n : Nat) (old : Value) (r : Value) (len : Nat) (f : Nat → Nat → Value) : Prop where
  mk ::
  out : ∃ g cap cur, r = .slice (some ⟨g, 0, none⟩) len cap ∧ w'.heap[g]? = some (.cells cur e (0, 0)) ∧ len ≤ cap ∧ cap ≤ maxLen ∧ cur.size = cap * n ∧
    (∀ i j, i < len → j < n → w'.cell? ⟨g, i * n + j, none⟩ = some (f i j)) ∧
    ((g = w.heap.size ∧ Grow w w') ∨ (spare old = some g ∧ (M0 g ∨ n0 ≤ g) ∧ ¬ B g ∧ Keep (fun k => k = g) w w' ∧ ∀ b o, Z b o → w'.cell? ⟨b, o, none⟩ = w.cell? ⟨b, o, none⟩))
theorem spare_some {a : Addr} {n c : Nat} (h : n ≠ c) : spare (.slice (some a) n c) = some a.block := by simp [spare, h]
theorem append_some {t ty e : TypeId} {n b : Nat} {z : List AV} (ht : P.underlying t = some (.slice e)) (h1 : tsz P e = some n) (h2 : tby P e = some b) (h3 : tzero P e = some z) (hz : z.length = n) (hn : 0 < n)
    {v : Value} {len : Nat} {fo : Nat → Nat → Value} (hv : (v = .slice none 0 0 ∧ len = 0) ∨ ∃ ad c, v = .slice (some ad) len c ∧ (∀ i j, i < len → j < n → w.cell? (ad.add (i * n + j)) = some (fo i j)))
    {n0 : Nat} {B : Nat → Prop} (hown : OwnS P Z B M0 n0 w e v) {q p m c' : Nat} {fn : Nat → Nat → Value} (hm : 0 < m) (hu : ∀ i j, i < m → j < n → w.cell? ⟨q, p + (i * n + j), none⟩ = some (fn i j)) (h1c : ∀ i j, i < m → j < n → (fn i j).oneCell' = true)
    (hb : (len + m) * b ≤ 140737488355328) (hml : len + m ≤ maxLen) :
    ∃ r w', (Builtin.append_ #[t, t] ty #[v, .slice (some ⟨q, p, none⟩) m c']).run P w = .ok r w' ∧ Grown P Z B M0 n0 w w' e n v r (len + m) (fun i j => if i < len then fo i j else fn (i - len) j) := by
  obtain ⟨i, z0, hi, rfl, rfl, hz0, hzs⟩ := tby_inv h1 h2 h3
  have hzs' : z0.cells.size = i.size := by rw [hzs, hz]
  have hml' := hml
  simp only [maxLen] at hml'
  have hnl := flat_len fn m i.size
  have hnews : ∀ j u, (flat fn m i.size)[j]? = some u → w.cell? ((⟨q, p, none⟩ : Addr).add j) = some u := by
    intro j u h
    obtain ⟨hj, rfl⟩ := flat_get h
    obtain ⟨a1, a2, a3⟩ := divmod hj
    rw [Addr.add_lit]
    have := hu _ _ a1 a2
    rw [a3] at this
    exact this
  have hone : ∀ u ∈ flat fn m i.size, u.oneCell' = true := by
    intro u h
    obtain ⟨j, hj, rfl⟩ := List.mem_iff_getElem.1 h
    obtain ⟨hj', e'⟩ := flat_get (List.getElem?_eq_getElem hj)
    rw [e']
    obtain ⟨a1, a2, _⟩ := divmod hj'
    exact h1c _ _ a1 a2
  -- a new block
  have fresh : ∀ (olds : List Value) (old : Nat), olds.length = len * i.size → (∀ a j, a < len → j < i.size → olds[a * i.size + j]? = some (fo a j)) → old < len + m →
      Grown P Z B M0 n0 w (w.drew.alloc (.cells (olds.toArray ++ (flat fn m i.size).toArray ++ Builtin.zeroCells z0.cells (grownCap w (len + m) old e - (len + m))) e)) e i.size v
        (.slice (some ⟨w.heap.size, 0, none⟩) (len + m) (grownCap w (len + m) old e)) (len + m) (fun i j => if i < len then fo i j else fn (i - len) j) := by
    intro olds old ho hol hlt
    have hge := grownCap_ge w (len + m) old e
    refine ⟨⟨w.heap.size, _, _, rfl, heap_alloc_new w.drew _, hge, grownCap_le_maxLen w (len + m) old e hml, ?_, ?_, .inl ⟨rfl, rfl, rfl, rfl, by simp, fun k hk _ => heap_alloc_old w.drew _ k hk⟩⟩⟩
    · simp only [Array.size_append, List.size_toArray, size_zeroCells, hzs', ho, hnl, ← Nat.add_mul]
      congr 1; omega
    · intro a j ha hj
      rw [cell_of_row _ w.heap.size _ _ e (0, 0) (heap_alloc_new w.drew _)]
      have hidx := idx_lt ha hj
      rw [Nat.add_mul] at hidx
      rw [Array.getElem?_append_left (by simp [ho, hnl]; omega)]
      by_cases h : a < len
      · rw [if_pos h, Array.getElem?_append_left (by simp [ho]; exact idx_lt h hj)]
        simpa using hol a j h hj
      · rw [if_neg h, Array.getElem?_append_right (by
          simp [ho]
          exact Nat.le_trans (Nat.mul_le_mul_right _ (Nat.le_of_not_lt h)) (Nat.le_add_right _ _))]
        have hx : a * i.size + j - olds.toArray.size = (a - len) * i.size + j := by
          simp only [List.size_toArray, ho, Nat.sub_mul]
          have : len * i.size ≤ a * i.size := Nat.mul_le_mul_right _ (Nat.le_of_not_lt h)
          omega
        rw [hx]
        have := flat_at (f := fn) (n := m) (i := a - len) (by omega) hj
        simpa using this
  obtain ⟨A, nn, c, rfl, hd⟩ := hown
  rcases hv with ⟨hv, rfl⟩ | ⟨ad, c1, hv, hcell⟩
  · cases hv
    have hr := run_append_nil (P := P) w t ty e i z0 ht hi hz0 ⟨q, p, none⟩ m c' (flat fn m i.size) hnl hnews hm (by omega) (by simp only [Nat.zero_add] at hb; omega)
    have hf := fresh [] 0 (by simp) (fun a j h => by omega) (by omega)
    simp only [Nat.zero_add] at hf ⊢
    refine ⟨_, _, hr, ?_⟩
    simpa using hf
  · cases hv
    by_cases hroom : len + m ≤ c
    · rcases hd with ⟨rfl, _⟩ | ⟨g, cur, k, h5, h6, h7, h8, h9, h10, h11, h12, h13⟩
      · omega
      · cases h5
        rw [h1] at h10
        cases h10
        have hfit : len * i.size + (flat fn m i.size).length ≤ cur.size := by
          rw [hnl, h11, ← Nat.add_mul]; exact Nat.mul_le_mul_right _ hroom
        have hr := run_append_room (P := P) w t ty e i ht hi g len c cur h7 ⟨q, p, none⟩ m c' (flat fn m i.size) hnl hnews hone hroom hfit
        have hlk : len * i.size ≤ cur.size := by omega
        refine ⟨_, _, hr, ⟨⟨g, c, _, rfl, setRow_heap w g cur _ e (0, 0) h7, hroom, h9, ?_, ?_, .inr ⟨by rw [spare_some (by omega)], h6, h13, setRow_keep rfl, ?_⟩⟩⟩⟩
        · simp only [List.size_toArray, List.length_append, List.length_take, List.length_drop, Array.length_toList]; omega
        · intro a j ha hj
          rw [cell_of_row _ g _ _ e (0, 0) (setRow_heap w g cur _ e (0, 0) h7)]
          simp only [List.getElem?_toArray]
          have hidx := idx_lt ha hj
          rw [Nat.add_mul] at hidx
          have htl : (cur.toList.take (len * i.size)).length = len * i.size := by simp; omega
          rw [List.getElem?_append_left (by simp only [List.length_append, htl, hnl]; omega)]
          by_cases h : a < len
          · rw [if_pos h, List.getElem?_append_left (by rw [htl]; exact idx_lt h hj), List.getElem?_take, if_pos (idx_lt h hj)]
            have := hcell a j h hj
            rw [Addr.add_lit, Nat.zero_add, cell_of_row w g _ cur e (0, 0) h7] at this
            simpa using this
          · have hge : len * i.size ≤ a * i.size := Nat.mul_le_mul_right _ (Nat.le_of_not_lt h)
            rw [if_neg h, List.getElem?_append_right (by rw [htl]; omega), htl]
            have hx : a * i.size + j - len * i.size = (a - len) * i.size + j := by rw [Nat.sub_mul]; omega
            rw [hx]
            exact flat_at (by omega) hj
        · intro b' o' hz'
          by_cases hbg : b' = g
          · subst hbg
            have ho' := h12 _ hz'
            rw [cell_of_row _ b' _ _ e (0, 0) (setRow_heap w b' cur _ e (0, 0) h7), cell_of_row w b' _ cur e (0, 0) h7]
            simp only [List.getElem?_toArray]
            rw [List.append_assoc, List.getElem?_append_left (by simp; omega), List.getElem?_take, if_pos ho']
            simp
          · exact World.cell?_of_block (w := w) (setRow_other w g b' _ hbg)
    · have hol : ∀ j u, (flat fo len i.size)[j]? = some u → w.cell? (ad.add j) = some u := by
        intro j u h
        obtain ⟨hj, rfl⟩ := flat_get h
        obtain ⟨a1, a2, a3⟩ := divmod hj
        have := hcell _ _ a1 a2
        rw [a3] at this
        exact this
      have hr := run_append_grow (P := P) w t ty e i z0 ht hi hz0 ad len c (flat fo len i.size) (flat_len _ _ _) hol ⟨q, p, none⟩ m c' (flat fn m i.size) hnl hnews (by omega) (by omega) (growslice_fits (by omega) hb)
      exact ⟨_, _, hr, fresh (flat fo len i.size) c (flat_len _ _ _) (fun a j h hj => flat_at h hj) (by omega)⟩
end
end Go.Proofs.Ytplpmelpoajpdaa.Ev
namespace Go.Proofs.Ytplpmelpoajpdaa.Ev
open Go
set_option linter.unusedSectionVars false
set_option linter.unusedVariables false
set_option linter.unusedSimpArgs false
section
variable [TVm] {P : Program} {w0 : World} {Z0 : Zs} {M0 : Nat → Prop} {Z Z' : Zs} {β : List Bk} {γ : List Value} {S : Obs} {T : Toks} {w w' : World}
/-- The chains behind an append: that one is dead, a new one lives. -/
def killT (T : Toks) (o : Tok) (e : TypeId) : Toks := match o with
  | .own k => T.set k none ++ [some e]
  | _ => T ++ [some e]
theorem killT_len (T : Toks) (o : Tok) (e : TypeId) : (killT T o e).length = T.length + 1 := by cases o <;> simp [killT]
theorem killT_lt {T : Toks} {o : Tok} {e : TypeId} {τ : Nat} {f : TypeId} (hτ : τ < T.length) (h : (killT T o e)[τ]? = some (some f)) : T[τ]? = some (some f) ∧ o ≠ .own τ := by
  cases o with
  | own k =>
    simp only [killT] at h
    rw [List.getElem?_append_left (by simpa using hτ)] at h
    by_cases hk : k = τ
    · subst hk
      rw [List.getElem?_set_self hτ] at h
      cases h
    · rw [List.getElem?_set_ne hk] at h
      exact ⟨h, fun e => hk (by injection e)⟩
  | _ =>
    simp only [killT] at h
    rw [List.getElem?_append_left hτ] at h
    exact ⟨h, by simp⟩
theorem killT_new {T : Toks} {o : Tok} {e : TypeId} : (killT T o e)[T.length]? = some (some e) := by
  cases o <;> simp [killT]
theorem killT_ge {T : Toks} {o : Tok} {e f : TypeId} {τ : Nat} (hτ : ¬ τ < T.length) (h : (killT T o e)[τ]? = some (some f)) : τ = T.length ∧ f = e := by
  have hl : τ < (killT T o e).length := (List.getElem?_eq_some_iff.1 h).1
  rw [killT_len] at hl
  have : τ = T.length := by omega
  subst this
  rw [killT_new] at h
  simp only [Option.some.injEq] at h
  exact ⟨rfl, h.symm⟩
/-- A chain that has grown; the old slice is no other chain's (hoth). -/
theorem EN.chain (E : EN P w0 Z0 M0 Z β γ S T w) {o : Tok} {e : TypeId} {n len : Nat} {old r : Value} {f : Nat → Nat → Value} (hn : tsz P e = some n) (hG : Grown P Z (LB S β) M0 w0.heap.size w w' e n old r len f)
    (hown : OwnS P Z (LB S β) M0 w0.heap.size w e old) (hoth0 : ∀ τ f' v g, τ < T.length → (killT T o e)[τ]? = some (some f') → γ[τ]? = some v → spare old = some g → spare v ≠ some g) (hlen : ∀ a n' c', old = .slice a n' c' → n' ≤ len) :
    ∃ Z', (∀ b p c, r = .slice (some ⟨b, p, none⟩) len c → ∀ i j, i < len → j < n → Z' b (p + (i * n + j)) ∧ w'.cell? ⟨b, p + (i * n + j), none⟩ = some (f i j)) ∧
      EN P w0 Z0 M0 Z' β (γ ++ [r]) S (killT T o e) w' ∧ VX Z Z' β β γ (γ ++ [r]) T (killT T o e) w w' ∧ ∃ g c, r = .slice (some ⟨g, 0, none⟩) len c ∧ len ≤ c := by
  obtain ⟨g, cap, cur, rfl, h1, h2, h3, h4, h5, h6⟩ := hG.out
  have hglt : g < w'.heap.size := lt_of_heap h1
  have hsz : w.heap.size ≤ w'.heap.size := by
    rcases h6 with ⟨rfl, G⟩ | ⟨a1, a2, a3, a4, a5⟩
    · exact G.size
    · exact a4.size
  -- the old blocks
  have hkp : Keep (fun k => k = g ∧ k < w.heap.size ∧ spare old = some g ∧ (M0 g ∨ w0.heap.size ≤ g) ∧ ¬ LB S β g) w w' := by
    rcases h6 with ⟨rfl, G⟩ | ⟨a1, a2, a3, a4, a5⟩
    · exact G.weak fun _ _ h => h.elim
    · exact a4.weak fun k hk e => ⟨e, hk, a1, a2, a3⟩
  have hcell : ∀ b p, Z b p → w'.cell? ⟨b, p, none⟩ = w.cell? ⟨b, p, none⟩ := by
    rcases h6 with ⟨rfl, G⟩ | ⟨a1, a2, a3, a4, a5⟩
    · exact fun b p hz => G.cell (E.zs b p hz)
    · exact a5
  have hgB : ¬ LB S β g := by
    rcases h6 with ⟨rfl, G⟩ | ⟨a1, a2, a3, a4, a5⟩
    · intro hm
      have := E.lb_lt hm
      omega
    · exact a3
  have hgM : M0 g ∨ w0.heap.size ≤ g := by
    rcases h6 with ⟨rfl, G⟩ | ⟨a1, a2, a3, a4, a5⟩
    · exact .inr E.kp.size
    · exact a2
  -- other chains have other blocks
  have hoth : ∀ τ f' v, τ < T.length → (killT T o e)[τ]? = some (some f') → γ[τ]? = some v → spare v ≠ some g := by
    intro τ f' v hτ hk hv hs
    obtain ⟨hT, hne⟩ := killT_lt hτ hk
    rcases h6 with ⟨rfl, G⟩ | ⟨a1, a2, a3, a4, a5⟩
    · obtain ⟨v', hv', a, n', c', rfl, hd⟩ := E.tk τ f' hT
      rw [hv] at hv'
      obtain rfl := Option.some.inj hv'
      rcases hd with ⟨rfl, _⟩ | ⟨g', cur', k', d1, _, d3, _⟩
      · cases a <;> simp [spare] at hs
      · subst d1
        simp only [spare] at hs
        split at hs
        · cases hs
        · simp only [Option.some.injEq] at hs
          have := lt_of_heap d3; omega
    · exact hoth0 τ f' v g hτ hk hv a1 hs
  let Z' : Zs := fun b p => Z b p ∨ (b = g ∧ p < len * n)
  have X : VX Z Z' β β γ (γ ++ [.slice (some ⟨g, 0, none⟩) len cap]) T (killT T o e) w w' := by
    refine ⟨⟨fun b p h => .inl h, hcell⟩, fun _ b h => ⟨b, h, Nat.le_refl _, fun _ => rfl⟩, by rw [killT_len]; omega, fun τ f' hτ hk => ?_⟩
    obtain ⟨hT, _⟩ := killT_lt hτ hk
    exact ⟨hT, List.getElem?_append_left (by rw [E.gl]; exact hτ)⟩
  refine ⟨Z', ?_, ⟨?_, E.zc.trans X.z, ?_, ?_, E.bl, by rw [killT_len, List.length_append, E.gl]; rfl, ?_, E.bi, ?_, ?_⟩, X, g, cap, rfl, h2⟩
  · intro b p c hr i j hi hj
    cases hr
    rw [Nat.zero_add]
    exact ⟨.inr ⟨rfl, idx_lt hi hj⟩, h5 i j hi hj⟩
  · refine ⟨hkp.os.trans E.kp.os, hkp.tape.trans E.kp.tape, hkp.output.trans E.kp.output, Nat.le_trans E.kp.size hkp.size, fun k hk hm => ?_⟩
    rw [hkp.block k (Nat.lt_of_lt_of_le hk E.kp.size) (fun h => by
      obtain ⟨rfl, _, _, h8, _⟩ := h
      rcases h8 with h | h
      · exact hm h
      · omega)]
    exact E.kp.block k hk hm
  · intro b p hz hb
    rcases hz with hz | ⟨rfl, hp⟩
    · exact E.zn b p hz hb
    · rcases hgM with h | h
      · exact .inr h
      · omega
  · intro b p hz
    rcases hz with hz | ⟨rfl, hp⟩
    · have := E.zs b p hz; omega
    · exact hglt
  · intro id ob hob hlv
    obtain ⟨b, b1, b2, b3, b4, b5⟩ := E.ob id ob hob hlv
    have hne : b.g ≠ g := by rintro rfl; exact hgB ⟨id, ob, b, hob, hlv, b1, rfl⟩
    refine ⟨b, b1, b2, by omega, fun p hz => ?_, b5.ext X (hkp.block b.g b3 (fun h => hne h.1))⟩
    rcases hz with hz | ⟨h, _⟩
    · exact b4 p hz
    · exact hne h
  · intro τ f' hk
    by_cases hτ : τ < T.length
    · obtain ⟨hT, _⟩ := killT_lt hτ hk
      obtain ⟨v, hv, a, n', c', rfl, hd⟩ := E.tk τ f' hT
      refine ⟨_, by rw [List.getElem?_append_left (by rw [E.gl]; exact hτ)]; exact hv, a, n', c', rfl, ?_⟩
      by_cases hnc : n' = c'
      · by_cases ha : a = none
        · rcases hd with hd | ⟨g1, cur1, k1, rfl, _⟩
          · exact .inl hd
          · cases ha
        · exact .inl ⟨hnc, fun h => absurd h ha⟩
      rcases hd with hd | ⟨g1, cur1, k1, rfl, d2, d3, d4, d5, d6, d7, d8, d9⟩
      · exact .inl hd
      · have hne : g1 ≠ g := by
          have := hoth τ f' _ hτ hk hv
          rw [spare_some hnc] at this
          exact fun h => this (by rw [h])
        refine .inr ⟨g1, cur1, k1, rfl, d2, (hkp.block g1 (lt_of_heap d3) (fun h => hne h.1)).trans d3, d4, d5, d6, d7, fun p hz => ?_, d9⟩
        rcases hz with hz | ⟨rfl, _⟩
        · exact d8 p hz
        · exact absurd rfl hne
    · obtain ⟨rfl, rfl⟩ := killT_ge hτ hk
      refine ⟨_, by rw [← E.gl, List.getElem?_append_right (Nat.le_refl _)]; simp, some ⟨g, 0, none⟩, len, cap, rfl, .inr ⟨g, cur, n, rfl, hgM, h1, h2, h3, hn, h4, fun p hz => ?_, hgB⟩⟩
      rcases hz with hz | ⟨_, hp⟩
      · rcases h6 with ⟨rfl, G⟩ | ⟨a1, a2, a3, a4, a5⟩
        · have := E.zs _ _ hz; omega
        · obtain ⟨a, n', c', rfl, hd⟩ := hown
          have hnc : n' ≠ c' := by
            intro h
            subst h
            cases a <;> simp [spare] at a1
          rcases hd with ⟨rfl, _⟩ | ⟨g1, cur1, k1, rfl, d2, d3, d4, d5, d6, d7, d8, d9⟩
          · exact absurd rfl hnc
          · rw [spare_some hnc] at a1
            obtain rfl := Option.some.inj a1
            rw [hn] at d6
            cases d6
            have := d8 p hz
            exact Nat.lt_of_lt_of_le this (Nat.mul_le_mul_right _ (hlen _ _ _ rfl))
      · exact hp
  · intro τ σ e1 f1 u v g1 hτ hσ hu hv hsu hsv
    have hnew : ∀ {τ : Nat} {e1 : TypeId} {u : Value}, ¬ τ < T.length → (killT T o e)[τ]? = some (some e1) → (γ ++ [.slice (some ⟨g, 0, none⟩) len cap])[τ]? = some u → spare u = some g1 → τ = T.length ∧ g1 = g := by
      intro τ e1 u h1 h2 h3 h4
      obtain ⟨rfl, _⟩ := killT_ge h1 h2
      rw [← E.gl, List.getElem?_append_right (Nat.le_refl _)] at h3
      simp only [Nat.sub_self, List.getElem?_cons_zero, Option.some.injEq] at h3
      subst h3
      simp only [spare] at h4
      split at h4
      · cases h4
      · simp only [Option.some.injEq] at h4
        exact ⟨rfl, h4.symm⟩
    by_cases q1 : τ < T.length
    · rw [List.getElem?_append_left (by rw [E.gl]; exact q1)] at hu
      by_cases q2 : σ < T.length
      · rw [List.getElem?_append_left (by rw [E.gl]; exact q2)] at hv
        exact E.ti τ σ e1 f1 u v g1 (killT_lt q1 hτ).1 (killT_lt q2 hσ).1 hu hv hsu hsv
      · obtain ⟨_, rfl⟩ := hnew q2 hσ hv hsv
        exact absurd hsu (hoth τ e1 u q1 hτ hu)
    · obtain ⟨rfl, rfl⟩ := hnew q1 hτ hu hsu
      by_cases q2 : σ < T.length
      · rw [List.getElem?_append_left (by rw [E.gl]; exact q2)] at hv
        exact absurd hsv (hoth σ f1 v q2 hσ hv)
      · exact (hnew q2 hσ hv hsv).1.symm
end
end Go.Proofs.Ytplpmelpoajpdaa.Ev
namespace Go.Proofs.Ytplpmelpoajpdaa.Ev
open Go
set_option linter.unusedSectionVars false
set_option linter.unusedVariables false
set_option linter.unusedSimpArgs false
section
variable [TVm] {P : Program} {w0 : World} {Z0 : Zs} {M0 : Nat → Prop} {Z Z' : Zs} {β : List Bk} {γ : List Value} {S : Obs} {T : Toks} {w w' : World}
/-- A slice to which nothing is appended. -/
theorem EN.same (E : EN P w0 Z0 M0 Z β γ S T w) {o : Tok} {e : TypeId} {v : Value} (hO : OwnS P Z (LB S β) M0 w0.heap.size w e v) (hoth0 : ∀ τ f' u g, τ < T.length → (killT T o e)[τ]? = some (some f') → γ[τ]? = some u → spare v = some g → spare u ≠ some g) :
    EN P w0 Z0 M0 Z β (γ ++ [v]) S (killT T o e) w ∧ VX Z Z β β γ (γ ++ [v]) T (killT T o e) w w := by
  have X : VX Z Z β β γ (γ ++ [v]) T (killT T o e) w w := by
    refine ⟨.refl _ _, fun _ b h => ⟨b, h, Nat.le_refl _, fun _ => rfl⟩, by rw [killT_len]; omega, fun τ f' hτ hk => ?_⟩
    obtain ⟨hT, _⟩ := killT_lt hτ hk
    exact ⟨hT, List.getElem?_append_left (by rw [E.gl]; exact hτ)⟩
  have hoth := hoth0
  refine ⟨⟨E.kp, E.zc, E.zn, E.zs, E.bl, by rw [killT_len, List.length_append, E.gl]; rfl, ?_, E.bi, ?_, ?_⟩, X⟩
  · intro id ob hob hlv
    obtain ⟨b, b1, b2, b3, b4, b5⟩ := E.ob id ob hob hlv
    exact ⟨b, b1, b2, b3, b4, b5.ext X rfl⟩
  · intro τ f' hk
    by_cases hτ : τ < T.length
    · obtain ⟨hT, _⟩ := killT_lt hτ hk
      obtain ⟨u, hu, h⟩ := E.tk τ f' hT
      exact ⟨u, by rw [List.getElem?_append_left (by rw [E.gl]; exact hτ)]; exact hu, h⟩
    · obtain ⟨rfl, rfl⟩ := killT_ge hτ hk
      exact ⟨v, by rw [← E.gl, List.getElem?_append_right (Nat.le_refl _)]; simp, hO⟩
  · intro τ σ e1 f1 u u' g1 hτ hσ hu hv hsu hsv
    have hnew : ∀ {τ : Nat} {e1 : TypeId} {u : Value}, ¬ τ < T.length → (killT T o e)[τ]? = some (some e1) → (γ ++ [v])[τ]? = some u → τ = T.length ∧ u = v := by
      intro τ e1 u h1 h2 h3
      obtain ⟨rfl, _⟩ := killT_ge h1 h2
      rw [← E.gl, List.getElem?_append_right (Nat.le_refl _)] at h3
      simp only [Nat.sub_self, List.getElem?_cons_zero, Option.some.injEq] at h3
      exact ⟨rfl, h3.symm⟩
    by_cases q1 : τ < T.length
    · rw [List.getElem?_append_left (by rw [E.gl]; exact q1)] at hu
      by_cases q2 : σ < T.length
      · rw [List.getElem?_append_left (by rw [E.gl]; exact q2)] at hv
        exact E.ti τ σ e1 f1 u u' g1 (killT_lt q1 hτ).1 (killT_lt q2 hσ).1 hu hv hsu hsv
      · obtain ⟨_, rfl⟩ := hnew q2 hσ hv
        exact absurd hsu (hoth τ e1 u g1 q1 hτ hu hsv)
    · obtain ⟨rfl, rfl⟩ := hnew q1 hτ hu
      by_cases q2 : σ < T.length
      · rw [List.getElem?_append_left (by rw [E.gl]; exact q2)] at hv
        exact absurd hsv (hoth σ f1 u' g1 q2 hσ hv hsu)
      · exact (hnew q2 hσ hv).1.symm
theorem DR.one {a : AV} {v : Value} (h : DR Z w a v) (hd : d1 a = true) : v.oneCell' = true := by
  cases h with
  | v x h => cases v <;> first | rfl | exact absurd h (by simp [plainV])
  | agg => simp [d1, d0] at hd
  | tup => simp [d1, d0] at hd
  | dead => simp [d1, d0] at hd
  | _ => rfl
theorem d2_cells {a : AV} (h : d2 a = true) : ∀ j, j < a.cells.length → d1 (a.cells.getD j .dead) = true := by
  intro j hj
  cases a with
  | agg cs => exact all_getD (l := cs) h hj
  | _ =>
    have : j = 0 := by simpa [AV.cells] using hj
    subst this
    exact h
theorem uni_append {n : Nat} {l m : List AV} : uni n (l ++ m) = (uni n l && uni n m) := by simp [uni]
/-- What is appended: its cells, and what they hold. -/
def SrcR (Z : Zs) (w : World) (m : List AV) (u : Value) : Prop := (m = [] ∧ ∃ B c, u = .slice B 0 c) ∨ ∃ q p c k, ∃ fn : Nat → Nat → Value, u = .slice (some ⟨q, p, none⟩) m.length c ∧ (∀ i, i < m.length → (m.getD i .dead).cells.length = k) ∧
  (∀ i j, i < m.length → j < k → w.cell? ⟨q, p + (i * k + j), none⟩ = some (fn i j)) ∧ ∀ i j, i < m.length → j < k → DR Z w ((m.getD i .dead).cells.getD j .dead) (fn i j)
theorem SrcR.ext {Z' : Zs} (X : ZExt Z Z' w w) {m : List AV} {u : Value} (h : SrcR Z w m u) : SrcR Z' w m u := by
  rcases h with h | ⟨q, p, c, k, fn, h1, h2, h3, h4⟩
  · exact .inl h
  · exact .inr ⟨q, p, c, k, fn, h1, h2, h3, fun i j hi hj => (h4 i j hi hj).ext X⟩
theorem SrcR.of {o : Tok} {m : List AV} {u : Value} (h : DR Z w (.sl o m) u) : SrcR Z w m u := by
  rcases h.sl_inv with ⟨h1, a, c, h2, _⟩ | ⟨b, p, c, k, xs, h1, h2, h3, h4, h5⟩
  · exact .inl ⟨h1, a, c, h2⟩
  · exact .inr ⟨b, p, c, k, xs, h1, h3, fun i j hi hj => (h4 i j hi hj).2, h5⟩
theorem SrcR.ms (E : EN P w0 Z0 M0 Z β γ S T w) {id ver n : Nat} {m : List AV} {u : Value} (h : srcL S (.ms id ver n) = some m) (hd : m.all d2 = true) (hx : R0 Z β γ T w P (.ms id ver n) u) : SrcR Z w m u := by
  simp only [srcL] at h
  split at h
  case h_2 => cases h
  rename_i x1 k e l hr
  split at h
  case isFalse => cases h
  rename_i hn
  simp only [Option.some.injEq] at h
  subst h
  have hE := E.ob _ _ (rowA_inv hr) rfl
  simp only [Cont] at hE
  obtain ⟨b, hb, a2, a3, a4, h1, h2, h3, h4, h5, h6, h7, h8, cur, h9, h10, h11⟩ := hE
  obtain ⟨b2, A, C, c1, c2, rfl, c4, c5, c6⟩ := hx
  rw [hb] at c1
  obtain rfl := Option.some.inj c1
  obtain ⟨rfl, rfl⟩ := c6 h1
  have hlen : (l.take n).length = n := by simp; omega
  have hget : ∀ i, i < n → (l.take n).getD i .dead = l.getD i .dead := fun i hi => by simp [List.getD_eq_getElem?_getD, List.getElem?_take, hi]
  have hk : ∀ i, i < l.length → (l.getD i .dead).cells.length = k := fun i hi => by
    rw [List.getD_eq_getElem?_getD, List.getElem?_eq_getElem hi]; exact h7 _ (List.getElem_mem hi)
  refine .inr ⟨b.g, 0, b.c, k, fun i j => cur.getD (i * k + j) undef, by rw [hlen], fun i hi => by rw [hlen] at hi; rw [hget i hi]; exact hk i (by omega), fun i j hi hj => ?_, fun i j hi hj => ?_⟩
  · rw [hlen] at hi
    have h12 : i * k + j < cur.size := by
      rw [h10]
      have := Nat.mul_le_mul_right k (show i + 1 ≤ b.c by omega)
      rw [Nat.add_mul] at this; omega
    rw [Nat.zero_add, cell_of_row w b.g _ cur e (0, 0) h9]
    simp [Array.getD_eq_getD_getElem?, Array.getElem?_eq_getElem h12]
  · rw [hlen] at hi
    have hdi := all_getD hd (i := i) (by rw [hlen]; exact hi)
    rw [hget i hi] at hdi ⊢
    exact (h11 i j (by omega) hj).dr (d2_cells hdi j (by rw [hk i (by omega)]; exact hj))
theorem srcL_r (E : EN P w0 Z0 M0 Z β γ S T w) {x : AV} {m : List AV} {u : Value} (h : srcL S x = some m) (hd : m.all d2 = true) (hx : R3 Z β γ T w P x u) : SrcR Z w m u := by
  cases x with
  | sl o l =>
    simp only [srcL, Option.some.injEq] at h
    subst h
    exact .of hx.1
  | ms id ver n => exact .ms E h hd hx
  | _ => cases h
/-- An append to a chain, or to what becomes one. -/
theorem app_core (E : EN P w0 Z0 M0 Z β γ S T w) {t ty e : TypeId} {n b : Nat} {z : List AV} {o : Tok} {l m : List AV} {v u : Value} (ht : P.underlying t = some (.slice e)) (hn : tsz P e = some n) (hb : tby P e = some b) (hz : tzero P e = some z) (hdv : DR Z w (.sl o l) v) (hdu : SrcR Z w m u)
    (c1 : 0 < n) (c2 : z.length = n) (c3 : uni n m = true) (c4 : (m.all d2) = true) (c5 : (l.length + m.length) * b ≤ 140737488355328) (c6 : l.length + m.length ≤ maxLen) (hul : uni n l = true) (hO : OwnS P Z (LB S β) M0 w0.heap.size w e v)
    (hoo : ∀ τ f' u g, τ < T.length → (killT T o e)[τ]? = some (some f') → γ[τ]? = some u → spare v = some g → spare u ≠ some g) :
    ∃ r w' Z' γ', (Builtin.append_ #[t, t] ty #[v, u]).run P w = .ok r w' ∧ EN P w0 Z0 M0 Z' β γ' S (killT T o e) w' ∧ VX Z Z' β β γ γ' T (killT T o e) w w' ∧ R3 Z' β γ' (killT T o e) w' P (.sl (.own T.length) (l ++ m)) r := by
  have hres : ∀ {Z' : Zs} {γ' : List Value} {w' : World} {r : Value}, γ'[T.length]? = some r → DR Z' w' (.sl (.own T.length) (l ++ m)) r → R3 Z' β γ' (killT T o e) w' P (.sl (.own T.length) (l ++ m)) r := by
    intro Z' γ' w' r h1 h2
    refine ⟨h2, by rw [killT_len]; omega, fun e' he' => ⟨h1, ?_⟩⟩
    rw [killT_new] at he'
    simp only [Option.some.injEq] at he'
    subst he'
    rw [hn]
    show uni n (l ++ m) = true
    rw [uni_append, hul, c3]; rfl
  have hlast : ∀ r : Value, (γ ++ [r])[T.length]? = some r := fun r => by rw [← E.gl, List.getElem?_append_right (Nat.le_refl _)]; simp
  obtain ⟨A, len, cc, rfl, hlen, hcc⟩ : ∃ A len c, v = .slice A len c ∧ len = l.length ∧ l.length ≤ c := by
    rcases hdv.sl_inv with ⟨rfl, _, _, rfl, _⟩ | ⟨b', p', c', k', xs, rfl, h1, _⟩
    · exact ⟨_, _, _, rfl, rfl, Nat.zero_le _⟩
    · exact ⟨_, _, _, rfl, rfl, h1⟩
  subst hlen
  by_cases hm : m = []
  · subst hm
    obtain ⟨B, c', rfl⟩ : ∃ B c, u = .slice B 0 c := by
      rcases hdu with ⟨_, B, c, rfl⟩ | ⟨b', p', c', k', xs, rfl, _⟩
      · exact ⟨_, _, rfl⟩
      · exact ⟨_, _, rfl⟩
    obtain ⟨E', X'⟩ := E.same hO hoo
    refine ⟨_, w, Z, γ ++ [.slice A l.length cc], append_none ht hn hcc (.inr trivial), E', X', hres (hlast _) ?_⟩
    have := (DR.ext X'.z hdv).tok (o' := .own T.length)
    simpa using this
  · rcases hdu with ⟨rfl, _⟩ | ⟨q, p, c', ku, fn, rfl, d2', d3', d4'⟩
    · exact absurd rfl hm
    have hmp : 0 < m.length := by cases m <;> simp_all
    have hku : ku = n := by rw [← d2' 0 hmp, uni_at c3 hmp]
    subst hku
    obtain ⟨fo, hv1, hv2⟩ : ∃ fo : Nat → Nat → Value, ((Value.slice A l.length cc = .slice none 0 0 ∧ l.length = 0) ∨ ∃ ad c, Value.slice A l.length cc = .slice (some ad) l.length c ∧ (∀ i j, i < l.length → j < ku → w.cell? (ad.add (i * ku + j)) = some (fo i j))) ∧
        ∀ i j, i < l.length → j < ku → DR Z w ((l.getD i .dead).cells.getD j .dead) (fo i j) := by
      rcases hdv.sl_inv with ⟨rfl, a0, c0, h1, h2⟩ | ⟨b', p', c'', k', xs, h1, e1, e2, e3, e4⟩
      · refine ⟨fun _ _ => undef, ?_, fun i j hi => absurd hi (by simp)⟩
        cases a0 with
        | none => rw [h2 rfl] at h1; exact .inl ⟨h1, rfl⟩
        | some ad => exact .inr ⟨ad, c0, h1, fun i j hi => absurd hi (by simp)⟩
      · have hk' : ∀ i, i < l.length → k' = ku := fun i hi => by rw [← e2 i hi, uni_at hul hi]
        refine ⟨xs, .inr ⟨⟨b', p', none⟩, c'', h1, fun i j hi hj => ?_⟩, fun i j hi hj => ?_⟩
        · obtain rfl := hk' i hi; rw [Addr.add_lit]; exact (e3 i j hi hj).2
        · obtain rfl := hk' i hi; exact e4 i j hi hj
    have hone : ∀ i j, i < m.length → j < ku → (fn i j).oneCell' = true := fun i j hi hj =>
      (d4' i j hi hj).one (d2_cells (all_getD c4 hi) j (by rw [d2' i hi]; exact hj))
    obtain ⟨r, w', hrun, hG⟩ := append_some (P := P) (ty := ty) ht hn hb hz c2 c1 hv1 hO hmp (fun i j hi hj => d3' i j hi hj) hone c5 c6
    obtain ⟨Z', hz', E', X', g, cg, hr, hcg⟩ := E.chain (o := o) hn hG hO hoo (fun a n' c'' h => by cases h; omega)
    refine ⟨r, w', Z', γ ++ [r], hrun, E', X', hres (hlast r) ?_⟩
    subst hr
    have hll : l.length + m.length = (l ++ m).length := by simp
    rw [hll]
    have hget1 : ∀ i, i < l.length → (l ++ m).getD i .dead = l.getD i .dead := fun i hi => by simp [List.getD_eq_getElem?_getD, List.getElem?_append_left hi]
    have hget2 : ∀ i, ¬ i < l.length → (l ++ m).getD i .dead = m.getD (i - l.length) .dead := fun i hi => by simp [List.getD_eq_getElem?_getD, List.getElem?_append_right (Nat.le_of_not_lt hi)]
    refine .sl _ (l ++ m) g 0 cg ku (fun i j => if i < l.length then fo i j else fn (i - l.length) j) (by simpa using hcg) (fun i hi => ?_) (fun i j hi hj => ?_) (fun i j hi hj => ?_)
    · by_cases h : i < l.length
      · rw [hget1 i h]; exact uni_at hul h
      · rw [hget2 i h]; exact d2' _ (by simp at hi; omega)
    · exact hz' g 0 cg rfl i j (by simpa using hi) hj
    · by_cases h : i < l.length
      · rw [hget1 i h]
        simp only [if_pos h]
        exact (hv2 i j h hj).ext X'.z
      · rw [hget2 i h]
        simp only [if_neg h]
        exact (d4' _ j (by simp at hi; omega) hj).ext X'.z
theorem hoth_of {o : Tok} {e : TypeId} {v : Value} (E : EN P w0 Z0 M0 Z β γ S T w) (ho : (∃ k, o = .own k ∧ T[k]? = some (some e) ∧ γ[k]? = some v) ∨ spare v = none) : ∀ τ f' u g, τ < T.length → (killT T o e)[τ]? = some (some f') → γ[τ]? = some u → spare v = some g → spare u ≠ some g := by
  intro τ f' u g hτ hk hu hs hsu
  obtain ⟨hT, hne⟩ := killT_lt hτ hk
  rcases ho with ⟨k, rfl, q1, q2⟩ | ho
  · have := E.ti τ k f' e u v g hT q1 hu q2 hsu hs
    subst this; exact hne rfl
  · rw [ho] at hs; cases hs
theorem app_run (E : EN P w0 Z0 M0 Z β γ S T w) {t ty : TypeId} {s y : AV} {o2 : Tok} {m : List AV} {v u : Value} {T' : Toks} (hs : R3 Z β γ T w P s v) (hx : m.all d2 = true → SrcR Z w m u) (h : appA P t s (.sl o2 m) T = some (y, T')) :
    ∃ r w' Z' γ', (Builtin.append_ #[t, t] ty #[v, u]).run P w = .ok r w' ∧ EN P w0 Z0 M0 Z' β γ' S T' w' ∧ VX Z Z' β β γ γ' T T' w w' ∧ R3 Z' β γ' T' w' P y r := by
  cases s with
  | sl o l =>
    simp only [appA] at h
    split at h
    case h_2 => cases h
    rename_i e he
    split at h
    case h_2 => cases h
    rename_i n b z hn hb hz
    split at h
    case isFalse => cases h
    rename_i hc
    obtain ⟨c1, c2, c3, c4, c5, c6⟩ := hc
    have ht := tel_inv he
    have hdv : DR Z w (.sl o l) v := hs.1
    have key : (y = .sl (.own T.length) (l ++ m) ∧ T' = killT T o e) ∧ uni n l = true ∧ OwnS P Z (LB S β) M0 w0.heap.size w e v ∧ ((∃ k, o = .own k ∧ T[k]? = some (some e) ∧ γ[k]? = some v) ∨ spare v = none) := by
      cases o with
      | no => simp at h
      | sm => simp at h
      | nil =>
        simp only at h
        split at h
        case isFalse => cases h
        rename_i hl
        have hl' : l = [] := List.eq_nil_of_length_eq_zero hl
        subst hl'
        simp only [Option.some.injEq, Prod.mk.injEq] at h
        obtain ⟨rfl, rfl⟩ := h
        have hv : v = .slice none 0 0 := hs.2
        subst hv
        exact ⟨⟨by simp, rfl⟩, rfl, ⟨none, 0, 0, rfl, .inl ⟨rfl, fun _ => rfl⟩⟩, .inr rfl⟩
      | full =>
        simp only at h
        split at h
        case isFalse => cases h
        rename_i hl
        simp only [Option.some.injEq, Prod.mk.injEq] at h
        obtain ⟨rfl, rfl⟩ := h
        obtain ⟨a, rfl⟩ := hs.2
        refine ⟨⟨rfl, rfl⟩, hl, ⟨a, l.length, l.length, rfl, .inl ⟨rfl, fun ha => ?_⟩⟩, .inr (by cases a <;> simp [spare])⟩
        subst ha
        rcases hdv.sl_inv with ⟨rfl, _⟩ | ⟨_, _, _, _, _, h1, _⟩
        · rfl
        · cases h1
      | own k =>
        simp only at h
        split at h
        case isFalse => cases h
        rename_i hk
        simp only [Option.some.injEq, Prod.mk.injEq] at h
        obtain ⟨rfl, rfl⟩ := h
        obtain ⟨h1, h2⟩ := hs.2
        obtain ⟨h3, h4⟩ := h2 e hk
        obtain ⟨v', hv', hO⟩ := E.tk k e hk
        rw [h3] at hv'
        obtain rfl := Option.some.inj hv'
        rw [hn] at h4
        exact ⟨⟨rfl, rfl⟩, h4, hO, .inl ⟨k, rfl, hk, h3⟩⟩
    obtain ⟨⟨rfl, rfl⟩, hul, hO, hoo⟩ := key
    exact app_core E ht hn hb hz hdv (hx c4) c1 c2 c3 c4 c5 c6 hul hO (hoth_of E hoo)
  | _ => simp [appA] at h
/-- A row that becomes a chain. -/
theorem appK_run (E : EN P w0 Z0 M0 Z β γ S T w) {t ty : TypeId} {s x y : AV} {v u : Value} {S' : Obs} {T' : Toks} (hs : R3 Z β γ T w P s v) (hx : R3 Z β γ T w P x u) (h : appK P t s x S T = some (y, S', T')) :
    ∃ r w' Z' γ', (Builtin.append_ #[t, t] ty #[v, u]).run P w = .ok r w' ∧ EN P w0 Z0 M0 Z' β γ' S' T' w' ∧ VX Z Z' β β γ γ' T T' w w' ∧ R3 Z' β γ' T' w' P y r := by
  cases s with
  | ms id ver k =>
    simp only [appK] at h
    split at h
    case h_2 => cases h
    rename_i n' e' l m hrow hsrc
    split at h
    case h_2 => cases h
    rename_i e he
    split at h
    case h_2 => cases h
    rename_i n b z hn hb hz
    split at h
    case isFalse => cases h
    rename_i hc
    obtain ⟨c1, c2, c3, c4, rfl, rfl, c5, c6, c7⟩ := hc
    simp only [Option.some.injEq, Prod.mk.injEq] at h
    obtain ⟨rfl, rfl, rfl⟩ := h
    have hS := rowA_inv hrow
    simp only at hS
    obtain ⟨bk, hbk, a2, a3, a4, h1, h2, h3, h4, h5, h6, h7, h8, cur, h9, h10, h11⟩ := E.ob _ _ hS rfl
    have hx1 : SrcR Z w m u := srcL_r E hsrc c4 hx
    obtain ⟨E1, X1⟩ := E.freeze k hS hbk
    have hD := E.frozen k hS hbk c5 (Nat.le_refl _) (show R0 Z β γ T w P (.ms id ver k) v from hs)
    have hlen : (l.take k).length = k := by simp; omega
    obtain ⟨bk', A, C, d1', d2', rfl, d4, d5, d6⟩ := hs
    rw [hbk] at d1'
    obtain rfl := Option.some.inj d1'
    obtain ⟨rfl, rfl⟩ := d6 h1
    have hnl : ¬ LB (S.set id .dead) β bk.g := by
      rintro ⟨i, oi, bi, q1, q2, q3, q4⟩
      by_cases hid : i = id
      · subst hid
        have hlt : i < S.length := by simpa using (List.getElem?_eq_some_iff.1 q1).1
        rw [List.getElem?_set_self hlt] at q1
        obtain rfl := Option.some.inj q1
        cases q2
      · rw [List.getElem?_set_ne (Ne.symm hid)] at q1
        exact hid (E.bi i id oi _ bi bk q1 q2 hS rfl q3 hbk q4)
    have hul : uni n' (l.take k) = true := List.all_eq_true.mpr fun q hq => by
      have := h7 q (List.mem_of_mem_take hq)
      simpa using this
    obtain ⟨r, w', Z', γ', hr, E', X', hR⟩ := app_core E1 (ty := ty) (tel_inv he) hn hb hz (hD.tok (o' := .no)) (hx1.ext X1.z) c1 c2 c3 c4 (by rw [hlen]; exact c6) (by rw [hlen]; exact c7) hul
      ⟨some ⟨bk.g, 0, none⟩, k, bk.c, rfl, .inr ⟨bk.g, cur, n', rfl, a2, h9, d4, h6, h4, h10, fun o hz => by
        rcases hz with hz | ⟨_, hz⟩
        · exact absurd hz (a4 o)
        · exact hz, hnl⟩⟩ (fun τ f' u' g hτ hk' hu hs hsu => by
        obtain ⟨hT, _⟩ := killT_lt hτ hk'
        obtain ⟨v', hv', a, n1, c1', rfl, hd⟩ := E.tk τ f' hT
        rw [hu] at hv'
        obtain rfl := Option.some.inj hv'
        have hg : g = bk.g := by
          simp only [spare] at hs
          split at hs
          · cases hs
          · simpa using hs.symm
        subst hg
        rcases hd with ⟨rfl, _⟩ | ⟨g', cur', k', e1, _, _, _, _, _, _, _, e9⟩
        · cases a <;> simp [spare] at hsu
        · subst e1
          simp only [spare] at hsu
          split at hsu
          · cases hsu
          · simp only [Option.some.injEq] at hsu
            subst hsu
            exact e9 ⟨id, _, bk, hS, rfl, hbk, rfl⟩)
    exact ⟨r, w', Z', γ', hr, E', X1.trans X', hR⟩
  | _ => simp [appK] at h
end
end Go.Proofs.Ytplpmelpoajpdaa.Ev
namespace Go.Proofs.Ytplpmelpoajpdaa.Ev
open Go
set_option linter.unusedSectionVars false
set_option linter.unusedVariables false
set_option linter.unusedSimpArgs false
theorem cells_s1 {a : AV} (h : d2 a = true) : (s2 a).cells = a.cells.map s1 := by
  cases a with
  | agg c => rfl
  | tup l => simp [d2, d1, d0] at h
  | dead => simp [d2, d1, d0] at h
  | _ => rfl
theorem d0_s0' {a : AV} (h : d0 a = true) : d0 (s0 a) = true := d0_s0 h
theorem d2_s2 {a : AV} (h : d2 a = true) : d2 (s2 a) = true := by
  cases a with
  | agg cs =>
    simp only [d2, s2, List.all_map, List.all_eq_true] at h ⊢
    intro x hx
    have := h x hx
    cases x with
    | fn f c =>
      simp only [d1, Function.comp, s1, List.all_map, List.all_eq_true] at this ⊢
      intro y hy
      exact d0_s0 (this y hy)
    | _ => revert this; simp [d1, s1, s0, d0]
  | fn f c =>
    simp only [d2, d1, s2, s1, List.all_map, List.all_eq_true] at h ⊢
    intro y hy
    exact d0_s0 (h y hy)
  | _ => revert h; simp [d2, d1, d0, s2, s1, s0]
section
variable [TVm] {P : Program} {w0 : World} {Z0 : Zs} {M0 : Nat → Prop} {Z Z' : Zs} {β : List Bk} {γ : List Value} {S : Obs} {T : Toks} {w w' : World}
theorem getD_of_cell {g o : Nat} {cur : Array Value} {e : TypeId} {u : Value} (hh : w.heap[g]? = some (.cells cur e (0, 0))) (h : w.cell? ⟨g, o, none⟩ = some u) : cur.getD o undef = u := by
  rw [cell_of_row w g o cur e (0, 0) hh] at h
  simp [Array.getD_eq_getD_getElem?, h]
/-- The elements of a row, where its cells are known. -/
theorem row_cells {g len n : Nat} {cur : Array Value} {e : TypeId} {l : List AV} {f : Nat → Nat → Value} (hh : w.heap[g]? = some (.cells cur e (0, 0))) (hl : l.length = len) (hk : ∀ i, i < len → (l.getD i .dead).cells.length = n)
    (hc : ∀ i j, i < len → j < n → w.cell? ⟨g, i * n + j, none⟩ = some (f i j)) (hR : ∀ i j, i < len → j < n → R1 Z β [] [] w P ((l.getD i .dead).cells.getD j .dead) (f i j)) :
    ∀ i j, i < l.length → j < n → R1 Z β [] [] w P ((l.getD i .dead).cells.getD j .dead) (cur.getD (i * n + j) undef) := by
  intro i j hi hj
  rw [hl] at hi
  rw [getD_of_cell hh (hc i j hi hj)]
  exact hR i j hi hj
theorem mem_cells {l : List AV} {n : Nat} (h : ∀ i, i < l.length → (l.getD i .dead).cells.length = n) : ∀ x ∈ l, x.cells.length = n := by
  intro x hx
  obtain ⟨i, hi, rfl⟩ := List.mem_iff_getElem.1 hx
  have := h i hi
  rwa [List.getD_eq_getElem?_getD, List.getElem?_eq_getElem hi] at this
theorem appR_run (E : EN P w0 Z0 M0 Z β γ S T w) {t ty : TypeId} {s x y : AV} {v u : Value} {S' : Obs} (hs : R3 Z β γ T w P s v) (hx : R3 Z β γ T w P x u) (h : appR P t s x S = some (y, S')) :
    ∃ r w' Z' β', (Builtin.append_ #[t, t] ty #[v, u]).run P w = .ok r w' ∧ EN P w0 Z0 M0 Z' β' γ S' T w' ∧ VX Z Z' β β' γ γ T T w w' ∧ R3 Z' β' γ T w' P y r := by
  unfold appR at h
  split at h
  case h_2 => cases h
  rename_i e m he hsrc
  split at h
  case h_2 => cases h
  rename_i n b z hn hb hz
  split at h
  case isFalse => cases h
  rename_i hc
  obtain ⟨c1, c2, c3, c4⟩ := hc
  have ht := tel_inv he
  have hsr : SrcR Z w m u := srcL_r E hsrc c4 hx
  have hms2 : ∀ i, i < m.length → (m.map s2).getD i .dead = s2 (m.getD i .dead) := fun i hi => getD_map_lt hi
  have hmk : ∀ i, i < m.length → (s2 (m.getD i .dead)).cells.length = n := fun i hi => by
    rw [cells_s1 (all_getD c4 hi), List.length_map]; exact uni_at c3 hi
  split at h
  · -- a list becomes a row
    rename_i o l
    split at h
    case isFalse => cases h
    rename_i hc
    obtain ⟨d1', d2', d3', d4', d5'⟩ := hc
    have hdv : DR Z w (.sl o l) v := hs.1
    obtain ⟨A, hv⟩ : ∃ A, v = .slice A l.length l.length := by
      rcases d1' with ⟨rfl, rfl⟩ | rfl
      · exact ⟨none, hs.2⟩
      · exact hs.2
    subst hv
    have hA : A = none → l.length = 0 := by
      rintro rfl
      rcases hdv.sl_inv with ⟨rfl, _⟩ | ⟨_, _, _, _, _, h1, _⟩
      · rfl
      · cases h1
    split at h
    · simp only [Option.some.injEq, Prod.mk.injEq] at h
      obtain ⟨rfl, rfl⟩ := h
      obtain ⟨B, c', rfl⟩ : ∃ B c, u = .slice B 0 c := by
        rcases hsr with ⟨_, B, c, rfl⟩ | ⟨b', p', c', k', xs, rfl, _⟩
        · exact ⟨_, _, rfl⟩
        · exact ⟨_, _, rfl⟩
      exact ⟨_, w, Z, β, append_none ht hn (Nat.le_refl _) (.inr trivial), E, .refl _ _ _ _ _, hs⟩
    · rename_i hne
      have hm : m ≠ [] := fun e => hne e
      simp only [Option.some.injEq, Prod.mk.injEq] at h
      obtain ⟨rfl, rfl⟩ := h
      rcases hsr with ⟨rfl, _⟩ | ⟨q, p, c', ku, fn, rfl, e2, e3, e4⟩
      · exact absurd rfl hm
      have hmp : 0 < m.length := List.length_pos_iff.mpr hm
      have hku : ku = n := by rw [← e2 0 hmp, uni_at c3 hmp]
      subst hku
      obtain ⟨fo, hv1, hv2⟩ : ∃ fo : Nat → Nat → Value, ((Value.slice A l.length l.length = .slice none 0 0 ∧ l.length = 0) ∨ ∃ ad c, Value.slice A l.length l.length = .slice (some ad) l.length c ∧ (∀ i j, i < l.length → j < ku → w.cell? (ad.add (i * ku + j)) = some (fo i j))) ∧
          ∀ i j, i < l.length → j < ku → DR Z w ((l.getD i .dead).cells.getD j .dead) (fo i j) := by
        rcases hdv.sl_inv with ⟨rfl, a0, c0, h1, h2⟩ | ⟨b', p', c'', k', xs, h1, f1, f2, f3, f4⟩
        · refine ⟨fun _ _ => undef, ?_, fun i j hi => absurd hi (by simp)⟩
          cases a0 with
          | none => rw [h2 rfl] at h1; exact .inl ⟨h1, rfl⟩
          | some ad => exact .inr ⟨ad, c0, h1, fun i j hi => absurd hi (by simp)⟩
        · have hk' : ∀ i, i < l.length → k' = ku := fun i hi => by rw [← f2 i hi, uni_at d2' hi]
          refine ⟨xs, .inr ⟨⟨b', p', none⟩, c'', h1, fun i j hi hj => ?_⟩, fun i j hi hj => ?_⟩
          · obtain rfl := hk' i hi; rw [Addr.add_lit]; exact (f3 i j hi hj).2
          · obtain rfl := hk' i hi; exact f4 i j hi hj
      have hone : ∀ i j, i < m.length → j < ku → (fn i j).oneCell' = true := fun i j hi hj =>
        (e4 i j hi hj).one (d2_cells (all_getD c4 hi) j (by rw [e2 i hi]; exact hj))
      have hO : OwnS P Z (fun _ => False) M0 w0.heap.size w e (.slice A l.length l.length) := ⟨A, _, _, rfl, .inl ⟨rfl, hA⟩⟩
      obtain ⟨r, w', hrun, hG⟩ := append_some (P := P) (ty := ty) ht hn hb hz c2 c1 hv1 hO hmp e3 hone d4' d5'
      obtain ⟨g, cap, cur, rfl, g1, g2, g3, g4, g5, g6⟩ := hG.out
      obtain ⟨rfl, G⟩ : g = w.heap.size ∧ Grow w w' := by
        rcases g6 with h | ⟨h, _⟩
        · exact h
        · cases A <;> simp [spare] at h
      have hlm : (l ++ m).length = l.length + m.length := by simp
      have hgt : ∀ i, i < l.length + m.length → ((l ++ m).map s2).getD i .dead = s2 ((l ++ m).getD i .dead) := fun i hi => getD_map_lt (by rw [hlm]; exact hi)
      have hget1 : ∀ i, i < l.length → (l ++ m).getD i .dead = l.getD i .dead := fun i hi => by simp [List.getD_eq_getElem?_getD, List.getElem?_append_left hi]
      have hget2 : ∀ i, ¬ i < l.length → (l ++ m).getD i .dead = m.getD (i - l.length) .dead := fun i hi => by simp [List.getD_eq_getElem?_getD, List.getElem?_append_right (Nat.le_of_not_lt hi)]
      have hall : (l ++ m).all d2 = true := by rw [List.all_append, d3', c4]; rfl
      have hcl : ∀ i, i < l.length + m.length → ((l ++ m).getD i .dead).cells.length = ku := fun i hi => by
        by_cases h : i < l.length
        · rw [hget1 i h]; exact uni_at d2' h
        · rw [hget2 i h]; exact uni_at c3 (by omega)
      have hcl2 : ∀ i, i < l.length + m.length → (((l ++ m).map s2).getD i .dead).cells.length = ku := fun i hi => by
        rw [hgt i hi, cells_s1 (all_getD hall (by rw [hlm]; exact hi)), List.length_map]; exact hcl i hi
      obtain ⟨E', X'⟩ := E.new' (o := .row true 0 ku e ((l ++ m).map s2)) (bk := ⟨w.heap.size, 0, cap, ku⟩) G ⟨Nat.le_refl _, lt_of_heap g1⟩ (fun X => by
        refine ⟨rfl, rfl, c1, hn, by simp; exact g2, g3, mem_cells (fun i hi => hcl2 i (by simpa using hi)), fun _ => ?_, cur, g1, g4, row_cells g1 (by simp) (fun i hi => hcl2 i hi) g5 (fun i j hi hj => ?_)⟩
        · rw [List.all_map]
          exact List.all_eq_true.mpr fun q hq => d2_s2 (List.all_eq_true.mp hall q hq)
        · rw [hgt i hi, cells_s1 (all_getD hall (by rw [hlm]; exact hi)), getD_map_lt (by rw [hcl i hi]; exact hj)]
          have : DR Z w (((l ++ m).getD i .dead).cells.getD j .dead) (if i < l.length then fo i j else fn (i - l.length) j) := by
            by_cases h : i < l.length
            · rw [hget1 i h, if_pos h]; exact hv2 i j h hj
            · rw [hget2 i h, if_neg h]; exact e4 _ j (by omega) hj
          exact (this.ext X.z).r1)
      refine ⟨_, w', Z, _, hrun, E', X', ⟨⟨w.heap.size, 0, cap, ku⟩, some ⟨w.heap.size, 0, none⟩, cap, ?_, Nat.le_refl _, rfl, g2, (fun h => by cases h), fun _ => ⟨rfl, rfl⟩⟩⟩
      rw [← E.bl, List.getElem?_append_right (Nat.le_refl _)]; simp
  · -- a row
    rename_i id ver k
    split at h
    case h_2 => cases h
    rename_i d ver' n' e' l hS
    split at h
    case isFalse => cases h
    rename_i hc
    obtain ⟨rfl, rfl, rfl, d4', d5', d6'⟩ := hc
    simp only [Option.some.injEq, Prod.mk.injEq] at h
    obtain ⟨rfl, rfl⟩ := h
    obtain ⟨bk, hbk, a2, a3, a4, h1, h2, h3, h4, h5, h6, h7, h8, cur, h9, h10, h11⟩ := E.ob _ _ hS rfl
    obtain ⟨bk', A, C, f1, f2, rfl, f4, f5, f6⟩ := hs
    rw [hbk] at f1
    obtain rfl := Option.some.inj f1
    obtain ⟨rfl, rfl⟩ := f6 h1
    have hltb : id < β.length := (List.getElem?_eq_some_iff.1 hbk).1
    have hlen : (l.take k).length = k := by simp; omega
    have htk : ∀ i, i < k → (l.take k).getD i .dead = l.getD i .dead := fun i hi => by simp [List.getD_eq_getElem?_getD, List.getElem?_take, hi]
    have hlk : ∀ i, i < l.length → (l.getD i .dead).cells.length = n' := fun i hi => by
      rw [List.getD_eq_getElem?_getD, List.getElem?_eq_getElem hi]; exact h7 _ (List.getElem_mem hi)
    by_cases hm : m = []
    · subst hm
      obtain ⟨B, c', rfl⟩ : ∃ B c, u = .slice B 0 c := by
        rcases hsr with ⟨_, B, c, rfl⟩ | ⟨b', p', c', k', xs, rfl, _⟩
        · exact ⟨_, _, rfl⟩
        · exact ⟨_, _, rfl⟩
      obtain ⟨E', X'⟩ := E.put (o' := .row d (ver' + 1) n' e' (l.take k ++ ([] : List AV).map s2)) (b' := ⟨bk.g, bk.v + 1, bk.c, bk.k⟩) hS rfl hbk (Keep.refl _ w) (.inl rfl) (by simp) (fun h => by simp at h) (fun X => by
        have X0 : VX Z Z β (β.set id ⟨bk.g, bk.v + 1, bk.c, bk.k⟩) [] [] [] [] w w := ⟨X.z, X.b, Nat.le_refl _, fun _ _ h => absurd h (Nat.not_lt_zero _)⟩
        refine ⟨by rw [h1], h2, h3, h4, by simp; omega, h6, fun q hq => h7 q (List.mem_of_mem_take (by simpa using hq)), fun hd => ?_, cur, h9, h10, fun i j hi hj => ?_⟩
        · simp only [List.map_nil, List.append_nil]
          exact List.all_eq_true.mpr fun q hq => List.all_eq_true.mp (h8 hd) q (List.mem_of_mem_take hq)
        · simp only [List.map_nil, List.append_nil] at hi ⊢
          rw [hlen] at hi
          rw [htk i hi]
          exact (h11 i j (by omega) hj).ext X0)
      refine ⟨_, w, Z, _, append_none ht hn f4 (.inr trivial), E', X', ⟨⟨bk.g, bk.v + 1, bk.c, bk.k⟩, some ⟨bk.g, 0, none⟩, bk.c, List.getElem?_set_self hltb, by simp [h1], by simp, f4, (fun h => by cases h), fun _ => ⟨rfl, rfl⟩⟩⟩
    · rcases hsr with ⟨rfl, _⟩ | ⟨q, p, c', ku, fn, rfl, e2, e3, e4⟩
      · exact absurd rfl hm
      have hmp : 0 < m.length := List.length_pos_iff.mpr hm
      have hku : ku = n' := by rw [← e2 0 hmp, uni_at c3 hmp]
      subst hku
      have hone : ∀ i j, i < m.length → j < ku → (fn i j).oneCell' = true := fun i j hi hj =>
        (e4 i j hi hj).one (d2_cells (all_getD c4 hi) j (by rw [e2 i hi]; exact hj))
      have hcur : ∀ i j, i < k → j < ku → w.cell? ⟨bk.g, i * ku + j, none⟩ = some (cur.getD (i * ku + j) undef) := fun i j hi hj => by
        have h12 : i * ku + j < cur.size := by
          rw [h10]
          have := Nat.mul_le_mul_right ku (show i + 1 ≤ bk.c by omega)
          rw [Nat.add_mul] at this; omega
        rw [cell_of_row w bk.g _ cur e' (0, 0) h9]
        simp [Array.getD_eq_getD_getElem?, Array.getElem?_eq_getElem h12]
      have hO : OwnS P Z (fun _ => False) M0 w0.heap.size w e' (.slice (some ⟨bk.g, 0, none⟩) k bk.c) :=
        ⟨_, _, _, rfl, .inr ⟨bk.g, cur, ku, rfl, a2, h9, f4, h6, hn, h10, fun o hz => absurd hz (a4 o), fun h => h⟩⟩
      obtain ⟨r, w', hrun, hG⟩ := append_some (P := P) (ty := ty) (len := k) (fo := fun i j => cur.getD (i * ku + j) undef) ht hn hb hz c2 c1 (.inr ⟨_, _, rfl, fun i j hi hj => by rw [Addr.add_lit, Nat.zero_add]; exact hcur i j hi hj⟩) hO hmp e3 hone d5' d6'
      obtain ⟨g, cap, cur', rfl, g1, g2, g3, g4, g5, g6⟩ := hG.out
      have hgc : (g = bk.g ∨ (w.heap.size ≤ g ∧ g < w'.heap.size)) ∧ Keep (fun k => k = bk.g) w w' := by
        rcases g6 with ⟨rfl, G⟩ | ⟨q1, q2, q3, q4, q5⟩
        · exact ⟨.inr ⟨Nat.le_refl _, lt_of_heap g1⟩, G.weak fun _ _ h => h.elim⟩
        · have : g = bk.g := by
            simp only [spare] at q1
            split at q1
            · cases q1
            · simpa using q1.symm
          subst this
          exact ⟨.inl rfl, q4⟩
      have hlm : (l.take k ++ m.map s2).length = k + m.length := by simp; omega
      have hget1 : ∀ i, i < k → (l.take k ++ m.map s2).getD i .dead = l.getD i .dead := fun i hi => by
        rw [List.getD_eq_getElem?_getD, List.getElem?_append_left (by rw [hlen]; exact hi), ← List.getD_eq_getElem?_getD, htk i hi]
      have hget2 : ∀ i, ¬ i < k → i < k + m.length → (l.take k ++ m.map s2).getD i .dead = s2 (m.getD (i - k) .dead) := fun i hi hi2 => by
        rw [List.getD_eq_getElem?_getD, List.getElem?_append_right (by rw [hlen]; omega), hlen, ← List.getD_eq_getElem?_getD, getD_map_lt (by omega)]
      have hcl2 : ∀ i, i < k + m.length → ((l.take k ++ m.map s2).getD i .dead).cells.length = ku := fun i hi => by
        by_cases h : i < k
        · rw [hget1 i h]; exact hlk i (by omega)
        · rw [hget2 i h hi]; exact hmk _ (by omega)
      obtain ⟨E', X'⟩ := E.put (o' := .row d (ver' + 1) ku e' (l.take k ++ m.map s2)) (b' := ⟨g, bk.v + 1, cap, bk.k⟩) hS rfl hbk hgc.2 hgc.1 (by simp) (fun h => by simp at h) (fun X => by
        have X0 : VX Z Z β (β.set id ⟨g, bk.v + 1, cap, bk.k⟩) [] [] [] [] w w' := ⟨X.z, X.b, Nat.le_refl _, fun _ _ h => absurd h (Nat.not_lt_zero _)⟩
        refine ⟨by rw [h1], h2, h3, h4, by rw [hlm]; exact g2, g3, mem_cells (fun i hi => hcl2 i (by rw [hlm] at hi; exact hi)), fun hd => ?_, cur', g1, g4, row_cells g1 hlm hcl2 g5 (fun i j hi hj => ?_)⟩
        · rw [List.all_append, List.all_map, Bool.and_eq_true]
          exact ⟨List.all_eq_true.mpr fun q hq => List.all_eq_true.mp (h8 hd) q (List.mem_of_mem_take hq), List.all_eq_true.mpr fun q hq => d2_s2 (List.all_eq_true.mp c4 q hq)⟩
        · by_cases h : i < k
          · rw [hget1 i h, if_pos h]
            exact (h11 i j (by omega) hj).ext X0
          · rw [hget2 i h hi, if_neg h, cells_s1 (all_getD c4 (by omega)), getD_map_lt (by rw [e2 _ (by omega)]; exact hj)]
            exact ((e4 (i - k) j (by omega) hj).ext X.z).r1)
      refine ⟨_, w', Z, _, hrun, E', X', ⟨⟨g, bk.v + 1, cap, bk.k⟩, some ⟨g, 0, none⟩, cap, List.getElem?_set_self hltb, by simp [h1], rfl, g2, (fun h => by cases h), fun _ => ⟨rfl, rfl⟩⟩⟩
  · cases h
theorem appX_run (E : EN P w0 Z0 M0 Z β γ S T w) {rw' : Bool} {t ty : TypeId} {s x y : AV} {v u : Value} {S' : Obs} {T' : Toks} (hs : R3 Z β γ T w P s v) (hx : R3 Z β γ T w P x u) (h : appX P rw' t s x S T = some (y, S', T')) :
    ∃ r w' Z' β' γ', (Builtin.append_ #[t, t] ty #[v, u]).run P w = .ok r w' ∧ EN P w0 Z0 M0 Z' β' γ' S' T' w' ∧ VX Z Z' β β' γ γ' T T' w w' ∧ R3 Z' β' γ' T' w' P y r := by
  unfold appX at h
  split at h
  · obtain ⟨q, hq, h⟩ := Option.map_eq_some_iff.1 h
    simp only [Prod.mk.injEq] at h
    obtain ⟨rfl, rfl, rfl⟩ := h
    obtain ⟨r, w', Z', β', h1, h2, h3, h4⟩ := appR_run E (ty := ty) hs hx hq
    exact ⟨r, w', Z', β', γ, h1, h2, h3, h4⟩
  · split at h
    · rename_i hsl
      obtain ⟨q, hq, h⟩ := Option.map_eq_some_iff.1 h
      simp only [Prod.mk.injEq] at h
      obtain ⟨rfl, rfl, rfl⟩ := h
      simp only [Bool.and_eq_true] at hsl
      cases x with
      | sl o2 m =>
        obtain ⟨r, w', Z', γ', h1, h2, h3, h4⟩ := app_run E (ty := ty) hs (fun _ => .of hx.1) hq
        exact ⟨r, w', Z', β, γ', h1, h2, h3, h4⟩
      | _ => simp [isSl] at hsl
    · split at h
      · obtain ⟨r, w', Z', γ', h1, h2, h3, h4⟩ := appK_run E (ty := ty) hs hx h
        exact ⟨r, w', Z', β, γ', h1, h2, h3, h4⟩
      · split at h
        case h_2 => cases h
        rename_i m hm
        obtain ⟨q, hq, h⟩ := Option.map_eq_some_iff.1 h
        simp only [Prod.mk.injEq] at h
        obtain ⟨rfl, rfl, rfl⟩ := h
        obtain ⟨r, w', Z', γ', h1, h2, h3, h4⟩ := app_run E (ty := ty) hs (fun hd => srcL_r E hm hd hx) hq
        exact ⟨r, w', Z', β, γ', h1, h2, h3, h4⟩
      · cases h
end
end Go.Proofs.Ytplpmelpoajpdaa.Ev
namespace Go.Proofs.Ytplpmelpoajpdaa.Ev
open Go
set_option linter.unusedSectionVars false
set_option linter.unusedVariables false
set_option linter.unusedSimpArgs false
section
variable [TVm] {P : Program} {w0 : World} {Z0 : Zs} {M0 : Nat → Prop} {Z Z' : Zs} {β : List Bk} {γ : List Value} {S : Obs} {T : Toks} {w w' : World}
/-- A list of elements, and their cells in a row. -/
structure EL (Z : Zs) (w : World) (n k : Nat) (L : List AV) (ys : List Value) : Prop where
  ll : L.length = n
  yl : ys.length = n * k
  ec : ∀ i, i < n → (L.getD i .dead).cells.length = k
  dr : ∀ i j, i < n → j < k → DR Z w ((L.getD i .dead).cells.getD j .dead) (ys.getD (i * k + j) undef)
theorem s2_cells (x : AV) : (s2 x).cells = x.cells.map s1 := by
  cases x <;> rfl
theorem EL.set {n k : Nat} {L : List AV} {ys vs : List Value} (h : EL Z w n k L ys) {i : Nat} {x : AV} (hi : i < n) (hx : x.cells.length = k) (hv : vs.length = k) (hd : ∀ j, j < k → DR Z w (x.cells.getD j .dead) (vs.getD j undef)) :
    EL Z w n k (L.set i (s2 x)) (ys.take (i * k) ++ (vs ++ ys.drop (i * k + vs.length))) := by
  have hik : i * k + k ≤ n * k := by have := Nat.mul_le_mul_right k hi; rw [Nat.succ_mul] at this; exact this
  have hL : i < L.length := by rw [h.ll]; exact hi
  have htl : (ys.take (i * k)).length = i * k := by rw [List.length_take, h.yl, Nat.min_eq_left (by omega)]
  refine ⟨by simp [h.ll], by rw [List.length_append, List.length_append, List.length_drop, htl, h.yl, hv]; omega, fun a ha => ?_, fun a j ha hj => ?_⟩
  · by_cases e : a = i
    · subst e
      have : (L.set a (s2 x)).getD a .dead = s2 x := by simp [List.getD_eq_getElem?_getD, hL]
      rw [this, s2_cells]; simpa using hx
    · have : (L.set i (s2 x)).getD a .dead = L.getD a .dead := by simp [List.getD_eq_getElem?_getD, List.getElem?_set_ne (Ne.symm e)]
      rw [this]; exact h.ec a ha
  · by_cases e : a = i
    · subst e
      have e1 : (L.set a (s2 x)).getD a .dead = s2 x := by simp [List.getD_eq_getElem?_getD, hL]
      have e2 : (ys.take (a * k) ++ (vs ++ ys.drop (a * k + vs.length))).getD (a * k + j) undef = vs.getD j undef := by
        rw [List.getD_eq_getElem?_getD, List.getElem?_append_right (by rw [htl]; omega), htl, List.getElem?_append_left (by omega), List.getD_eq_getElem?_getD]
        congr 2; omega
      rw [e1, e2, s2_cells, getD_map_lt (by omega)]
      exact (hd j hj).s1
    · have e1 : (L.set i (s2 x)).getD a .dead = L.getD a .dead := by simp [List.getD_eq_getElem?_getD, List.getElem?_set_ne (Ne.symm e)]
      have e2 : (ys.take (i * k) ++ (vs ++ ys.drop (i * k + vs.length))).getD (a * k + j) undef = ys.getD (a * k + j) undef := by
        by_cases hlt : a < i
        · have := idx_lt hlt hj
          rw [List.getD_eq_getElem?_getD, List.getElem?_append_left (by omega), List.getElem?_take, if_pos this, List.getD_eq_getElem?_getD]
        · have hai : (i + 1) * k ≤ a * k := Nat.mul_le_mul_right k (by omega)
          rw [Nat.succ_mul] at hai
          rw [List.getD_eq_getElem?_getD, List.getElem?_append_right (by omega), List.getElem?_append_right (by omega), List.getElem?_drop, List.getD_eq_getElem?_getD]
          congr 2; omega
      rw [e1, e2]; exact h.dr a j ha hj
theorem rows_r {fr : List AV} {a : Act} (F : FR P Z β γ T w fr a) {n k : Nat} : ∀ (ps : List (Nat × Operand)) (L : List AV) (ys : Array Value),
    (ps.all fun p => decide (p.1 < n) && ((opd fr p.2).cells.length == k && ((opd fr p.2).cells.all one && d2 (opd fr p.2)))) = true → EL Z w n k L ys.toList →
    ∃ ys', Instr.fill (fun i => some (i * k, k)) ys (ps.map fun p => (p.1, a.eval p.2)) = some ys' ∧ EL Z w n k (ps.foldl (fun l p => l.set p.1 (s2 (opd fr p.2))) L) ys'.toList
  | [], L, ys, _, h => ⟨ys, rfl, h⟩
  | (i, x) :: ps, L, ys, hc, h => by
    simp only [List.all_cons, Bool.and_eq_true, decide_eq_true_eq, beq_iff_eq] at hc
    obtain ⟨⟨h1, h2, h3, h4⟩, hrest⟩ := hc
    have hx := (opd_r F x).rl h3
    have hsz : (a.eval x).cells.size = k := by have := hx.1; simp at this; omega
    have hik : i * k + k ≤ n * k := by have := Nat.mul_le_mul_right k h1; rw [Nat.succ_mul] at this; exact this
    have hys : ys.size = n * k := by rw [← Array.length_toList]; exact h.yl
    have hput := put_run ys (a.eval x).cells (i * k) (by omega)
    have hset := h.set (vs := (a.eval x).cells.toList) h1 h2 (by simpa using hsz) (fun j hj => (hx.2 j (by omega)).dr (d2_cells h4 j (by omega)))
    obtain ⟨ys', h5, h6⟩ := rows_r F (n := n) (k := k) ps (L.set i (s2 (opd fr x))) ((a.eval x).cells.zipIdx.foldl (fun cs (p : Value × Nat) => cs.setIfInBounds (i * k + p.2) p.1) ys)
      (by simpa [List.all_eq_true] using hrest) (by rw [hput]; simpa using hset)
    refine ⟨ys', ?_, h6⟩
    simp only [List.map_cons, Instr.fill, hsz, ne_eq, not_true_eq_false, decide_false, Bool.false_or]
    rw [if_neg (by simp; omega)]
    exact h5
theorem rows_run (E : EN P w0 Z0 M0 Z β γ S T w) {fr : List AV} {a : Act} (F : FR P Z β γ T w fr a) {t el : TypeId} {n k : Nat} {ag : Bool} {z : List AV} {ps : Array (Nat × Operand)} (he : tel P t = some el) (hk : tsz P el = some k) (hz : tzero P el = some z)
    (h1 : n * k ≤ 16777216) (h2 : (ps.toList.all fun p => decide (p.1 < n) && ((opd fr p.2).cells.length == k && ((opd fr p.2).cells.all one && d2 (opd fr p.2)))) = true) (h3 : (ag || k == 1) = true) (h4 : 0 < k) (h5 : z.length = k) (h6 : (z.all d1 && z.all one) = true) :
    ∃ r w' Z', (Instr.buildSlice t n (ps.map fun (i, x) => (i, a.eval x))).run P w = .ok r w' ∧ EN P w0 Z0 M0 Z' β γ S T w' ∧ VX Z Z' β β γ γ T T w w' ∧
      R3 Z' β γ T w' P (.sl .full (ps.toList.foldl (fun l p => l.set p.1 (s2 (opd fr p.2))) (List.replicate n (if ag = true then .agg z else z.getD 0 .dead)))) r := by
  obtain ⟨z0, hz0, hzz⟩ := run_zero (w := w) hz
  have hzs : z0.cells.size = k := by rw [← h5, hzz]; simp
  simp only [Bool.and_eq_true] at h6
  have hzc : (if ag = true then AV.agg z else z.getD 0 .dead).cells = z := by
    cases ag with
    | true => rfl
    | false =>
      have hk1 : k = 1 := by simpa using h3
      match z, h5.trans hk1, h6 with
      | [x], _, h6 =>
        have hx : one x = true := by simpa using h6.2
        cases x <;> first | rfl | exact absurd hx (by simp [one])
  have hbase : EL Z w n k (List.replicate n (if ag = true then .agg z else z.getD 0 .dead)) ((Array.range (n * k)).map (z0.cells[· % z0.cells.size]!)).toList := by
    have hg : ∀ i, i < n → (List.replicate n (if ag = true then AV.agg z else z.getD 0 .dead)).getD i .dead = (if ag = true then .agg z else z.getD 0 .dead) := fun i hi => by simp [List.getD_eq_getElem?_getD, hi]
    refine ⟨by simp, by simp, fun i hi => by rw [hg i hi, hzc, h5], fun i j hi hj => ?_⟩
    rw [hg i hi, hzc]
    have hidx := idx_lt hi hj
    have e1 : (((Array.range (n * k)).map (z0.cells[· % z0.cells.size]!)).toList).getD (i * k + j) undef = z0.cells.getD j undef := by
      have hmod : (i * k + j) % k = j := by rw [Nat.mul_comm, Nat.mul_add_mod]; exact Nat.mod_eq_of_lt hj
      have hj' : j < z0.cells.size := by omega
      have hbang : z0.cells[j]! = z0.cells.getD j undef := by rw [getElem!_pos z0.cells j hj']; simp [Array.getD, hj']
      rw [← hbang]
      simp [List.getD_eq_getElem?_getD, hidx, hzs, hmod]
    rw [e1]
    have e2 : z.getD j .dead = toAV0 (z0.cells.getD j undef) := by
      rw [hzz]
      have hj' : j < z0.cells.size := by omega
      simp [List.getD_eq_getElem?_getD, Array.getD, hj']
    rw [e2]
    have hd : d1 (toAV0 (z0.cells.getD j undef)) = true := by rw [← e2]; exact all_getD h6.1 (by omega)
    exact (toAV0_r1 (P := P) (β := β) (γ := γ) (T := T)).dr hd
  obtain ⟨ys, hf, hEL⟩ := rows_r F ps.toList _ _ h2 hbase
  have hmap : (ps.map fun (p : Nat × Operand) => (p.1, a.eval p.2)).toList = ps.toList.map fun p => (p.1, a.eval p.2) := by simp
  let Z' : Zs := fun b o => Z b o ∨ (b = w.heap.size ∧ o < n * k)
  obtain ⟨E', X'⟩ := E.grow (Z' := Z') (grow_alloc w (.cells ys el)) (fun _ _ h => .inl h) (fun b o h => by rcases h with h | ⟨rfl, _⟩ <;> simp [*]) (fun b o h => by
    rcases h with h | ⟨rfl, _⟩
    · have := E.zs b o h; simp; omega
    · simp)
  refine ⟨.slice (some ⟨w.heap.size, 0, none⟩) n n, w.alloc (.cells ys el), Z', ?_, E', X', ?_⟩
  · have hnk : ¬ (16777216 < n * k) := by omega
    by_cases h0 : n * k = 0
    · have hn0 : n = 0 := by
        rcases Nat.mul_eq_zero.mp h0 with h | h
        · exact h
        · omega
      subst hn0
      have hps : ps.toList = [] := by
        cases hq : ps.toList with
        | nil => rfl
        | cons p l => rw [hq] at h2; simp at h2
      have hy0 : ys = #[] := by
        apply Array.ext'
        exact List.eq_nil_of_length_eq_zero (by rw [hEL.yl, Nat.zero_mul])
      have hpe : ps = #[] := by apply Array.ext'; simpa using hps
      subst hpe; subst hy0
      simp [Instr.buildSlice, run_underlying (tel_inv he), run_sz hk, Instr.fill, newRow, show Array.range 0 = #[] from rfl]
    · simp only [Instr.buildSlice, Sem.run_bind, run_underlying (tel_inv he), Result.andThen_ok, run_sz hk]
      rw [if_neg (by omega), if_neg h0]
      simp only [Sem.run_bind, hz0, Result.andThen_ok, Sem.run_pure]
      rw [hmap, hf]
      simp [newRow]
  · have hl : (ps.toList.foldl (fun l p => l.set p.1 (s2 (opd fr p.2))) (List.replicate n (if ag = true then .agg z else z.getD 0 .dead))).length = n := hEL.ll
    refine ⟨?_, ⟨some ⟨w.heap.size, 0, none⟩, by rw [hl]⟩⟩
    have hh := heap_alloc_new w (.cells ys el)
    have := DR.sl (Z := Z') (w := w.alloc (.cells ys el)) .full _ w.heap.size 0 n k (fun i j => ys.toList.getD (i * k + j) undef) (by rw [hl]; exact Nat.le_refl _) (fun i hi => hEL.ec i (by rw [hl] at hi; exact hi)) (fun i j hi hj => by
      rw [hl] at hi
      have hidx := idx_lt hi hj
      have hyl := hEL.yl
      refine ⟨.inr ⟨rfl, by omega⟩, ?_⟩
      rw [cell_of_row _ w.heap.size _ ys el (0, 0) hh, Nat.zero_add]
      rw [List.getD_eq_getElem?_getD, ← Array.getElem?_toList, List.getElem?_eq_getElem (by omega)]
      rfl) (fun i j hi hj => (hEL.dr i j (by rw [hl] at hi; exact hi) hj).ext X'.z)
    rw [hl] at this
    exact this
/-- .. as values, not data. -/
structure EL2 (P : Program) (Z : Zs) (β : List Bk) (w : World) (n k : Nat) (L : List AV) (ys : List Value) : Prop where
  ll : L.length = n
  yl : ys.length = n * k
  ec : ∀ i, i < n → (L.getD i .dead).cells.length = k
  dr : ∀ i j, i < n → j < k → R1 Z β [] [] w P ((L.getD i .dead).cells.getD j .dead) (ys.getD (i * k + j) undef)
theorem t2_cells (x : AV) (h : ∀ l, x ≠ .tup l) : (t2 x).cells = x.cells.map t1 := by
  cases x with
  | sl o l => cases o <;> rfl
  | _ => rfl
theorem EL2.set {n k : Nat} {L : List AV} {ys vs : List Value} (h : EL2 P Z β w n k L ys) {i : Nat} {x : AV} (hnt : ∀ l, x ≠ .tup l) (hi : i < n) (hx : x.cells.length = k) (hv : vs.length = k) (hd : ∀ j, j < k → R1 Z β γ T w P (x.cells.getD j .dead) (vs.getD j undef)) :
    EL2 P Z β w n k (L.set i (t2 x)) (ys.take (i * k) ++ (vs ++ ys.drop (i * k + vs.length))) := by
  have hik : i * k + k ≤ n * k := by have := Nat.mul_le_mul_right k hi; rw [Nat.succ_mul] at this; exact this
  have hL : i < L.length := by rw [h.ll]; exact hi
  have htl : (ys.take (i * k)).length = i * k := by rw [List.length_take, h.yl, Nat.min_eq_left (by omega)]
  refine ⟨by simp [h.ll], by rw [List.length_append, List.length_append, List.length_drop, htl, h.yl, hv]; omega, fun a ha => ?_, fun a j ha hj => ?_⟩
  · by_cases e : a = i
    · subst e
      have : (L.set a (t2 x)).getD a .dead = t2 x := by simp [List.getD_eq_getElem?_getD, hL]
      rw [this, t2_cells x hnt]; simpa using hx
    · have : (L.set i (t2 x)).getD a .dead = L.getD a .dead := by simp [List.getD_eq_getElem?_getD, List.getElem?_set_ne (Ne.symm e)]
      rw [this]; exact h.ec a ha
  · by_cases e : a = i
    · subst e
      have e1 : (L.set a (t2 x)).getD a .dead = t2 x := by simp [List.getD_eq_getElem?_getD, hL]
      have e2 : (ys.take (a * k) ++ (vs ++ ys.drop (a * k + vs.length))).getD (a * k + j) undef = vs.getD j undef := by
        rw [getD_mid (by rw [h.yl, hv]; omega), if_neg (by omega), if_pos (by omega)]
        congr 1; omega
      rw [e1, e2, t2_cells x hnt, getD_map_lt (by omega)]
      exact (hd j hj).t1
    · have e1 : (L.set i (t2 x)).getD a .dead = L.getD a .dead := by simp [List.getD_eq_getElem?_getD, List.getElem?_set_ne (Ne.symm e)]
      have e2 : (ys.take (i * k) ++ (vs ++ ys.drop (i * k + vs.length))).getD (a * k + j) undef = ys.getD (a * k + j) undef := by
        rw [getD_mid (by rw [h.yl, hv]; omega)]
        by_cases hlt : a < i
        · have := idx_lt hlt hj
          rw [if_pos this]
        · have hai : (i + 1) * k ≤ a * k := Nat.mul_le_mul_right k (by omega)
          rw [Nat.succ_mul] at hai
          rw [if_neg (by omega), if_neg (by omega)]
      rw [e1, e2]; exact h.dr a j ha hj
theorem rows2_r {fr : List AV} {a : Act} (F : FR P Z β γ T w fr a) {n k : Nat} : ∀ (ps : List (Nat × Operand)) (L : List AV) (ys : Array Value),
    (ps.all fun p => decide (p.1 < n) && ((opd fr p.2).cells.length == k && (opd fr p.2).cells.all one)) = true → EL2 P Z β w n k L ys.toList →
    ∃ ys', Instr.fill (fun i => some (i * k, k)) ys (ps.map fun p => (p.1, a.eval p.2)) = some ys' ∧ EL2 P Z β w n k (ps.foldl (fun l p => l.set p.1 (t2 (opd fr p.2))) L) ys'.toList
  | [], L, ys, _, h => ⟨ys, rfl, h⟩
  | (i, x) :: ps, L, ys, hc, h => by
    simp only [List.all_cons, Bool.and_eq_true, decide_eq_true_eq, beq_iff_eq] at hc
    obtain ⟨⟨h1, h2, h3⟩, hrest⟩ := hc
    have hnt : ∀ l, opd fr x ≠ .tup l := by
      intro l e; rw [e] at h3; simp [AV.cells, one] at h3
    have hx := (opd_r F x).rl h3
    have hsz : (a.eval x).cells.size = k := by have := hx.1; simp at this; omega
    have hik : i * k + k ≤ n * k := by have := Nat.mul_le_mul_right k h1; rw [Nat.succ_mul] at this; exact this
    have hys : ys.size = n * k := by rw [← Array.length_toList]; exact h.yl
    have hput := put_run ys (a.eval x).cells (i * k) (by omega)
    have hset := h.set (γ := γ) (T := T) (vs := (a.eval x).cells.toList) hnt h1 h2 (by simpa using hsz) (fun j hj => hx.2 j (by omega))
    obtain ⟨ys', h5, h6⟩ := rows2_r F (n := n) (k := k) ps (L.set i (t2 (opd fr x))) ((a.eval x).cells.zipIdx.foldl (fun cs (p : Value × Nat) => cs.setIfInBounds (i * k + p.2) p.1) ys)
      (by simpa [List.all_eq_true] using hrest) (by rw [hput]; simpa using hset)
    refine ⟨ys', ?_, h6⟩
    simp only [List.map_cons, Instr.fill, hsz, ne_eq, not_true_eq_false, decide_false, Bool.false_or]
    rw [if_neg (by simp; omega)]
    exact h5
theorem zero_cells {ag : Bool} {k : Nat} {z : List AV} (h3 : (ag || k == 1) = true) (h5 : z.length = k) (h6 : z.all one = true) : (if ag = true then AV.agg z else z.getD 0 .dead).cells = z := by
  cases ag with
  | true => rfl
  | false =>
    have hk1 : k = 1 := by simpa using h3
    match z, h5.trans hk1, h6 with
    | [x], _, h6 =>
      have hx : one x = true := by simpa using h6
      cases x <;> first | rfl | exact absurd hx (by simp [one])
theorem zero_d2 {ag : Bool} {k : Nat} {z : List AV} (h3 : (ag || k == 1) = true) (h5 : z.length = k) (h6 : z.all d1 = true) : d2 (if ag = true then AV.agg z else z.getD 0 .dead) = true := by
  cases ag with
  | true => exact h6
  | false =>
    have hk1 : k = 1 := by simpa using h3
    match z, h5.trans hk1, h6 with
    | [x], _, h6 =>
      have hx : d1 x = true := by simpa using h6
      show d2 x = true
      cases x <;> first | exact hx | exact absurd hx (by simp [d1, d0])
/-- Zeros, as they lie in a row. -/
theorem zero_row {el : TypeId} {n k : Nat} {ag : Bool} {z : List AV} {z0 : Value} (hzz : z = z0.cells.toList.map toAV0) (h3 : (ag || k == 1) = true) (h5 : z.length = k) (h6 : z.all one = true) :
    EL2 P Z β w n k (List.replicate n (if ag = true then .agg z else z.getD 0 .dead)) ((Array.range (n * k)).map (z0.cells[· % z0.cells.size]!)).toList := by
  have hzs : z0.cells.size = k := by rw [← h5, hzz]; simp
  have hzc := zero_cells h3 h5 h6
  have hg : ∀ i, i < n → (List.replicate n (if ag = true then AV.agg z else z.getD 0 .dead)).getD i .dead = (if ag = true then .agg z else z.getD 0 .dead) := fun i hi => by simp [List.getD_eq_getElem?_getD, hi]
  refine ⟨by simp, by simp, fun i hi => by rw [hg i hi, hzc, h5], fun i j hi hj => ?_⟩
  rw [hg i hi, hzc]
  have hidx := idx_lt hi hj
  have e1 : (((Array.range (n * k)).map (z0.cells[· % z0.cells.size]!)).toList).getD (i * k + j) undef = z0.cells.getD j undef := by
    have hmod : (i * k + j) % k = j := by rw [Nat.mul_comm, Nat.mul_add_mod]; exact Nat.mod_eq_of_lt hj
    have hj' : j < z0.cells.size := by omega
    have hbang : z0.cells[j]! = z0.cells.getD j undef := by rw [getElem!_pos z0.cells j hj']; simp [Array.getD, hj']
    rw [← hbang]
    simp [List.getD_eq_getElem?_getD, hidx, hzs, hmod]
  rw [e1]
  have e2 : z.getD j .dead = toAV0 (z0.cells.getD j undef) := by
    rw [hzz]
    have hj' : j < z0.cells.size := by omega
    simp [List.getD_eq_getElem?_getD, Array.getD, hj']
  rw [e2]
  exact toAV0_r1
/-- A new row. -/
theorem newrow (E : EN P w0 Z0 M0 Z β γ S T w) {el : TypeId} {n k : Nat} {L : List AV} {ys : Array Value} {d : Bool} (hk : tsz P el = some k) (h4 : 0 < k) (hm : n ≤ maxLen) (h : EL2 P Z β w n k L ys.toList) (hd : d = true → L.all d2 = true) :
    EN P w0 Z0 M0 Z (β ++ [⟨w.heap.size, 0, n, k⟩]) γ (S ++ [.row d 0 k el L]) T (w.alloc (.cells ys el)) ∧ VX Z Z β (β ++ [⟨w.heap.size, 0, n, k⟩]) γ γ T T w (w.alloc (.cells ys el)) ∧
      R0 Z (β ++ [⟨w.heap.size, 0, n, k⟩]) γ T (w.alloc (.cells ys el)) P (.ms S.length 0 n) (.slice (some ⟨w.heap.size, 0, none⟩) n n) := by
  obtain ⟨E', X'⟩ := E.new (o := .row d 0 k el L) (x := .cells ys el) (bk := ⟨w.heap.size, 0, n, k⟩) rfl (fun X => by
    refine ⟨rfl, rfl, h4, hk, by rw [h.ll]; exact Nat.le_refl _, hm, mem_cells (fun i hi => h.ec i (by rw [h.ll] at hi; exact hi)), hd, ys, heap_alloc_new w _, by rw [← Array.length_toList]; exact h.yl, fun i j hi hj => ?_⟩
    have := h.dr i j (by rw [h.ll] at hi; exact hi) hj
    rw [getD_toList ys] at this
    exact this.ext ⟨X.z, X.b, Nat.le_refl _, fun _ _ h => absurd h (Nat.not_lt_zero _)⟩)
  refine ⟨E', X', ⟨⟨w.heap.size, 0, n, k⟩, _, _, ?_, Nat.le_refl _, rfl, Nat.le_refl _, (fun h => by cases h), fun _ => ⟨rfl, rfl⟩⟩⟩
  rw [← E.bl, List.getElem?_append_right (Nat.le_refl _)]; simp
theorem rows2_run (E : EN P w0 Z0 M0 Z β γ S T w) {fr : List AV} {a : Act} (F : FR P Z β γ T w fr a) {t el : TypeId} {n k : Nat} {ag : Bool} {z : List AV} {ps : Array (Nat × Operand)} (he : tel P t = some el) (hk : tsz P el = some k) (hz : tzero P el = some z)
    (h1 : n * k ≤ 16777216) (hm : n ≤ maxLen) (h2 : (ps.toList.all fun p => decide (p.1 < n) && ((opd fr p.2).cells.length == k && (opd fr p.2).cells.all one)) = true) (h3 : (ag || k == 1) = true) (h4 : 0 < k) (h5 : z.length = k) (h6 : (z.all d1 && z.all one) = true) :
    ∃ r w' β', (Instr.buildSlice t n (ps.map fun (i, x) => (i, a.eval x))).run P w = .ok r w' ∧ EN P w0 Z0 M0 Z β' γ (S ++ [.row (ps.toList.all fun p => d2 (opd fr p.2)) 0 k el (ps.toList.foldl (fun l p => l.set p.1 (t2 (opd fr p.2))) (List.replicate n (if ag = true then .agg z else z.getD 0 .dead)))]) T w' ∧
      VX Z Z β β' γ γ T T w w' ∧ R3 Z β' γ T w' P (.ms S.length 0 n) r := by
  obtain ⟨z0, hz0, hzz⟩ := run_zero (w := w) hz
  simp only [Bool.and_eq_true] at h6
  have hzs : z0.cells.size = k := by rw [← h5, hzz]; simp
  have hbase := zero_row (P := P) (Z := Z) (β := β) (w := w) (el := el) (n := n) hzz h3 h5 h6.2
  obtain ⟨ys, hf, hEL⟩ := rows2_r F ps.toList _ _ h2 hbase
  have hmap : (ps.map fun (p : Nat × Operand) => (p.1, a.eval p.2)).toList = ps.toList.map fun p => (p.1, a.eval p.2) := by simp
  obtain ⟨E', X', hR⟩ := newrow (el := el) (d := ps.toList.all fun p => d2 (opd fr p.2)) E hk h4 hm hEL (fun hd => by
    have hz2 : d2 (if ag = true then AV.agg z else z.getD 0 .dead) = true := zero_d2 h3 h5 h6.1
    have key : ∀ (l : List (Nat × Operand)) (L : List AV), (l.all fun p => d2 (opd fr p.2)) = true → L.all d2 = true → (l.foldl (fun l p => l.set p.1 (t2 (opd fr p.2))) L).all d2 = true := by
      intro l
      induction l with
      | nil => intro L _ h; exact h
      | cons p l ih =>
        intro L h1 h2
        simp only [List.all_cons, Bool.and_eq_true] at h1
        refine ih _ h1.2 (List.all_eq_true.mpr fun q hq => ?_)
        rcases List.mem_or_eq_of_mem_set hq with h | h
        · exact List.all_eq_true.mp h2 q h
        · rw [h]
          have := h1.1
          generalize opd fr p.2 = y at this
          cases y with
          | agg c =>
            simp only [d2, t2, List.all_map, List.all_eq_true] at this ⊢
            intro x hx
            have := this x hx
            show d1 (t1 x) = true
            cases x with
            | sl o l => cases o <;> rfl
            | fn f c =>
              simp only [d1, t1, List.all_map, List.all_eq_true] at this ⊢
              intro q hq
              have := this q hq
              show d0 (t0 q) = true
              cases q with
              | sl o l => cases o <;> rfl
              | _ => exact this
            | _ => exact this
          | sl o l => cases o <;> rfl
          | fn f c =>
            simp only [d2, d1, t2, t1, List.all_map, List.all_eq_true] at this ⊢
            intro q hq
            have := this q hq
            show d0 (t0 q) = true
            cases q with
            | sl o l => cases o <;> rfl
            | _ => exact this
          | _ => exact this
    refine key _ _ hd (List.all_eq_true.mpr fun q hq => ?_)
    rw [(List.mem_replicate.1 hq).2]; exact hz2)
  refine ⟨_, _, _, ?_, E', X', hR⟩
  by_cases h0 : n * k = 0
  · have hn0 : n = 0 := by
      rcases Nat.mul_eq_zero.mp h0 with h | h
      · exact h
      · omega
    subst hn0
    have hps : ps.toList = [] := by
      cases hq : ps.toList with
      | nil => rfl
      | cons p l => rw [hq] at h2; simp at h2
    have hy0 : ys = #[] := by
      apply Array.ext'
      exact List.eq_nil_of_length_eq_zero (by rw [hEL.yl, Nat.zero_mul])
    have hpe : ps = #[] := by apply Array.ext'; simpa using hps
    subst hpe; subst hy0
    simp [Instr.buildSlice, run_underlying (tel_inv he), run_sz hk, Instr.fill, newRow, show Array.range 0 = #[] from rfl]
  · simp only [Instr.buildSlice, Sem.run_bind, run_underlying (tel_inv he), Result.andThen_ok, run_sz hk]
    rw [if_neg (by omega), if_neg h0]
    simp only [Sem.run_bind, hz0, Result.andThen_ok, Sem.run_pure]
    rw [hmap, hf]
    simp [newRow]
theorem d2_s2' (a : AV) : d2 (s2 a) = d2 a := by
  have h0 : ∀ a, d0 (s0 a) = d0 a := fun a => by cases a <;> rfl
  have h1 : ∀ a, d1 (s1 a) = d1 a := fun a => by
    cases a with
    | fn f c => show (c.map s0).all d0 = c.all d0; rw [List.all_map]; congr 1; exact funext h0
    | _ => rfl
  cases a with
  | agg cs => show (cs.map s1).all d1 = cs.all d1; rw [List.all_map]; congr 1; exact funext h1
  | fn f c => exact h1 (.fn f c)
  | _ => rfl
theorem EL2.reps {n k : Nat} {y : AV} {ys : List Value} (h : EL2 P Z β w n k (List.replicate n y) ys) : EL2 P Z β w n k (List.replicate n (s2 y)) ys := by
  have hg : ∀ (z : AV) i, i < n → (List.replicate n z).getD i .dead = z := fun z i hi => by simp [List.getD_eq_getElem?_getD, hi]
  refine ⟨by simp, h.yl, fun i hi => ?_, fun i j hi hj => ?_⟩
  · have := h.ec i hi
    rw [hg _ i hi] at this
    rw [hg _ i hi, s2_cells, List.length_map]; exact this
  · have h1 := h.ec i hi
    have h2 := h.dr i j hi hj
    rw [hg _ i hi] at h1 h2
    rw [hg _ i hi, s2_cells, getD_map_lt (by omega)]
    exact h2.s1
theorem makeSlice_run (E : EN P w0 Z0 M0 Z β γ S T w) {t el : TypeId} {n : Int} {b k : Nat} {ag : Bool} {z : List AV} (he : tel P t = some el) (hk : tsz P el = some k) (hb : tby P el = some b) (hz : tzero P el = some z) (h0 : 0 ≤ n) (h1 : n * b ≤ 140737488355328) (hm : n ≤ maxLen)
    (h3 : (ag || k == 1) = true) (h4 : 0 < k) (h5 : z.length = k) (h6 : (z.all d1 && z.all one) = true) :
    ∃ r w' β', (Instr.makeSlice t (.int .i64 n) (.int .i64 n)).run P w = .ok r w' ∧ EN P w0 Z0 M0 Z β' γ (S ++ [.row true 0 k el (List.replicate n.toNat (s2 (if ag = true then .agg z else z.getD 0 .dead)))]) T w' ∧
      VX Z Z β β' γ γ T T w w' ∧ R3 Z β' γ T w' P (.ms S.length 0 n.toNat) r := by
  obtain ⟨i, z0, hi, rfl, rfl, hz0, hzs⟩ := tby_inv hk hb hz
  have hzz : z = z0.cells.toList.map toAV0 := by
    obtain ⟨z1, hz1, e⟩ := run_zero (w := w) hz
    have : z1 = z0 := by
      have h2 : (zeroValue el).run P w = .ok z0 w := by simp [zeroValue, typeInfo, hi, hz0]
      rw [h2] at hz1; cases hz1; rfl
    rw [e, this]
  simp only [Bool.and_eq_true] at h6
  have hzk : z0.cells.size = i.size := by rw [hzs, h5]
  have hbase := (zero_row (P := P) (Z := Z) (β := β) (w := w) (el := el) (n := n.toNat) hzz h3 h5 h6.2).reps
  obtain ⟨E', X', hR⟩ := newrow (el := el) (d := true) E hk h4 (by simp only [maxLen] at hm ⊢; omega) hbase (fun _ => List.all_eq_true.mpr fun q hq => by
    rw [(List.mem_replicate.1 hq).2, d2_s2']; exact zero_d2 h3 h5 h6.1)
  refine ⟨_, _, _, ?_, E', X', hR⟩
  have hw : IntKind.i64.wrap n = n := by
    simp only [maxLen] at hm
    simp [IntKind.wrap, IntKind.bits, IntKind.signed]; omega
  have hby : (i.bytes : Int) * n ≤ 140737488355328 := by rw [Int.mul_comm]; exact h1
  have hroom : ¬ (n.toNat * i.bytes > roomBytes) := by
    have : (n.toNat * i.bytes : Int) ≤ 140737488355328 := by rw [Int.toNat_of_nonneg h0]; exact h1
    simp only [roomBytes]
    omega
  have hn1 : ¬ (n < 0) := by omega
  have hn2 : ¬ (281474976710656 < (i.bytes : Int) * n) := by omega
  by_cases hz0' : n.toNat = 0
  · have hn0 : n = 0 := by omega
    subst hn0
    simp [Instr.makeSlice, run_underlying (tel_inv he), asInt, asIntOf, typeInfo, hi, run_sz hk, askRoom, newRow, show IntKind.i64.wrap 0 = 0 from hw, show Array.range 0 = #[] from rfl]
  · have hne : n.toNat * i.size ≠ 0 := by
      intro h
      rcases Nat.mul_eq_zero.mp h with h | h
      · exact hz0' h
      · omega
    simp [Instr.makeSlice, run_underlying (tel_inv he), asInt, asIntOf, typeInfo, hi, run_sz hk, askRoom, hroom, newRow, hw, hn1, hn2, hne, zeroValue, hz0]
/-- The same element, several times, in a row's cells. -/
theorem put_rep (E : EN P w0 Z0 M0 Z β γ S T w) {id : Nat} {d : Bool} {v k : Nat} {e : TypeId} {l : List AV} {b : Bk} {y : AV} {a m : Nat} {us : List Value} (ho : S[id]? = some (.row d v k e l)) (hb : β[id]? = some b) (ha : a + m ≤ l.length) (hy : y.cells.length = k) (hd : d2 y = true)
    (hus : us.length = m * k) (hR : ∀ i j, i < m → j < k → R1 Z β [] [] w P (y.cells.getD j .dead) (us.getD (i * k + j) undef)) (h1 : ∀ u ∈ us, u.oneCell' = true) :
    ∃ w', (storeCells ⟨b.g, a * k, none⟩ us).run P w = .ok () w' ∧ EN P w0 Z0 M0 Z β γ (S.set id (.row d v k e (l.take a ++ (List.replicate m y ++ l.drop (a + m))))) T w' ∧ VX Z Z β β γ γ T T w w' := by
  obtain ⟨b', hb', a2, a3, a4, hv, hk, hk0, hsz, hlc, hcm, hcells, hd2, cur, hh, hcs, hcc⟩ := E.ob id _ ho rfl
  obtain rfl : b = b' := by rw [hb] at hb'; exact Option.some.inj hb'
  have hle : a * k + us.length ≤ cur.size := by
    rw [hus, hcs, ← Nat.add_mul]; exact Nat.mul_le_mul_right _ (by omega)
  have hst := run_storeCells_at P b.g (a * k) e us 0 cur w hh (by omega) h1
  simp only [Nat.add_zero, List.append_assoc] at hst
  have hlist : (cur.toList.take (a * k) ++ (us ++ cur.toList.drop (a * k + us.length))).length = cur.size := by simp; omega
  have hget : ∀ q, (cur.toList.take (a * k) ++ (us ++ cur.toList.drop (a * k + us.length))).toArray.getD q undef = if q < a * k then cur.getD q undef else if q < a * k + us.length then us.getD (q - a * k) undef else cur.getD q undef := fun q => by
    rw [← getD_toList, List.toList_toArray, getD_mid (by rw [Array.length_toList]; omega), getD_toList cur]
  generalize (cur.toList.take (a * k) ++ (us ++ cur.toList.drop (a * k + us.length))) = A at hst hlist hget
  have hrl : (List.replicate m y).length = m := by simp
  have hln : (l.take a ++ (List.replicate m y ++ l.drop (a + m))).length = l.length := by simp; omega
  have hgl : ∀ i, (l.take a ++ (List.replicate m y ++ l.drop (a + m))).getD i .dead = if i < a then l.getD i .dead else if i < a + m then y else l.getD i .dead := fun i => by
    have := getD_mid (l := l) (vs := List.replicate m y) (p := a) (q := i) (d := AV.dead) (by rw [hrl]; exact ha)
    rw [hrl] at this
    rw [this]
    split
    · rfl
    · split
      · rename_i h3 h4
        simp [List.getD_eq_getElem?_getD, List.getElem?_replicate, show i - a < m by omega]
      · rfl
  have hlk : ∀ i, i < l.length → (l.getD i .dead).cells.length = k := fun i hi => by
    rw [List.getD_eq_getElem?_getD, List.getElem?_eq_getElem hi]; exact hcells _ (List.getElem_mem hi)
  obtain ⟨E', X'⟩ := E.put0 (o' := .row d v k e (l.take a ++ (List.replicate m y ++ l.drop (a + m)))) (w' := w.setRow b.g A.toArray) ho rfl hb (setRow_keep rfl) (fun X => by
    have X0 : VX Z Z β β [] [] [] [] w (w.setRow b.g A.toArray) := ⟨X.z, X.b, Nat.le_refl _, fun _ _ h => absurd h (Nat.not_lt_zero _)⟩
    refine ⟨hv, hk, hk0, hsz, by rw [hln]; exact hlc, hcm, fun z hz => ?_, fun hdt => ?_, A.toArray, setRow_heap w b.g cur _ e (0, 0) hh, by rw [List.size_toArray, hlist, hcs], fun i j hi hj => ?_⟩
    · rcases List.mem_append.1 hz with h | h
      · exact hcells z (List.mem_of_mem_take h)
      · rcases List.mem_append.1 h with h | h
        · rw [(List.mem_replicate.1 h).2]; exact hy
        · exact hcells z (List.mem_of_mem_drop h)
    · refine List.all_eq_true.mpr fun z hz => ?_
      rcases List.mem_append.1 hz with h | h
      · exact List.all_eq_true.mp (hd2 hdt) z (List.mem_of_mem_take h)
      · rcases List.mem_append.1 h with h | h
        · rw [(List.mem_replicate.1 h).2]; exact hd
        · exact List.all_eq_true.mp (hd2 hdt) z (List.mem_of_mem_drop h)
    · rw [hln] at hi
      rw [hgl, hget, hus]
      have h5 : i < a → i * k + j < a * k := fun h => by
        have := Nat.mul_le_mul_right k (show i + 1 ≤ a from h)
        rw [Nat.add_mul] at this; omega
      have h6 : ¬ i < a → a * k ≤ i * k := fun h => Nat.mul_le_mul_right k (by omega)
      have h7 : i < a + m → i * k + j < a * k + m * k := fun h => by
        have := Nat.mul_le_mul_right k (show i + 1 ≤ a + m from h)
        rw [Nat.add_mul, Nat.add_mul] at this; omega
      have h8 : ¬ i < a + m → a * k + m * k ≤ i * k := fun h => by rw [← Nat.add_mul]; exact Nat.mul_le_mul_right k (by omega)
      by_cases c1 : i < a
      · rw [if_pos c1, if_pos (h5 c1)]; exact (hcc i j hi hj).ext X0
      · have := h6 c1
        rw [if_neg c1, if_neg (show ¬ (i * k + j < a * k) by omega)]
        by_cases c2 : i < a + m
        · rw [if_pos c2, if_pos (h7 c2)]
          have e : i * k + j - a * k = (i - a) * k + j := by rw [Nat.sub_mul]; omega
          rw [e]
          exact (hR (i - a) j (by omega) hj).ext X0
        · have := h8 c2
          rw [if_neg c2, if_neg (show ¬ (i * k + j < a * k + m * k) by omega)]; exact (hcc i j hi hj).ext X0)
  exact ⟨_, hst, E', X'⟩
theorem clear_run (E : EN P w0 Z0 M0 Z β γ S T w) {t ty : TypeId} {x : AV} {u : Value} {S' : Obs} (hx : R3 Z β γ T w P x u) (h : clrA P t x S = some S') :
    ∃ w', (Builtin.clear_ #[t] ty #[u]).run P w = .ok (.tuple #[]) w' ∧ EN P w0 Z0 M0 Z β γ S' T w' ∧ VX Z Z β β γ γ T T w w' := by
  unfold clrA at h
  split at h
  case h_2 => cases h
  rename_i e he
  split at h
  case h_2 => cases h
  rename_i k z ag hk hz hag
  split at h
  case isFalse => cases h
  rename_i hc
  obtain ⟨c1, c2, c3, c4⟩ := hc
  simp only [Bool.and_eq_true] at c4
  obtain ⟨z0, hz0, hzz⟩ := run_zero (w := w) hz
  have hzs : z0.cells.size = k := by rw [← c2, hzz]; simp
  have hzc := zero_cells c3 c2 c4.2
  have hzd := zero_d2 c3 c2 c4.1
  generalize hyy : (if ag = true then AV.agg z else z.getD 0 .dead) = y at h hzc hzd
  have key : ∀ (n m : Nat), n = m → (Builtin.zeroCells z0.cells n).toList.length = m * k ∧ (∀ i j, i < m → j < k → R1 Z β [] [] w P (y.cells.getD j .dead) ((Builtin.zeroCells z0.cells n).toList.getD (i * k + j) undef)) ∧ ∀ u ∈ (Builtin.zeroCells z0.cells n).toList, u.oneCell' = true := by
    rintro n m rfl
    have hzr := zero_row (P := P) (Z := Z) (β := β) (w := w) (el := e) (n := n) hzz c3 c2 c4.2
    have hq : (Builtin.zeroCells z0.cells n).toList = ((Array.range (n * k)).map (z0.cells[· % z0.cells.size]!)).toList := by
      unfold Builtin.zeroCells; rw [hzs]
    rw [hq]
    refine ⟨hzr.yl, fun i j hi hj => ?_, fun u hu => ?_⟩
    · have := hzr.dr i j hi hj
      rw [hyy] at this
      have hg : (List.replicate n y).getD i .dead = y := by simp [List.getD_eq_getElem?_getD, hi]
      rw [hg] at this
      exact this
    · obtain ⟨q, hq1, rfl⟩ := List.mem_iff_getElem.1 hu
      have hq2 : q < n * k := by rw [hzr.yl] at hq1; exact hq1
      obtain ⟨p1, p2, p3⟩ := divmod hq2
      have := hzr.dr (q / k) (q % k) p1 p2
      rw [hyy] at this
      have hg : (List.replicate n y).getD (q / k) .dead = y := by simp [List.getD_eq_getElem?_getD, p1]
      rw [hg, p3] at this
      have h1 : one (y.cells.getD (q % k) .dead) = true := by rw [hzc]; exact all_getD c4.2 (by omega)
      have h2 := one_cell this h1
      have e1 : ((Array.range (n * k)).map (z0.cells[· % z0.cells.size]!)).toList.getD q undef = ((Array.range (n * k)).map (z0.cells[· % z0.cells.size]!)).toList[q] := by
        rw [List.getD_eq_getElem?_getD, List.getElem?_eq_getElem hq1]; rfl
      rw [e1] at h2; exact h2
  have hyk : y.cells.length = k := by rw [hzc, c2]
  have store : ∀ (g off n : Nat) (c : Nat) (w' : World), (storeCells ⟨g, off, none⟩ (Builtin.zeroCells z0.cells n).toList).run P w = .ok () w' → 0 < n → (Builtin.clear_ #[t] ty #[.slice (some ⟨g, off, none⟩) n c]).run P w = .ok (.tuple #[]) w' := by
    intro g off n c w' hst hn
    obtain ⟨n', rfl⟩ : ∃ n', n = n' + 1 := ⟨n - 1, by omega⟩
    simp [Builtin.clear_, run_underlying (tel_inv he), hz0, hst]
  split at h
  · rename_i id ver k' a hh
    split at h
    case h_2 => cases h
    rename_i d v k2 e' l hS
    split at h
    case isFalse => cases h
    rename_i hc
    obtain ⟨rfl, rfl, rfl, q1, q2⟩ := hc
    simp only [Option.some.injEq] at h
    subst h
    obtain ⟨b, A, C, r1, r2, rfl, r4, r5, r6⟩ := hx
    obtain ⟨b', hb', _, _, _, hv, hbk, _⟩ := E.ob id _ hS rfl
    obtain rfl : b = b' := by rw [r1] at hb'; exact Option.some.inj hb'
    have hrest : a + (hh - a) = hh := by omega
    by_cases hn : hh = a
    · have e0 : hh - a = 0 := by omega
      obtain ⟨k1, k3, k4⟩ := key 0 (hh - a) e0.symm
      obtain ⟨w', hst, E', X'⟩ := put_rep (us := []) E hS r1 (a := a) (m := hh - a) (by omega) hyk hzd (by rw [e0]; simp) (fun i j hi => by omega) (by simp)
      rw [hrest] at E'
      obtain rfl : w' = w := by simpa [storeCells] using hst.symm
      refine ⟨w', ?_, E', X'⟩
      rw [e0]
      cases A <;> simp [Builtin.clear_, run_underlying (tel_inv he)]
    · rcases r6 hv with h | h
      · exact absurd h hn
      subst h
      obtain ⟨k1, k3, k4⟩ := key (hh - a) (hh - a) rfl
      obtain ⟨w', hst, E', X'⟩ := put_rep E hS r1 (a := a) (m := hh - a) (by omega) hyk hzd k1 k3 k4
      rw [hrest] at E'
      exact ⟨w', store _ _ _ _ _ hst (by omega), E', X'⟩
  · rename_i id ver hh
    split at h
    case h_2 => cases h
    rename_i d v k2 e' l hS
    split at h
    case isFalse => cases h
    rename_i hc
    obtain ⟨rfl, rfl, q1⟩ := hc
    simp only [Option.some.injEq] at h
    subst h
    obtain ⟨b, A, C, r1, r2, rfl, r4, r5, r6⟩ := hx
    obtain ⟨b', hb', _, _, _, hv, hbk, _⟩ := E.ob id _ hS rfl
    obtain rfl : b = b' := by rw [r1] at hb'; exact Option.some.inj hb'
    obtain ⟨rfl, rfl⟩ := r6 hv
    by_cases hn : hh = 0
    · subst hn
      obtain ⟨w', hst, E', X'⟩ := put_rep (us := []) E hS r1 (a := 0) (m := 0) (by omega) hyk hzd (by simp) (fun i j hi => by omega) (by simp)
      obtain rfl : w' = w := by simpa [storeCells] using hst.symm
      refine ⟨w', ?_, by simpa using E', X'⟩
      simp [Builtin.clear_, run_underlying (tel_inv he)]
    · obtain ⟨k1, k3, k4⟩ := key hh hh rfl
      obtain ⟨w', hst, E', X'⟩ := put_rep E hS r1 (a := 0) (m := hh) (by omega) hyk hzd k1 k3 k4
      rw [Nat.zero_mul] at hst
      exact ⟨w', store _ _ _ _ _ hst (by omega), by simpa using E', X'⟩
  · cases h
end
end Go.Proofs.Ytplpmelpoajpdaa.Ev
