/- Rows of one's own written element by element; appends in regions that draw their order. No condition. -/
import Derived.Test.YtpoecjieagkoaaaOwn2
import Derived.Deep.RegionHeld3
namespace Go.Proofs.Ytpoecjieagkoaaa.Own
open Go Go.RowKit Go.Proofs.YtpoecjieagkoaaaW.PrintWords Go.Proofs.YtpoecjieagkoaaaW.PrintLast Go.Proofs.YtpoecjieagkoaaaW.PrintMore
set_option linter.unusedVariables false
section
variable {P : Program} {ops : Array Oper} {rest : List Oper} {o : Oper} {a : Act} {Q : Exit → Act → World → Prop} {Kc : Act → World → Prop} {α : Type}
variable {W W0 : World} {F0 P0 : Nat → Prop} {ts : List Thing}
/-- Element i of a row of one's own is written. -/
theorem St.put (d : Kd α) {e g n cap i : Nat} {xs : List α} {x' : α} {cs : List Value} (HS : St W0 F0 P0 (valT (fun W => d.K W x' cs) :: rowT d e (.slice (some ⟨g, 0, none⟩) n cap) xs :: ts) W) (hi : i < xs.length) :
    St W0 F0 P0 (rowT d e (.slice (some ⟨g, 0, none⟩) n cap) (xs.set i x') :: ts) (W.setCells g (i * d.sz) cs) ∧ ∃ cur, W.heap[g]? = some (.cells cur e (0, 0)) ∧ i * d.sz + cs.length ≤ cur.size := by
  obtain ⟨F1, P1, h1, hk⟩ := St.part (ts1 := [valT (fun W => d.K W x' cs), rowT d e (.slice (some ⟨g, 0, none⟩) n cap) xs]) HS
  obtain ⟨F, ⟨A1, A2, a1, a2, a3, B1, B2, b1, b2, b3, b4⟩, hm⟩ := h1
  obtain ⟨r1, r2, r3⟩ := Kd.N_reads' b2.2
  obtain ⟨ad, c, e1, hcl, hK, hcc⟩ := Kd.C_get r3 x' (i : Int) (by omega) (by omega)
  injection e1 with e1
  subst e1
  have hcc' : ∀ j u, c[j]? = some u → W.cell? ⟨g, (i : Int).toNat * d.sz + j, none⟩ = some u := fun j u hj => by
    have h2 := hcc j u hj
    have h3 : (⟨g, 0, none⟩ : Addr).add ((i : Int).toNat * d.sz + j) = ⟨g, (i : Int).toNat * d.sz + j, none⟩ := by simp only [Addr.add]; split <;> simp_all
    rw [h3] at h2
    exact h2
  have hcs : cs.length = d.sz := d.K_len (Foot.now a2.2)
  have hown : ∀ k, (Value.slice (some ⟨g, 0, none⟩) n cap).ownBlock = some k → F k := fun k hk => (a1 k).mpr (.inr ((b1 k).mpr (.inl ((b2.1 k).mpr hk))))
  have hgF : F g := hown g rfl
  have hF1 : ∀ k, F k → k < W.heap.size → F1 k := fun k hk hlt => (hm.fresh k hk).elim id (fun c => by omega)
  have hlt : g < W.heap.size := Kd.N_lt b2.2 g rfl
  have hM : Kd.FK d W (fun k => (P1 k ∨ F1 k ∨ W.heap.size ≤ k) ∧ ¬ F k) x' (c.take 0 ++ cs ++ c.drop (0 + cs.length)) := by
    have h4 : c.take 0 ++ cs ++ c.drop (0 + cs.length) = cs := by rw [List.take_zero, List.drop_of_length_le (by omega)]; simp
    rw [h4]; exact a2.2
  obtain ⟨hN, hg⟩ := Kd.N_seg b2.2 (i : Int) (by omega) (by omega) (seg := cs) (j := 0) hcl hcc' (by omega) hM (fun k hk => ⟨.inr hk, fun e => hk.2 (by rw [e]; exact hgF)⟩)
  have e3 : (i : Int).toNat * d.sz + 0 = i * d.sz := by simp
  rw [e3] at hN hg
  rw [Int.toNat_natCast] at hN
  refine ⟨hk _ [_] ⟨⟨F, ⟨B1, fun _ => False, fun k => ?_, ⟨b2.1, Kd.N_mono hN (fun k c => c)⟩, fun k _ => id, fun k => id⟩, ⟨hg.os, hg.tape, hg.output, hg.size, fun k hk hnF => hg.block k hk (fun e1 => hnF ?_), fun k hk => .inl (hF1 k hk ?_)⟩⟩⟩, ?_⟩
  · rw [a1, b1]
    exact ⟨fun c => c.elim (fun q => (a2.1 k q).elim) (fun q => q.elim .inl (fun r => (b4 k r).elim)), fun c => c.elim (fun q => .inr (.inl q)) (fun q => q.elim)⟩
  · injection e1 with e1
    subst e1
    exact hF1 _ hgF hk
  · rw [a1, b1] at hk
    rcases hk with hk | hk | hk
    · exact (a2.1 k hk).elim
    · have := (b2.1 k).mp hk
      exact Kd.N_lt b2.2 k this
    · exact (b4 k hk).elim
  · obtain ⟨h0, rows, hl, hR, hf⟩ := b2.2
    obtain ⟨-, inner, ho, -⟩ := hR
    rcases ho.2 with ⟨hv, _⟩ | ⟨g', cap', cur, hv, hb, hh, hnc, hcm, hcz, _⟩
    · cases hv
    · injection hv with q1 _ q3
      injection q1 with q1
      injection q1 with q1
      subst q1; subst q3
      refine ⟨cur, hh, ?_⟩
      have h2 : i * d.sz + d.sz ≤ n * d.sz := by rw [← Nat.succ_mul]; exact Nat.mul_le_mul_right _ (by omega)
      have h3 : n * d.sz ≤ cap * d.sz := Nat.mul_le_mul_right _ (by omega)
      have hcz' : cur.size = cap * d.sz := hcz
      omega
/-- .. as an operation of a region: a store. -/
theorem St.store_wp (d : Kd α) {e g n cap i o' : Nat} (t : TypeId) (p x : Operand) (hN : o.dst = none) (ho : o.op = .store t p x) (xs : List α) (x' : α) (u : Value)
    (hp : a.eval p = .pointer (some ⟨g, o', none⟩)) (hoff : o' = i * d.sz) (hx : a.eval x = u) (ht : (P.info? t).map (·.size) = some d.sz)
    (HS : St W0 F0 P0 (valT (fun W => d.K W x' u.cells.toList) :: rowT d e (.slice (some ⟨g, 0, none⟩) n cap) xs :: ts) W) (hi : i < xs.length)
    (h : ∀ w1, St W0 F0 P0 (rowT d e (.slice (some ⟨g, 0, none⟩) n cap) (xs.set i x') :: ts) w1 → Kc a w1) : Oper.wp P o a W Kc Q := by
  obtain ⟨hS, cur, hh, hsz⟩ := St.put d HS hi
  have hK := St.now HS
  subst hoff
  have hrun : (Instr.storeAt t (.pointer (some ⟨g, i * d.sz, none⟩)) u).run P W = .ok () (W.setCells g (i * d.sz) u.cells.toList) := run_store_run t u u.cells.toList hh rfl (by rw [d.K_len hK]; exact ht) hsz (d.K_one hK)
  unfold Oper.wp execOp
  simp only [ho, hp, hx, Sem.run_bind, Sem.run_pure, Result.andThen_ok, hrun]
  show Kc (a.put o.dst undef) _
  rw [hN]
  exact h _ hS
theorem St.store_step (d : Kd α) {e g n cap i o' : Nat} (hw : Region.wanted o (yielded ops a.tmps) = true) (t : TypeId) (p x : Operand) (hN : o.dst = none) (ho : o.op = .store t p x) (xs : List α) (x' : α) (u : Value)
    (hp : a.eval p = .pointer (some ⟨g, o', none⟩)) (hoff : o' = i * d.sz) (hx : a.eval x = u) (ht : (P.info? t).map (·.size) = some d.sz)
    (HS : St W0 F0 P0 (valT (fun W => d.K W x' u.cells.toList) :: rowT d e (.slice (some ⟨g, 0, none⟩) n cap) xs :: ts) W) (hi : i < xs.length)
    (h : ∀ w1, St W0 F0 P0 (rowT d e (.slice (some ⟨g, 0, none⟩) n cap) (xs.set i x') :: ts) w1 → Kc a w1) : if Region.wanted o (yielded ops a.tmps) = true then Oper.wp P o a W Kc Q else Kc (a.put none undef) W := by
  rw [if_pos hw]
  exact St.store_wp d t p x hN ho xs x' u hp hoff hx ht HS hi h
/-- append(v, x) in a region that draws its order. -/
theorem St.append_step (d : Kd α) (hw : Region.wanted o (yielded ops a.tmps) = true) (s x : Operand) (t e : TypeId) (z : Value) (bytes : Nat)
    (ho : o.op = .call { callee := .builtin .append, args := #[s, x], argTypes := #[t, t] })
    (ht : P.underlying t = some (.slice e)) (hinfo : (P.info? e).map (fun i => (i.zero, i.size, i.bytes)) = some (some z, d.sz, bytes)) (hz : z.cells.size = d.sz) (hs0 : 0 < d.sz) (hb0 : 0 < bytes)
    (v : Value) (xs : List α) (p : α) (cs : List Value) (hs : a.eval s = v) (hx : a.eval x = .slice (some ⟨W.heap.size, 0, none⟩) 1 1)
    (HS : St W0 F0 P0 (valT (fun W => d.K W p cs) :: rowT d e v xs :: ts) W) (hl : (xs.length + 1) * bytes ≤ 140737488355328)
    (h : ∀ v1 w1, St W0 F0 P0 (rowT d e v1 (xs ++ [p]) :: ts) w1 → Kc (a.put o.dst v1) w1) :
    if Region.wanted o (yielded ops a.tmps) = true then Oper.wp P o a (W.alloc (.cells cs.toArray e)) Kc Q else Kc (a.put o.dst undef) (W.alloc (.cells cs.toArray e)) := by
  obtain ⟨F1, P1, h1, hk⟩ := St.part (ts1 := [valT (fun W => d.K W p cs), rowT d e v xs]) HS
  obtain ⟨F, ⟨A1, A2, a1, a2, a3, B1, B2, b1, b2, b3, b4⟩, hm⟩ := h1
  have hown : ∀ k, v.ownBlock = some k → F k := fun k hk => (a1 k).mpr (.inr ((b1 k).mpr (.inl ((b2.1 k).mpr hk))))
  have hF1 : ∀ k, F k → k < W.heap.size → F1 k := fun k hk hlt => (hm.fresh k hk).elim id (fun c => by omega)
  refine Kd.N_append_step d (w0 := W) 0 hw s x t e z bytes ho ht hinfo hz hs0 hb0 v xs p cs (fun k => B1 k ∨ ((P1 k ∨ F1 k ∨ W.heap.size ≤ k) ∧ ¬ F k) ∨ W.heap.size ≤ k) (fun k => (P1 k ∨ F1 k ∨ W.heap.size ≤ k) ∧ ¬ F k) hs hx a2.2 (fun k hk => ⟨.inr (.inl hk), fun e => hk.2 (hown k e.symm)⟩) (fun k hk => .inr (.inr hk)) (Kd.N_mono b2.2 (fun k c => c.imp id .inl)) (Below.refl 0 W) (Nat.zero_le _) hl ?_
  intro v1 w1 hN hb hg hat
  refine h v1 w1 (hk w1 [rowT d e v1 (xs ++ [p])] ⟨⟨fun k => v1.ownBlock = some k, ⟨fun k => v1.ownBlock = some k, fun _ => False, fun k => by simp, ⟨fun k => Iff.rfl, Kd.N_mono hN (fun k c => ?_)⟩, fun k _ => id, fun k => id⟩, ⟨hg.os, hg.tape, hg.output, hg.size, fun k hk hnF => hg.block k hk (fun e1 => hnF (hF1 k (hown k e1.symm) hk)), fun k hk => ?_⟩⟩⟩)
  · by_cases hv : v1.ownBlock = some k
    · exact .inl hv
    · refine .inr ⟨?_, hv⟩
      rcases c with c | c | c
      · have h2 := Kd.N_lt b2.2 k ((b2.1 k).mp c)
        exact .inr (.inl (hF1 k (hown k ((b2.1 k).mp c)) h2))
      · exact c.1
      · exact .inr (.inr c)
  · rcases hat with c | ⟨b, c, hle⟩
    · rw [c] at hk
      exact .inl (hF1 k (hown k hk) (Kd.N_lt b2.2 k hk))
    · rw [c] at hk
      injection hk with hk
      subst hk
      exact .inr hle
end
end Go.Proofs.Ytpoecjieagkoaaa.Own
