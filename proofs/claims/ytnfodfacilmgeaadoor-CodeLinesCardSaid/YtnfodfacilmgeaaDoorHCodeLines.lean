/- CodeLines: the walk. No condition. -/
import Derived.Test.YtnfodfacilmgeaaDoorCod5
import Derived.Test.YtnfodfacilmgeaaDoorLinP
import Derived.Test.YtnfodfacilmgeaaDoorHCodeChecks
import Derived.Test.YtnfodfacilmgeaaDoorOwn2
import Derived.Test.YtnfodfacilmgeaaDoorWGuard
namespace Go.Proofs.YtnfodfacilmgeaaDoor.Code
open Go Go.RowKit Go.Proofs Go.Proofs.YtnfodfacilmgeaaDoor.Own Go.Proofs.YtnfodfacilmgeaaDoorW.PrintWords Go.Proofs.YtnfodfacilmgeaaDoorW.PrintLast Go.Proofs.YtnfodfacilmgeaaDoorW.PrintMore
set_option linter.unusedVariables false
set_option linter.unusedSimpArgs false
open PCodeChecks
section
variable {w w' w0 : World} {F0 P0 : Nat → Prop} {ts : List Thing}
/-- An empty row, newly laid. -/
theorem empty_row {α : Type} (d : Kd α) (e : Nat) (h : St w0 F0 P0 ts w) : St w0 F0 P0 (rowT d e (.slice (some ⟨w.heap.size, 0, none⟩) 0 0) [] :: ts) (w.alloc (.cells #[] e)) := by
  refine h.got (base := w.heap.size) (ok := fun _ => True) ⟨fun _ _ => trivial, [], ?_, ?_⟩ (below_alloc (Below.refl _ _) _) (Nat.le_refl _)
  · have h1 := World.ownsRow_lit (base := w.heap.size) (e := e) (size := d.sz) w #[] 0 (Nat.le_refl _) (by unfold maxLen; omega) (by simp)
    exact h1
  · exact Reps.none _ _
/-- A row of one's own is written no more. -/
theorem row_frozen {α : Type} {d : Kd α} {e : Nat} {v : Value} {L : List α} (h : St w0 F0 P0 (rowT d e v L :: ts) w) : ∃ A c, v = .slice A L.length c ∧ L.length ≤ c ∧ St w0 F0 P0 (valT (fun W => d.C W A L.length L) :: ts) w := by
  obtain ⟨A, c, rfl⟩ := h.slice
  obtain ⟨-, hc, hV⟩ := h.freeze
  exact ⟨A, c, rfl, hc, hV⟩
end
theorem infoIns : (Tryd.prog.info? 43).map (fun i => (i.zero, i.size, i.bytes)) = some (some (.agg #[.int .i64 0, .int .i64 0]), 2, 16) := by kernel_rfl
theorem i64_bound {n : Int} (h : (Lit.int .i64 n).wf = true) : -9223372036854775808 ≤ n ∧ n ≤ 9223372036854775807 := by
  have hmin : IntKind.i64.min = -9223372036854775808 := by decide
  have hmax : IntKind.i64.max = 9223372036854775807 := by decide
  simpa [Lit.wf, hmin, hmax] using h
theorem ins_start {A B : Option Addr} {l m : List S43} (w : World) (hr : Kd.C k43 w A l.length l) (hs : Kd.C k43 w B m.length m) : St w (fun _ => False) (fun _ => True) [valT (fun W => Kd.C k43 W A l.length l), valT (fun W => Kd.C k43 W B m.length m)] w :=
  St.arg (St.arg (St.start w (fun _ => True)) (fun _ => id) (fun _ _ => trivial) (Kd.C_F (Kd.heap_iso _ (Kd.heap_pair (Kd.heap_int _) (Kd.heap_int _))) hs)) (fun _ => id) (fun _ _ => trivial) (Kd.C_F (Kd.heap_iso _ (Kd.heap_pair (Kd.heap_int _) (Kd.heap_int _))) hr)
theorem wf_of {l : List S43} {X Y : Prop} (h : (∀ x ∈ l, (Lit.int .i64 x.f0).wf = true ∧ (Lit.int .i64 x.f1).wf = true) ∧ X) : Wf (l.map pr) := by
  intro x hx
  obtain ⟨y, hy, rfl⟩ := List.mem_map.mp hx
  have := (h.1 y hy).2
  exact i64_bound this
theorem wf_append {l m : List (Int × Int)} (h : Wf l) (k : Wf m) : Wf (l ++ m) := fun x hx => (List.mem_append.mp hx).elim (h x) (k x)
set_option maxHeartbeats 4000000 in
theorem lines_calls (w : World) (A : Option Addr) (c : Nat) (l : List S43) (hr : Kd.C k43 w A l.length l) (hc : l.length ≤ c) {X0 : Prop} (wl : (∀ x ∈ l, (Lit.int .i64 x.f0).wf = true ∧ (Lit.int .i64 x.f1).wf = true) ∧ X0) (B : Option Addr) (d : Nat) (m : List S43) (hs : Kd.C k43 w B m.length m) (hd : m.length ≤ d) {X1 : Prop} (wm : (∀ x ∈ m, (Lit.int .i64 x.f0).wf = true ∧ (Lit.int .i64 x.f1).wf = true) ∧ X1) (ht : Pows w) :
    Calls Tryd.prog 5 #[.slice A l.length c, .slice B m.length d] w fun e w' => e = .returned (.bool true) ∧ Below w.heap.size w w' := by
  have HT := Aside0.mk ht
  have HR := Aside0.mk hr
  have HS := Aside0.mk hs
  have HC := Aside0.mk hc
  have HD := Aside0.mk hd
  have HWL := Aside0.mk (wf_of (Y := True) wl)
  have HWM := Aside0.mk (wf_of (Y := True) wm)
  clear ht hr hs hc hd wl wm
  by_cases g1 : 100 < (l.length : Int)
  · have f1 := decide_eq_true g1
    clear g1
    go_enter Tryd.func5, Tryd.ntmps5
    go_wp2_with (go_at_call 8; (with_reducible refine (shown_calls _ HT.out).mono ?_); rintro e w1 ⟨rfl, hb⟩; have HB1 := Aside0.mk hb; clear hb)
    go_ret
    exact ⟨rfl, HB1.out⟩
  have f1 := decide_eq_false g1
  by_cases g2 : 100 < (m.length : Int)
  · have f2 := decide_eq_true g2
    clear g1 g2
    go_enter Tryd.func5, Tryd.ntmps5
    go_wp2_with (go_at_call 8; (with_reducible refine (shown_calls _ HT.out).mono ?_); rintro e w1 ⟨rfl, hb⟩; have HB1 := Aside0.mk hb; clear hb)
    go_ret
    exact ⟨rfl, HB1.out⟩
  have f2 := decide_eq_false g2
  have HL := Aside0.mk (show l.length ≤ 100 ∧ m.length ≤ 100 by omega)
  clear g1 g2
  have htx : ∀ W, Below w.heap.size w W → Calls Tryd.prog 12 #[.slice A l.length c] W fun e w' => e = .returned (.string (bs (textB (l.map pr)))) ∧ Below W.heap.size W w' := by
    intro W hb
    have := text_calls A c (l.map pr) W (insAt_of (Kd.C_below HR.out hb)) (by rw [List.length_map]; exact HC.out) (by rw [List.length_map]; have := HL.out; omega) HWL.out (HT.out.below hb)
    rw [List.length_map] at this
    exact this
  have htm : ∀ W, Below w.heap.size w W → Calls Tryd.prog 12 #[.slice B m.length d] W fun e w' => e = .returned (.string (bs (textB (m.map pr)))) ∧ Below W.heap.size W w' := by
    intro W hb
    have := text_calls B d (m.map pr) W (insAt_of (Kd.C_below HS.out hb)) (by rw [List.length_map]; exact HD.out) (by rw [List.length_map]; have := HL.out; omega) HWM.out (HT.out.below hb)
    rw [List.length_map] at this
    exact this
  have HTL := Aside0.mk htx
  have HTM := Aside0.mk htm
  clear htx htm
  have hnl : nls (textB (l.map pr)) = l.length := by rw [nls_text, List.length_map]
  have hsz : (textB (l.map pr)).length ≤ 3000 := Nat.le_trans (textB_le _ HWL.out) (by rw [List.length_map]; have := HL.out; omega)
  have hszm : (textB (m.map pr)).length ≤ 3000 := Nat.le_trans (textB_le _ HWM.out) (by rw [List.length_map]; have := HL.out; omega)
  have HAP := Aside0.mk (textB_append (l.map pr) (m.map pr))
  obtain ⟨s, hs⟩ : ∃ s, textB (l.map pr) = s := ⟨_, rfl⟩
  rw [hs] at hnl hsz HAP HTL
  have HZ := Aside0.mk (And.intro hnl (And.intro hsz hszm))
  clear hnl hsz hszm hs
  have hbz := bs_size s
  go_enter Tryd.func5, Tryd.ntmps5
  go_wp2_with (first
    | (go_at_call 8; (with_reducible refine (shown_calls _ HT.out).mono ?_); rintro e w1 ⟨rfl, hb⟩; have HB1 := Aside0.mk hb; clear hb)
    | (go_at_call 12; (with_reducible refine (HTL.out _ HB1.out).mono ?_); rintro e w2 ⟨rfl, hb⟩; have HB2 := Aside0.mk (below_step HB1.out hb); clear hb HB1))
  go_loopg [7, 8] (s.length + 1) (fun kq v7 v8 w' => ∃ (k : Nat), v7 = .int .i64 (nls (s.take k) : Int) ∧ v8 = .int .i64 (k : Int) ∧ Aside0 (k + kq = s.length + 1 ∧ k ≤ s.length) ∧ Aside0 (Below w.heap.size w w'))
  case atStart => exact ⟨0, rfl, rfl, ⟨by omega⟩, HB2⟩
  case round =>
    clear HB2
    obtain ⟨k, rfl, rfl, HK, HB⟩ := hrel
    have w1 : wrap64 ((k : Int) + 1) = ((k + 1 : Nat) : Int) := by have := HZ.out; have := HK.out; unfold wrap64; omega
    by_cases hk : k < s.length
    · have c1 : decide ((k : Int) < (s.length : Int)) = true := decide_eq_true (by omega)
      have c1n := eq_true hk
      have c2 : (0 ≤ (k : Int)) = True := eq_true (by omega)
      have c3 : (k < (bs s).size) = True := eq_true (by rw [bs_size]; exact hk)
      obtain ⟨x, hxx⟩ : ∃ x : Int, (s[k].toNat : Int) = x := ⟨_, rfl⟩
      have hx : ∀ h : k < (bs s).size, (((bs s)[k]'h).toNat : Int) = x := fun h => hxx
      have HNX := Aside0.mk (nls_take s k hk)
      have w2 : wrap64 ((nls (s.take k) : Int) + 1) = ((nls (s.take k) + 1 : Nat) : Int) := by
        have := nls_le (s.take k)
        have := HZ.out
        rw [List.length_take] at *
        unfold wrap64; omega
      have HKL := Aside0.mk hk
      by_cases h10 : s[k] = 10
      · have d1 : (x == 10) = true := by rw [← hxx, h10]; rfl
        have HN := Aside0.mk (show nls (s.take (k + 1)) = nls (s.take k) + 1 by rw [HNX.out, if_pos h10])
        clear h10 hxx hk HNX
        go_wp2
        go_roundg (s.length - k)
        case measure => have := HK.out; have := HKL.out; omega
        case rel => exact ⟨k + 1, by rw [w2, HN.out], by rw [w1], ⟨by have := HK.out; have := HKL.out; omega⟩, HB⟩
      · have d1 : (x == 10) = false := by
          rw [beq_eq_false_iff_ne, ← hxx]; intro h; apply h10; apply UInt8.toNat_inj.mp; exact_mod_cast h
        have HN := Aside0.mk (show nls (s.take (k + 1)) = nls (s.take k) by rw [HNX.out, if_neg h10]; rfl)
        clear h10 hxx hk HNX
        go_wp2
        go_roundg (s.length - k)
        case measure => have := HK.out; have := HKL.out; omega
        case rel => exact ⟨k + 1, by rw [HN.out], by rw [w1], ⟨by have := HK.out; have := HKL.out; omega⟩, HB⟩
    · have c1 : decide ((k : Int) < (s.length : Int)) = false := decide_eq_false (by omega)
      have c1n := eq_false hk
      have hke : k = s.length := by have := HK.out; omega
      have hnk : nls (s.take k) = l.length := by rw [hke, List.take_length]; exact HZ.out.1
      rw [hnk]
      clear hnk hke hk w1
      have HSt := Aside0.mk (empty_row k43 43 ((ins_start w HR.out HS.out).below HB.out))
      have hTA : ∀ W A4 c4, Below w.heap.size w W → k43.C W A4 (([] ++ l) ++ m).length (([] ++ l) ++ m) → (([] ++ l) ++ m).length ≤ c4 → Calls Tryd.prog 12 #[.slice A4 (l.length + m.length) c4] W fun e w' => e = .returned (.string (bs (s ++ textB (m.map pr)))) ∧ Below W.heap.size W w' := by
        intro W A4 c4 hb h hc4
        have e1 : (([] ++ l) ++ m).map pr = l.map pr ++ m.map pr := by simp
        have := text_calls A4 c4 ((([] ++ l) ++ m).map pr) W (insAt_of h) (by rw [List.length_map]; exact hc4) (by rw [List.length_map]; have := HL.out; simp; omega) (by rw [e1]; exact wf_append HWL.out HWM.out) (HT.out.below hb)
        rw [List.length_map, e1, HAP.out, show (([] ++ l : List S43) ++ m).length = l.length + m.length by simp] at this
        exact this
      have HTA := Aside0.mk hTA
      clear hTA
      have z1 : ¬ 9223372036854775807 < s.length + (bs (textB (m.map pr))).size := by have := HZ.out; rw [bs_size]; omega
      have z2 : bs s ++ bs (textB (m.map pr)) = bs (s ++ textB (m.map pr)) := bs_append _ _
      go_wp2_with (first
        | (at_builtin; (refine gate_guard (by rfl) ?_; refine St.append_rows k43 rfl (.tmp 41) (.tmp 42) 24 43 (.agg #[.int .i64 0, .int .i64 0]) 16 rfl Tryd.underlying24 infoIns rfl (by decide) (by decide) (.slice (some ⟨wr.heap.size, 0, none⟩) 0 0) [] l A l.length c rfl rfl HSt.out.swap (by have := HL.out; simp; omega) ?_; intro v7 w7 hS; have HS7 := Aside0.mk hS; clear hS HSt))
        | (at_builtin; (refine gate_guard (by rfl) ?_; refine St.append_rows k43 rfl (.tmp 43) (.tmp 44) 24 43 (.agg #[.int .i64 0, .int .i64 0]) 16 rfl Tryd.underlying24 infoIns rfl (by decide) (by decide) v7 ([] ++ l) m B m.length d rfl rfl HS7.out.swap (by have := HL.out; simp; omega) ?_; intro v8 w8 hS; have hv := row_frozen hS; obtain ⟨A8, c8, rfl, hc8, hS8⟩ := hv; have HS8 := Aside0.mk hS8; have HC8 := Aside0.mk hc8; have HB8 := Aside0.mk hS8.bel; clear hS hS8 hc8 HS7))
        | (go_at_call 12; (with_reducible refine (HTA.out _ A8 c8 HB8.out HS8.out.now HC8.out).mono ?_); rintro e w2 ⟨rfl, hb⟩; have HB9 := Aside0.mk (below_step HB8.out hb); clear hb)
        | (go_at_call 12; (with_reducible refine (HTM.out _ HB9.out).mono ?_); rintro e w2 ⟨rfl, hb⟩; have HB10 := Aside0.mk (below_step HB9.out hb); clear hb))
      go_ret
      exact ⟨rfl, HB10.out⟩
end Go.Proofs.YtnfodfacilmgeaaDoor.Code
