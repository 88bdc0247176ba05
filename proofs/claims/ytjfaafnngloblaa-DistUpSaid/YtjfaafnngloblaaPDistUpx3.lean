-- Written by wip/tools/xprint.py over the kit's print; hand-proved contracts inlined.
import Derived.Test.YtjfaafnngloblaaPDistUpx0
import Derived.Test.YtjfaafnngloblaaPDistUpx1
import Derived.Test.YtjfaafnngloblaaPDistUpx2
namespace Go.Proofs.Ytjfaafnngloblaa.PDistUp
open Go.RowKit Go.Proofs.YtjfaafnngloblaaW.PrintWords Go.Proofs.YtjfaafnngloblaaW.PrintLast Go.Proofs.YtjfaafnngloblaaW.PrintMore
attribute [local go_sem] max2_int min2_int max_two min_two max_three min_three max_four min_four   -- for this text's walks alone
set_option linter.unusedVariables false
set_option linter.unusedSimpArgs false

/-! ### cmp_isNaN_int: function 38 -/
def cmp_isNaN_int.f (a0 : Int) : Option (Bool) := some (a0 != a0)
set_option maxHeartbeats 8000000 in
set_option maxRecDepth 100000 in
theorem cmp_isNaN_int.calls (a0 : Int) (r : Bool) (w : World) (h : cmp_isNaN_int.f a0 = some r) :
    Calls Try.prog 38 #[.int .i64 a0] w fun e w' => e = .returned (.bool r) ∧ Drawn0 w w' := by
  have H : (some (a0 != a0)) = some r := h
  clear h
  obtain rfl := Option.some.inj H
  go_enter Try.func38, Try.ntmps38
  go_wp2
  go_ret
  exact ⟨by first | rfl | (simp; done) | (simp [*]; done), by repeat (first | exact Drawn0.refl _ | apply Drawn0.step)⟩

/-! ### cmp_Compare_int: function 32 -/
def cmp_Compare_int.f (a0 : Int) (a1 : Int) : Option (Int) := (cmp_isNaN_int.f a0).bind fun t148 => ((cmp_isNaN_int.f a1).bind fun t149 => (if t148 = true then (if t149 = true then (some 0) else (some (-1))) else (if t149 = true then (some 1) else (if a0 < a1 then (some (-1)) else (if a0 > a1 then (some 1) else (some 0))))))
set_option maxHeartbeats 8000000 in
set_option maxRecDepth 100000 in
theorem cmp_Compare_int.calls (a0 : Int) (a1 : Int) (r : Int) (w : World) (h : cmp_Compare_int.f a0 a1 = some r) :
    Calls Try.prog 32 #[.int .i64 a0, .int .i64 a1] w fun e w' => e = .returned (.int .i64 r) ∧ Drawn0 w w' := by
  have H : ((cmp_isNaN_int.f a0).bind fun t148 => ((cmp_isNaN_int.f a1).bind fun t149 => (if t148 = true then (if t149 = true then (some 0) else (some (-1))) else (if t149 = true then (some 1) else (if a0 < a1 then (some (-1)) else (if a0 > a1 then (some 1) else (some 0))))))) = some r := h
  clear h
  replace H := Option.bind_eq_some_iff.mp H
  obtain ⟨t148, A30, H⟩ := H
  replace H : ((cmp_isNaN_int.f a1).bind fun t149 => (if t148 = true then (if t149 = true then (some 0) else (some (-1))) else (if t149 = true then (some 1) else (if a0 < a1 then (some (-1)) else (if a0 > a1 then (some 1) else (some 0)))))) = some r := H
  have A3 := Aside0.mk A30
  clear A30
  replace H := Option.bind_eq_some_iff.mp H
  obtain ⟨t149, A40, H⟩ := H
  replace H : (if t148 = true then (if t149 = true then (some 0) else (some (-1))) else (if t149 = true then (some 1) else (if a0 < a1 then (some (-1)) else (if a0 > a1 then (some 1) else (some 0))))) = some r := H
  have A4 := Aside0.mk A40
  clear A40
  by_cases c5 : t148 = true
  · subst c5
    have H1 : (if t149 = true then (some 0) else (some (-1))) = some r := by rw [if_pos rfl] at H; exact H
    clear H
    have H := H1
    clear H1
    by_cases c6 : t149 = true
    · subst c6
      have H1 : (some 0) = some r := by rw [if_pos rfl] at H; exact H
      clear H
      have H := H1
      clear H1
      obtain rfl := Option.some.inj H
      go_enter Try.func32, Try.ntmps32
      go_wp2_with (first | ((with_reducible refine gate_callee (f := 38) rfl ?_); refine goesL_ (some 8) rfl rfl Try.func38 (by kernel_rfl) rfl #[.int .i64 a0] rfl (by (try simp only [List.map_toArray, List.map_cons, List.map_nil]); first | done | rfl | (simp only [List.length_drop, List.length_take]; rfl)) ?_; (with_reducible refine (cmp_isNaN_int.calls a0 true _ A3.out).mono ?_); rintro e w' ⟨rfl, ⟨nd, rfl⟩⟩; refine ⟨_, rfl, ?_⟩) | ((with_reducible refine gate_callee (f := 38) rfl ?_); refine goesL_ (some 10) rfl rfl Try.func38 (by kernel_rfl) rfl #[.int .i64 a1] rfl (by (try simp only [List.map_toArray, List.map_cons, List.map_nil]); first | done | rfl | (simp only [List.length_drop, List.length_take]; rfl)) ?_; (with_reducible refine (cmp_isNaN_int.calls a1 true _ A4.out).mono ?_); rintro e w' ⟨rfl, ⟨nd, rfl⟩⟩; refine ⟨_, rfl, ?_⟩))
      go_ret
      exact ⟨by first | rfl | (simp; done) | (simp [*]; done), by repeat (first | exact Drawn0.refl _ | apply Drawn0.step)⟩
    · replace c6 := Bool.eq_false_iff.mpr c6
      subst c6
      have H1 : (some (-1)) = some r := by rw [if_neg (show ¬ (false = true) by decide)] at H; exact H
      clear H
      have H := H1
      clear H1
      obtain rfl := Option.some.inj H
      go_enter Try.func32, Try.ntmps32
      go_wp2_with (first | ((with_reducible refine gate_callee (f := 38) rfl ?_); refine goesL_ (some 8) rfl rfl Try.func38 (by kernel_rfl) rfl #[.int .i64 a0] rfl (by (try simp only [List.map_toArray, List.map_cons, List.map_nil]); first | done | rfl | (simp only [List.length_drop, List.length_take]; rfl)) ?_; (with_reducible refine (cmp_isNaN_int.calls a0 true _ A3.out).mono ?_); rintro e w' ⟨rfl, ⟨nd, rfl⟩⟩; refine ⟨_, rfl, ?_⟩) | ((with_reducible refine gate_callee (f := 38) rfl ?_); refine goesL_ (some 10) rfl rfl Try.func38 (by kernel_rfl) rfl #[.int .i64 a1] rfl (by (try simp only [List.map_toArray, List.map_cons, List.map_nil]); first | done | rfl | (simp only [List.length_drop, List.length_take]; rfl)) ?_; (with_reducible refine (cmp_isNaN_int.calls a1 false _ A4.out).mono ?_); rintro e w' ⟨rfl, ⟨nd, rfl⟩⟩; refine ⟨_, rfl, ?_⟩))
      go_ret
      exact ⟨by first | rfl | (simp; done) | (simp [*]; done), by repeat (first | exact Drawn0.refl _ | apply Drawn0.step)⟩
  · replace c5 := Bool.eq_false_iff.mpr c5
    subst c5
    have H1 : (if t149 = true then (some 1) else (if a0 < a1 then (some (-1)) else (if a0 > a1 then (some 1) else (some 0)))) = some r := by rw [if_neg (show ¬ (false = true) by decide)] at H; exact H
    clear H
    have H := H1
    clear H1
    by_cases c7 : t149 = true
    · subst c7
      have H1 : (some 1) = some r := by rw [if_pos rfl] at H; exact H
      clear H
      have H := H1
      clear H1
      obtain rfl := Option.some.inj H
      go_enter Try.func32, Try.ntmps32
      go_wp2_with (first | ((with_reducible refine gate_callee (f := 38) rfl ?_); refine goesL_ (some 8) rfl rfl Try.func38 (by kernel_rfl) rfl #[.int .i64 a0] rfl (by (try simp only [List.map_toArray, List.map_cons, List.map_nil]); first | done | rfl | (simp only [List.length_drop, List.length_take]; rfl)) ?_; (with_reducible refine (cmp_isNaN_int.calls a0 false _ A3.out).mono ?_); rintro e w' ⟨rfl, ⟨nd, rfl⟩⟩; refine ⟨_, rfl, ?_⟩) | ((with_reducible refine gate_callee (f := 38) rfl ?_); refine goesL_ (some 10) rfl rfl Try.func38 (by kernel_rfl) rfl #[.int .i64 a1] rfl (by (try simp only [List.map_toArray, List.map_cons, List.map_nil]); first | done | rfl | (simp only [List.length_drop, List.length_take]; rfl)) ?_; (with_reducible refine (cmp_isNaN_int.calls a1 true _ A4.out).mono ?_); rintro e w' ⟨rfl, ⟨nd, rfl⟩⟩; refine ⟨_, rfl, ?_⟩))
      go_ret
      exact ⟨by first | rfl | (simp; done) | (simp [*]; done), by repeat (first | exact Drawn0.refl _ | apply Drawn0.step)⟩
    · replace c7 := Bool.eq_false_iff.mpr c7
      subst c7
      have H1 : (if a0 < a1 then (some (-1)) else (if a0 > a1 then (some 1) else (some 0))) = some r := by rw [if_neg (show ¬ (false = true) by decide)] at H; exact H
      clear H
      have H := H1
      clear H1
      by_cases c8 : a0 < a1
      · rw [if_pos c8] at H
        have c8b0 : decide (a0 < a1) = true := decide_eq_true c8
        clear c8
        obtain rfl := Option.some.inj H
        go_enter Try.func32, Try.ntmps32
        go_wp2_with (first | ((with_reducible refine gate_callee (f := 38) rfl ?_); refine goesL_ (some 8) rfl rfl Try.func38 (by kernel_rfl) rfl #[.int .i64 a0] rfl (by (try simp only [List.map_toArray, List.map_cons, List.map_nil]); first | done | rfl | (simp only [List.length_drop, List.length_take]; rfl)) ?_; (with_reducible refine (cmp_isNaN_int.calls a0 false _ A3.out).mono ?_); rintro e w' ⟨rfl, ⟨nd, rfl⟩⟩; refine ⟨_, rfl, ?_⟩) | ((with_reducible refine gate_callee (f := 38) rfl ?_); refine goesL_ (some 10) rfl rfl Try.func38 (by kernel_rfl) rfl #[.int .i64 a1] rfl (by (try simp only [List.map_toArray, List.map_cons, List.map_nil]); first | done | rfl | (simp only [List.length_drop, List.length_take]; rfl)) ?_; (with_reducible refine (cmp_isNaN_int.calls a1 false _ A4.out).mono ?_); rintro e w' ⟨rfl, ⟨nd, rfl⟩⟩; refine ⟨_, rfl, ?_⟩))
        go_ret
        exact ⟨by first | rfl | (simp; done) | (simp [*]; done), by repeat (first | exact Drawn0.refl _ | apply Drawn0.step)⟩
      · rw [if_neg c8] at H
        have c8b0 : decide (a0 < a1) = false := decide_eq_false c8
        clear c8
        by_cases c9 : a0 > a1
        · rw [if_pos c9] at H
          have c9b0 : decide (a1 < a0) = true := decide_eq_true c9
          clear c9
          obtain rfl := Option.some.inj H
          go_enter Try.func32, Try.ntmps32
          go_wp2_with (first | ((with_reducible refine gate_callee (f := 38) rfl ?_); refine goesL_ (some 8) rfl rfl Try.func38 (by kernel_rfl) rfl #[.int .i64 a0] rfl (by (try simp only [List.map_toArray, List.map_cons, List.map_nil]); first | done | rfl | (simp only [List.length_drop, List.length_take]; rfl)) ?_; (with_reducible refine (cmp_isNaN_int.calls a0 false _ A3.out).mono ?_); rintro e w' ⟨rfl, ⟨nd, rfl⟩⟩; refine ⟨_, rfl, ?_⟩) | ((with_reducible refine gate_callee (f := 38) rfl ?_); refine goesL_ (some 10) rfl rfl Try.func38 (by kernel_rfl) rfl #[.int .i64 a1] rfl (by (try simp only [List.map_toArray, List.map_cons, List.map_nil]); first | done | rfl | (simp only [List.length_drop, List.length_take]; rfl)) ?_; (with_reducible refine (cmp_isNaN_int.calls a1 false _ A4.out).mono ?_); rintro e w' ⟨rfl, ⟨nd, rfl⟩⟩; refine ⟨_, rfl, ?_⟩))
          go_ret
          exact ⟨by first | rfl | (simp; done) | (simp [*]; done), by repeat (first | exact Drawn0.refl _ | apply Drawn0.step)⟩
        · rw [if_neg c9] at H
          have c9b0 : decide (a1 < a0) = false := decide_eq_false c9
          clear c9
          obtain rfl := Option.some.inj H
          go_enter Try.func32, Try.ntmps32
          go_wp2_with (first | ((with_reducible refine gate_callee (f := 38) rfl ?_); refine goesL_ (some 8) rfl rfl Try.func38 (by kernel_rfl) rfl #[.int .i64 a0] rfl (by (try simp only [List.map_toArray, List.map_cons, List.map_nil]); first | done | rfl | (simp only [List.length_drop, List.length_take]; rfl)) ?_; (with_reducible refine (cmp_isNaN_int.calls a0 false _ A3.out).mono ?_); rintro e w' ⟨rfl, ⟨nd, rfl⟩⟩; refine ⟨_, rfl, ?_⟩) | ((with_reducible refine gate_callee (f := 38) rfl ?_); refine goesL_ (some 10) rfl rfl Try.func38 (by kernel_rfl) rfl #[.int .i64 a1] rfl (by (try simp only [List.map_toArray, List.map_cons, List.map_nil]); first | done | rfl | (simp only [List.length_drop, List.length_take]; rfl)) ?_; (with_reducible refine (cmp_isNaN_int.calls a1 false _ A4.out).mono ?_); rintro e w' ⟨rfl, ⟨nd, rfl⟩⟩; refine ⟨_, rfl, ?_⟩))
          go_ret
          exact ⟨by first | rfl | (simp; done) | (simp [*]; done), by repeat (first | exact Drawn0.refl _ | apply Drawn0.step)⟩

/-! ### dist_Near: function 16 -/
section
open Go.Sort Go.RowKit
def dist_Near.sgn (a b : Int) : Int := if a < b then -1 else if b < a then 1 else 0
def dist_Near.turn (n p q : Int) : Int := (q - p + n).tmod n
def dist_Near.cf (n p : Int) (ds : List Int) (a b : Int) : Int :=
  if dist_Near.sgn (ds.getD a.toNat 0) (ds.getD b.toNat 0) ≠ 0 then dist_Near.sgn (ds.getD a.toNat 0) (ds.getD b.toNat 0) else dist_Near.sgn (dist_Near.turn n p a) (dist_Near.turn n p b)
def dist_Near.others (p : Int) : Nat → List Int
  | 0 => []
  | n + 1 => if (n : Int) ≠ p then dist_Near.others p n ++ [(n : Int)] else dist_Near.others p n
def dist_Near.sorted (n : Nat) (p : Int) (ds : List Int) : List Int := (dist_Near.others p n).mergeSort (fun x y => !decide (dist_Near.cf n p ds y x < 0))
def dist_Near.dists (k : Nat) (l0 : List S40) (p : Int) : Nat → Option (List Int)
  | 0 => some []
  | n + 1 => (dist_Near.dists k l0 p n).bind fun ds => (dist_Far.f k l0 p (n : Int)).bind fun d => some (ds ++ [d])
def dist_Near.f (k : Nat) (l0 : List S40) (a1 : Int) : Option (List Int) :=
  (dist_proc.f k l0 a1).bind fun v => if v < 0 then some [] else (topo_Procs.f k l0).bind fun ps =>
    if 3 ≤ k then (if 0 ≤ a1 ∧ a1 < (ps.length : Int) ∧ ps.length ≤ 1000 then (dist_Near.dists k l0 a1 ps.length).bind fun ds => some (dist_Near.sorted ps.length a1 ds) else none) else none
theorem dist_Near.mono_d (k : Nat) (l0 : List S40) (p : Int) : ∀ n, LeO (dist_Near.dists k l0 p n) (dist_Near.dists (k + 1) l0 p n)
  | 0 => LeO.refl _
  | n + 1 => LeO.bind (dist_Near.mono_d k l0 p n) fun _ => LeO.bind (dist_Far.mono _ _ _ _) fun _ => LeO.refl _
theorem dist_Near.mono : ∀ a0 a1 k, LeO (dist_Near.f k a0 a1) (dist_Near.f (k + 1) a0 a1) := by
  intro a0 a1 k
  unfold dist_Near.f
  refine LeO.bind (dist_proc.mono _ _ _) fun v => LeO.ite (LeO.refl _) (LeO.bind (topo_Procs.mono _ _) fun ps => ?_)
  intro r h
  by_cases hk : 3 ≤ k
  · rw [if_pos hk] at h
    rw [if_pos (by omega)]
    exact LeO.ite (LeO.bind (dist_Near.mono_d k a0 a1 _) fun _ => LeO.refl _) (LeO.refl _) r h
  · rw [if_neg hk] at h
    cases h
theorem dist_Near.dists_len {k : Nat} {l0 : List S40} {p : Int} : ∀ {n : Nat} {ds : List Int}, dist_Near.dists k l0 p n = some ds → ds.length = n
  | 0, ds, h => by cases h; rfl
  | n + 1, ds, h => by
    obtain ⟨es, h1, h⟩ := Option.bind_eq_some_iff.mp h
    obtain ⟨d, h2, h⟩ := Option.bind_eq_some_iff.mp h
    cases h
    simp [dist_Near.dists_len h1]
theorem dist_Near.dists_at {k : Nat} {l0 : List S40} {p : Int} : ∀ {n : Nat} {ds : List Int}, dist_Near.dists k l0 p n = some ds → ∀ i : Nat, i < n → dist_Far.f k l0 p (i : Int) = some (ds.getD i 0)
  | 0, ds, h, i, hi => absurd hi (Nat.not_lt_zero i)
  | n + 1, ds, h, i, hi => by
    obtain ⟨es, h1, h⟩ := Option.bind_eq_some_iff.mp h
    obtain ⟨d, h2, h⟩ := Option.bind_eq_some_iff.mp h
    cases h
    have hl := dist_Near.dists_len h1
    by_cases hin : i < n
    · rw [dist_Near.dists_at h1 i hin]
      simp [List.getD, List.getElem?_append_left (show i < es.length by omega)]
    · have : i = n := by omega
      subst this
      rw [h2]
      simp [List.getD, List.getElem?_append_right (show es.length ≤ i by omega), hl]
theorem dist_Near.others_mem {p : Int} : ∀ {n : Nat} {x : Int}, x ∈ dist_Near.others p n ↔ 0 ≤ x ∧ x < n ∧ x ≠ p
  | 0, x => by simp [dist_Near.others]; omega
  | n + 1, x => by
    unfold dist_Near.others
    split
    · rw [List.mem_append, dist_Near.others_mem, List.mem_singleton]; omega
    · rw [dist_Near.others_mem]; omega
theorem dist_Near.others_len {p : Int} : ∀ {n : Nat}, (dist_Near.others p n).length ≤ n
  | 0 => by simp [dist_Near.others]
  | n + 1 => by
    have := @dist_Near.others_len p n
    unfold dist_Near.others
    split
    · simp; omega
    · omega
theorem dist_Near.turn_of {n p q : Int} (hq : 0 ≤ q ∧ q < n) (hp : 0 ≤ p ∧ p < n) : dist_Near.turn n p q = if q < p then q - p + n else q - p := by
  unfold dist_Near.turn
  rw [Int.tmod_eq_emod_of_nonneg (by omega)]
  by_cases h : q < p
  · rw [if_pos h, Int.emod_eq_of_lt (by omega) (by omega)]
  · rw [if_neg h, Int.add_emod_right, Int.emod_eq_of_lt (by omega) (by omega)]
theorem dist_Near.cf_lt {n p : Int} {ds : List Int} {a b : Int} : (dist_Near.cf n p ds a b < 0) ↔ (ds.getD a.toNat 0 < ds.getD b.toNat 0 ∨ ds.getD a.toNat 0 = ds.getD b.toNat 0 ∧ dist_Near.turn n p a < dist_Near.turn n p b) := by
  unfold dist_Near.cf dist_Near.sgn
  generalize ds.getD a.toNat 0 = x
  generalize ds.getD b.toNat 0 = y
  generalize dist_Near.turn n p a = u
  generalize dist_Near.turn n p b = v
  split <;> (split <;> (try split) <;> (try split) <;> omega)
/-- A processor's number, of n. -/
abbrev dist_Near.Q (n : Nat) : Type := { x : Int // 0 ≤ x ∧ x < n }
def dist_Near.enc {n : Nat} (x : dist_Near.Q n) : Value := .int .i64 x.1
theorem dist_Near.swo (n : Nat) (p : Int) (ds : List Int) : Go.Sort.SWO (Go.Proofs.ltOf (fun x y : dist_Near.Q n => dist_Near.cf n p ds x.1 y.1)) := by
  refine ⟨fun x => ?_, fun x y z h1 h2 => ?_, fun x y z h1 h2 => ?_⟩
  · exact decide_eq_false (by rw [dist_Near.cf_lt]; omega)
  · have h1 := dist_Near.cf_lt.mp (of_decide_eq_true h1)
    have h2 := dist_Near.cf_lt.mp (of_decide_eq_true h2)
    exact decide_eq_true (dist_Near.cf_lt.mpr (by omega))
  · have h1 := mt dist_Near.cf_lt.mpr (of_decide_eq_false h1)
    have h2 := mt dist_Near.cf_lt.mpr (of_decide_eq_false h2)
    exact decide_eq_false (mt dist_Near.cf_lt.mp (by omega))
theorem dist_Near.tot (n : Nat) (p : Int) (hp : 0 ≤ p ∧ p < n) (ds : List Int) (x y : dist_Near.Q n) (h1 : Go.Proofs.ltOf (fun x y : dist_Near.Q n => dist_Near.cf n p ds x.1 y.1) x y = false) (h2 : Go.Proofs.ltOf (fun x y : dist_Near.Q n => dist_Near.cf n p ds x.1 y.1) y x = false) : x = y := by
  have h1 := mt dist_Near.cf_lt.mpr (of_decide_eq_false h1)
  have h2 := mt dist_Near.cf_lt.mpr (of_decide_eq_false h2)
  have hx := x.2
  have hy := y.2
  rw [dist_Near.turn_of hx hp, dist_Near.turn_of hy hp] at h1 h2
  apply Subtype.ext
  generalize ds.getD x.1.toNat 0 = d1 at *
  generalize ds.getD y.1.toNat 0 = d2 at *
  have he : d1 = d2 := by omega
  subst he
  split at h1 <;> split at h1 <;> simp_all <;> omega
/-- The others, as numbers of processors. -/
theorem dist_Near.lift (n : Nat) (l : List Int) (h : ∀ x ∈ l, 0 ≤ x ∧ x < n) : ∃ d : List (dist_Near.Q n), d.map (·.1) = l :=
  ⟨l.attach.map fun x => ⟨x.1, h x.1 x.2⟩, by rw [List.map_map]; exact List.attach_map_subtype_val l⟩
theorem dist_Near.sort_map (n : Nat) (p : Int) (ds : List Int) (d : List (dist_Near.Q n)) :
    (d.mergeSort fun x y => !(Go.Proofs.ltOf (fun x y : dist_Near.Q n => dist_Near.cf n p ds x.1 y.1)) y x).map (·.1) = (d.map (·.1)).mergeSort (fun x y => !decide (dist_Near.cf n p ds y x < 0)) :=
  List.map_mergeSort fun _ _ _ _ => rfl
theorem dist_Near.or_of {k : Nat} (hk : 3 ≤ k) (x y : Int) : cmp_Or_int.f k [x, y] = some (if x ≠ 0 then x else y) := by
  obtain ⟨j, rfl⟩ : ∃ j, k = j + 3 := ⟨k - 3, by omega⟩
  have r0 : ∀ a b : Int, Go.Proofs.YtjfaafnngloblaaW.PrintWords.rd [a, b] 0 = a := fun _ _ => rfl
  have r1 : ∀ a b : Int, Go.Proofs.YtjfaafnngloblaaW.PrintWords.rd [a, b] 1 = b := fun _ _ => rfl
  have e1 : wrap64 (0 + 1) = 1 := by decide +kernel
  have e2 : wrap64 (1 + 1) = 2 := by decide +kernel
  simp only [cmp_Or_int.f, cmp_Or_int.l0, List.length_cons, List.length_nil, r0, r1, e1, e2]
  by_cases hx : x = 0
  · by_cases hy : y = 0
    · simp [hx, hy]
    · simp [hx, hy]
  · simp [hx]
theorem dist_Near.cmp_of (x y : Int) : cmp_Compare_int.f x y = some (dist_Near.sgn x y) := by
  simp only [cmp_Compare_int.f, cmp_isNaN_int.f, bne_self_eq_false, Option.bind_some, Bool.false_eq_true, if_false, dist_Near.sgn]
  split
  · rfl
  · split
    · rfl
    · rfl
theorem dist_Near.lit (w : World) (e : TypeId) (x y : Int) : Kd.C (Kd.int .i64) (w.alloc (.cells #[.int .i64 x, .int .i64 y] e)) (some ⟨w.heap.size, 0, none⟩) ([x, y] : List Int).length [x, y] := by
  obtain ⟨A, c, he, hr⟩ := own_reads (own_lit w w.heap.size e .i64 [x, y] (Nat.le_refl _) (by simp))
  simp only [Value.slice.injEq] at he
  obtain ⟨rfl, _, _⟩ := he
  exact Kd.C_of_reads (d := (0 : Int)) (h1 := fun _ => rfl) hr
theorem dist_Near.read {A : Option Addr} {c n0 : Nat} {p n : Int} {bt bp bn : Nat} {W w : World} {l : List S40} (hr : Kd.C k40 W A l.length l) (h : w.cell? ⟨bt, 0, none⟩ = some (.slice A n0 c) ∧ w.cell? ⟨bp, 0, none⟩ = some (.int .i64 p) ∧ w.cell? ⟨bn, 0, none⟩ = some (.int .i64 n) ∧ Aside0 (Below W.heap.size W w)) : Kd.C k40 w A l.length l :=
  Kd.C_below hr h.2.2.2.out
theorem dist_Near.step {A : Option Addr} {c n0 : Nat} {p n : Int} {bt bp bn : Nat} {W w w' : World} (h : w.cell? ⟨bt, 0, none⟩ = some (.slice A n0 c) ∧ w.cell? ⟨bp, 0, none⟩ = some (.int .i64 p) ∧ w.cell? ⟨bn, 0, none⟩ = some (.int .i64 n) ∧ Aside0 (Below W.heap.size W w))
    (hb : Below w.heap.size w w') : w'.cell? ⟨bt, 0, none⟩ = some (.slice A n0 c) ∧ w'.cell? ⟨bp, 0, none⟩ = some (.int .i64 p) ∧ w'.cell? ⟨bn, 0, none⟩ = some (.int .i64 n) ∧ Aside0 (Below W.heap.size W w') :=
  ⟨pw_cell_below hb h.1, pw_cell_below hb h.2.1, pw_cell_below hb h.2.2.1, ⟨below_step h.2.2.2.out hb⟩⟩
theorem dist_Near.or_ (k : Nat) (e1 e2 r : Int) (w : World) (h : cmp_Or_int.f k [e1, e2] = some r) : Calls Try.prog 31 #[.slice (some ⟨w.heap.size, 0, none⟩) 2 2] (w.alloc (.cells #[.int .i64 e1, .int .i64 e2] 3)) fun e w' => e = .returned (.int .i64 r) ∧ Drawn0 (w.alloc (.cells #[.int .i64 e1, .int .i64 e2] 3)) w' :=
  cmp_Or_int.calls k _ 2 [e1, e2] r _ (dist_Near.lit _ _ _ _) (Nat.le_refl _) h
set_option maxHeartbeats 1000000 in
theorem dist_Near.cl (k : Nat) (A : Option Addr) (c : Nat) (l : List S40) (p n x y d1 d2 e1 e2 r : Int) (bt bp bn : Nat) (W : World)
    (ht : W.cell? ⟨bt, 0, none⟩ = some (.slice A l.length c)) (hp : W.cell? ⟨bp, 0, none⟩ = some (.int .i64 p)) (hn : W.cell? ⟨bn, 0, none⟩ = some (.int .i64 n))
    (hr : Kd.C k40 W A l.length l) (hc : l.length ≤ c) (hx : 0 ≤ x ∧ x < n) (hy : 0 ≤ y ∧ y < n) (hp0 : 0 ≤ p ∧ p < n) (hn1 : n ≤ 1000000)
    (h1 : dist_Far.f k l p x = some d1) (h2 : dist_Far.f k l p y = some d2) (h3 : cmp_Compare_int.f d1 d2 = some e1)
    (h4 : cmp_Compare_int.f ((IntKind.i64.wrap (IntKind.i64.wrap (x - p) + n)).tmod n) ((IntKind.i64.wrap (IntKind.i64.wrap (y - p) + n)).tmod n) = some e2) (h5 : cmp_Or_int.f k [e1, e2] = some r) :
    Calls Try.prog 30 #[.int .i64 x, .int .i64 y, .pointer (some ⟨bt, 0, none⟩), .pointer (some ⟨bp, 0, none⟩), .pointer (some ⟨bn, 0, none⟩)] W fun e w' => e = .returned (.int .i64 r) ∧ Below W.heap.size W w' := by
  have HR := Aside0.mk hr; clear hr
  have H1 := Aside0.mk h1; clear h1
  have H2 := Aside0.mk h2; clear h2
  have H3 := Aside0.mk h3; clear h3
  have H4 := Aside0.mk h4; clear h4
  have H5 := Aside0.mk h5; clear h5
  have hn0 : ¬ n = 0 := by omega
  go_enter Try.func30, Try.ntmps30
  go_wp2_with fail
  go_region_held3 (fun w' => w'.cell? ⟨bt, 0, none⟩ = some (.slice A l.length c) ∧ w'.cell? ⟨bp, 0, none⟩ = some (.int .i64 p) ∧ w'.cell? ⟨bn, 0, none⟩ = some (.int .i64 n) ∧ Aside0 (Below W.heap.size W w'))
    (first | exact hS' | exact dist_Near.step hS' (below_alloc (Below.refl _ _) _) | exact ⟨ht, hp, hn, ⟨below_drew1 (Below.refl _ _)⟩⟩ | assumption)
    (first | (go_at_call 11; (with_reducible refine (dist_Far.calls k A c l p x d1 _ ?hrd hc H1.out).mono ?_); (case hrd => exact dist_Near.read HR.out (by assumption)); rintro e w' ⟨rfl, hb⟩; have hS' := dist_Near.step (by assumption) hb; clear hb) | (go_at_call 11; (with_reducible refine (dist_Far.calls k A c l p y d2 _ ?hrd hc H2.out).mono ?_); (case hrd => exact dist_Near.read HR.out (by assumption)); rintro e w' ⟨rfl, hb⟩; have hS' := dist_Near.step (by assumption) hb; clear hb) | (go_at_call 32; (with_reducible refine (cmp_Compare_int.calls d1 d2 e1 _ H3.out).mono ?_); rintro e w' ⟨rfl, hb⟩; have hS' := dist_Near.step (by assumption) hb.below; clear hb) | (go_at_call 32; (with_reducible refine (cmp_Compare_int.calls _ _ e2 _ H4.out).mono ?_); rintro e w' ⟨rfl, hb⟩; have hS' := dist_Near.step (by assumption) hb.below; clear hb) | (go_at_call 31; (with_reducible refine (dist_Near.or_ k e1 e2 r _ H5.out).mono ?_); rintro e w' ⟨rfl, hb⟩; have hS' := dist_Near.step (by assumption) hb.below; clear hb))
  go_wp2
  go_ret
  exact ⟨rfl, hS'.2.2.2.out⟩
theorem dist_Near.below_sw {α : Type} [Inhabited α] (enc : α → Value) (W : World) (g q : Nat) (dk : Array α) (os : Array Obj) (hg : g ≤ W.heap.size) : Below g W (Go.Proofs.sortWorld enc W g 0 q dk os) := by
  have h0 := Go.Lib.below_putRow (enc := enc) (q := q) (d := dk) (Below.refl g W) (Nat.le_refl g)
  exact ⟨h0.os, h0.tape, h0.output, by have := h0.size; simp [Go.Proofs.sortWorld], fun k hk => by
    rw [← h0.block k hk]
    simp only [Go.Proofs.sortWorld]
    rw [heap_grow_old _ _ (by have := h0.size; omega)]⟩
theorem dist_Near.wrap_of {n p x : Int} (hx : 0 ≤ x ∧ x < n) (hp : 0 ≤ p ∧ p < n) (hn : n ≤ 1000000) : (IntKind.i64.wrap (IntKind.i64.wrap (x - p) + n)).tmod n = dist_Near.turn n p x := by
  have w1 : ∀ z : Int, -9223372036854775808 ≤ z → z ≤ 9223372036854775807 → IntKind.i64.wrap z = z := fun z a b => Go.IntWalk.i64_in z ⟨a, b⟩
  rw [w1 (x - p) (by omega) (by omega), w1 (x - p + n) (by omega) (by omega)]
  rfl
theorem dist_Near.sort (k : Nat) (A : Option Addr) (c : Nat) (l : List S40) (p : Int) (n : Nat) (ds : List Int) (bt bp bn base : Nat) (v : Value) (W0 W : World)
    (hb0 : Below W0.heap.size W0 W) (h0b : W0.heap.size ≤ base) (hr : Kd.C k40 W0 A l.length l) (hc : l.length ≤ c)
    (ht : W.cell? ⟨bt, 0, none⟩ = some (.slice A l.length c)) (hp : W.cell? ⟨bp, 0, none⟩ = some (.int .i64 p)) (hn : W.cell? ⟨bn, 0, none⟩ = some (.int .i64 n))
    (hbt : bt < base) (hbp : bp < base) (hbn : bn < base) (hk : 3 ≤ k) (hp0 : 0 ≤ p ∧ p < n) (hn1 : n ≤ 1000) (hds : dist_Near.dists k l p n = some ds)
    (hR : Kd.R (Kd.int .i64) 3 W base (fun _ => True) v (dist_Near.others p n)) :
    Calls Try.prog 29 #[v, .func (.func 30) #[] #[.pointer (some ⟨bt, 0, none⟩), .pointer (some ⟨bp, 0, none⟩), .pointer (some ⟨bn, 0, none⟩)]] W fun e w' => e = .returned (.tuple #[]) ∧ Kd.R (Kd.int .i64) 3 w' base (fun _ => True) v (dist_Near.sorted n p ds) ∧ Below base W w' := by
  have eg : ∀ args w, (callFunc 30 args).run Try.prog w = .ok (.enter 30 args) w := enters_of Try.func30 (by kernel_rfl) rfl
  haveI : Inhabited (dist_Near.Q n) := ⟨⟨p, hp0⟩⟩
  rcases Nat.eq_zero_or_pos (dist_Near.others p n).length with h0 | h0
  · obtain ⟨A1, c1, hv⟩ := Kd.R_slice hR
    have hnil : dist_Near.others p n = [] := List.eq_nil_of_length_eq_zero h0
    have hS := Go.Proofs.AnyF.slices_SortFunc_none (P := Try.prog) (ρ := Try.sortL_ren) { Try.sortL with } A1 c1 (.func (.func 30) #[] #[.pointer (some ⟨bt, 0, none⟩), .pointer (some ⟨bp, 0, none⟩), .pointer (some ⟨bn, 0, none⟩)]) W
    rw [h0] at hv
    subst hv
    refine Calls.mono hS ?_
    rintro e w' ⟨rfl, rfl⟩
    refine ⟨rfl, ?_, Below.refl _ _⟩
    have : dist_Near.sorted n p ds = [] := by simp [dist_Near.sorted, hnil]
    rw [this, ← hnil]
    exact hR
  · obtain ⟨g, cap, hv, hg, hgW, -⟩ := Kd.R_form hR h0
    obtain ⟨d, hd⟩ := dist_Near.lift n (dist_Near.others p n) fun x hx => by have := dist_Near.others_mem.mp hx; omega
    have hlen : d.length = (dist_Near.others p n).length := by rw [← hd, List.length_map]
    have hown := Kd.own_of_R (h1 := fun _ => rfl) hR
    have henc : encs (Value.int .i64) (dist_Near.others p n) = d.map dist_Near.enc := by rw [← hd, encs, List.map_map]; rfl
    rw [henc] at hown
    obtain ⟨g', cap', hv', -, -, -, -, -, hH⟩ := Go.Lib.holds_of_ownsRow hown (by rw [hv]; simp)
    have hgg : g' = g ∧ cap' = cap := by
      rw [hv] at hv'
      simp only [Value.slice.injEq, Option.some.injEq, Addr.mk.injEq] at hv'
      exact ⟨hv'.1.1.symm, hv'.2.2.symm⟩
    obtain ⟨rfl, rfl⟩ := hgg
    clear hv'
    have hcmp : Go.Proofs.CmpLays1 Try.prog 30 #[.pointer (some ⟨bt, 0, none⟩), .pointer (some ⟨bp, 0, none⟩), .pointer (some ⟨bn, 0, none⟩)] dist_Near.enc (fun x y : dist_Near.Q n => dist_Near.cf n p ds x.1 y.1) g' 0 d.toArray.size W := by
      intro m os dk hdk x y
      have hS := dist_Near.below_sw (dist_Near.enc (n := n)) W g' m dk os (by omega)
      have hlt := dist_Near.dists_len hds
      have hx := x.2
      have hy := y.2
      have f1 := dist_Near.dists_at hds x.1.toNat (by omega)
      have f2 := dist_Near.dists_at hds y.1.toNat (by omega)
      rw [Int.toNat_of_nonneg hx.1] at f1
      rw [Int.toNat_of_nonneg hy.1] at f2
      refine Go.Proofs.Ytjfaafnngloblaa.Up.calls_grown ?_
      exact dist_Near.cl k A c l p n x.1 y.1 _ _ _ _ (dist_Near.cf n p ds x.1 y.1) bt bp bn _ ((hS.cell (p := ⟨bt, 0, none⟩) (by show bt < g'; omega)).trans ht) ((hS.cell (p := ⟨bp, 0, none⟩) (by show bp < g'; omega)).trans hp) ((hS.cell (p := ⟨bn, 0, none⟩) (by show bn < g'; omega)).trans hn)
        (Kd.C_below hr (hb0.trans (hS.mono (by omega)))) hc hx hy hp0 (by omega) f1 f2 (dist_Near.cmp_of _ _) (dist_Near.cmp_of _ _)
        (by rw [dist_Near.or_of hk, dist_Near.wrap_of hx hp0 (by omega), dist_Near.wrap_of hy hp0 (by omega)]; rfl)
    have hS := Go.Proofs.Any.slices_SortFunc_total (P := Try.prog) Try.sortL dist_Near.enc (fun _ => rfl) (fun x y : dist_Near.Q n => dist_Near.cf n p ds x.1 y.1) (dist_Near.swo n p ds) 30 #[.pointer (some ⟨bt, 0, none⟩), .pointer (some ⟨bp, 0, none⟩), .pointer (some ⟨bn, 0, none⟩)] g' 0 cap' d.toArray W eg hcmp hH hgW
      (by have := @dist_Near.others_len p n; simp; omega) (dist_Near.tot n p hp0 ds)
    have hsz : d.toArray.size = (dist_Near.others p n).length := by simp [hlen]
    rw [hsz] at hS
    subst hv
    refine Calls.mono hS ?_
    rintro e w' ⟨rfl, q, os, rfl⟩
    have hgW' : g' ≤ W.heap.size := Nat.le_of_lt hgW
    refine ⟨rfl, ?_, (dist_Near.below_sw (dist_Near.enc (n := n)) W g' q _ os (by omega)).mono hg⟩
    have hms := dist_Near.sort_map n p ds d
    rw [hd] at hms
    have hl2 : (d.mergeSort fun x y => !(Go.Proofs.ltOf (fun x y : dist_Near.Q n => dist_Near.cf n p ds x.1 y.1)) y x).length = (dist_Near.others p n).length := by rw [List.length_mergeSort, hlen]
    have ho := Go.Lib.ownsRow_putRow (q := q) hown hl2 (Nat.le_refl _)
    rw [List.take_of_length_le (by omega)] at ho
    have hsl : (dist_Near.sorted n p ds).length = (dist_Near.others p n).length := by simp [dist_Near.sorted]
    rw [← hsl] at ho
    refine Kd.R_of_own (h1 := fun _ => rfl) ?_ (fun _ _ => trivial)
    refine own_move (w := putRow dist_Near.enc (Sort.ahead W q) g' 0 (d.mergeSort fun x y => !(Go.Proofs.ltOf (fun x y : dist_Near.Q n => dist_Near.cf n p ds x.1 y.1)) y x).toArray) ?_ ?_
    · have e1 : encs (Value.int .i64) (dist_Near.sorted n p ds) = (d.mergeSort fun x y => !(Go.Proofs.ltOf (fun x y : dist_Near.Q n => dist_Near.cf n p ds x.1 y.1)) y x).map dist_Near.enc := by
        have e2 : dist_Near.sorted n p ds = (d.mergeSort fun x y => !(Go.Proofs.ltOf (fun x y : dist_Near.Q n => dist_Near.cf n p ds x.1 y.1)) y x).map (·.1) := hms.symm
        rw [e2, encs, List.map_map]
        rfl
      rw [e1, ← hsl]
      exact ho
    · intro j hj
      have hjg : j = g' := by simpa [Value.ownBlock] using hj.symm
      subst hjg
      simp only [Go.Proofs.sortWorld]
      rw [heap_grow_old _ _ (by simpa using hgW)]
set_option maxHeartbeats 2000000 in
theorem dist_Near.calls (k : Nat) (A0 : Option Addr) (c0 : Nat) (l0 : List S40) (a1 : Int) (r : List Int) (w : World) (hr0 : Kd.C k40 w A0 l0.length l0) (hc0 : l0.length ≤ c0) (h : dist_Near.f k l0 a1 = some r) :
    Calls Try.prog 16 #[.slice A0 l0.length c0, .int .i64 a1] w fun e w' => ∃ v0_ : Value, e = .returned (v0_) ∧ Kd.R (Kd.int .i64) 3 w' w.heap.size (fun _ => True) v0_ r ∧ Below w.heap.size w w' := by
  have HR0 := Aside0.mk hr0
  have HC0 := Aside0.mk hc0
  clear hr0 hc0
  obtain ⟨v, hv, h⟩ := Option.bind_eq_some_iff.mp h
  have HV := Aside0.mk hv
  clear hv
  have Hb1 : Below w.heap.size w ((w.alloc (.cells #[.slice A0 l0.length c0] 22)).alloc (.cells #[.int .i64 a1] 3)) := below_alloc (below_alloc (Below.refl _ _) _) _
  by_cases hneg : v < 0
  · rw [if_pos hneg] at h
    obtain rfl := Option.some.inj h
    have hneg' : decide (v < 0) = true := decide_eq_true hneg
    go_enter Try.func16, Try.ntmps16
    go_wp2_with (go_at_call 24; (with_reducible refine (dist_proc.calls k _ _ l0 a1 v _ ?hrd ?hcd HV.out).mono ?_); (case hrd => exact Kd.C_below HR0.out Hb1); (case hcd => exact HC0.out); rintro e w3 ⟨rfl, hb⟩; have HB := Aside0.mk (Hb1.trans (hb.mono (below_size Hb1))); clear hb)
    go_ret
    exact ⟨_, rfl, Kd.R_nil _ _ _ _ _, HB.out⟩
  · rw [if_neg hneg] at h
    have hneg' : decide (v < 0) = false := decide_eq_false hneg
    obtain ⟨ps, hps, h⟩ := Option.bind_eq_some_iff.mp h
    have HP := Aside0.mk hps
    clear hps
    by_cases hk : 3 ≤ k
    · rw [if_pos hk] at h
      by_cases hpp : 0 ≤ a1 ∧ a1 < (ps.length : Int) ∧ ps.length ≤ 1000
      · rw [if_pos hpp] at h
        obtain ⟨ds, hds, h⟩ := Option.bind_eq_some_iff.mp h
        obtain rfl := Option.some.inj h
        have HD := Aside0.mk hds
        clear hds h
        have HK := Aside0.mk hk
        have HPP := Aside0.mk hpp
        clear hk hpp
        have HT1 := Aside0.mk (show ((w.alloc (.cells #[.slice A0 l0.length c0] 22)).alloc (.cells #[.int .i64 a1] 3)).cell? ⟨w.heap.size, 0, none⟩ = some (.slice A0 l0.length c0) by simp)
        have HP1 := Aside0.mk (show ((w.alloc (.cells #[.slice A0 l0.length c0] 22)).alloc (.cells #[.int .i64 a1] 3)).cell? ⟨w.heap.size + 1, 0, none⟩ = some (.int .i64 a1) by simp)
        go_enter Try.func16, Try.ntmps16
        go_wp2_with (first | (go_at_call 24; (with_reducible refine (dist_proc.calls k _ _ l0 a1 v _ ?hrd ?hcd HV.out).mono ?_); (case hrd => exact Kd.C_below HR0.out Hb1); (case hcd => exact HC0.out); rintro e w3 ⟨rfl, hb⟩; have HB := Aside0.mk (Hb1.trans (hb.mono (below_size Hb1))); have ct3 := pw_cell_below hb HT1.out; have cp3 := pw_cell_below hb HP1.out; clear hb HT1 HP1 Hb1) | (go_at_call 28; (with_reducible refine (topo_Procs.calls k _ _ l0 ps _ ?hrd ?hcd HP.out).mono ?_); (case hrd => exact Kd.C_below HR0.out HB.out); (case hcd => exact HC0.out); rintro e w4 ⟨v4, rfl, hr4, hb⟩; obtain ⟨A4, c4, hv4, -, -⟩ := Kd.R_reads hr4; subst hv4; clear hr4; have HB4 := Aside0.mk (HB.out.trans (hb.mono (below_size HB.out))); have ct4 := pw_cell_below hb ct3; have cp4 := pw_cell_below hb cp3; clear hb ct3 cp3))
        have z1 : w.heap.size < w4.heap.size := World.block_lt_of_cell? w4 _ ct4
        have z2 : w.heap.size + 1 < w4.heap.size := World.block_lt_of_cell? w4 _ cp4
        have ct5 : (w4.alloc (.cells #[.int .i64 (ps.length : Int)] 3)).cell? ⟨w.heap.size, 0, none⟩ = some (.slice A0 l0.length c0) := pw_cell_below (below_alloc (Below.refl _ _) _) ct4
        have cp5 : (w4.alloc (.cells #[.int .i64 (ps.length : Int)] 3)).cell? ⟨w.heap.size + 1, 0, none⟩ = some (.int .i64 a1) := pw_cell_below (below_alloc (Below.refl _ _) _) cp4
        have cn5 : (w4.alloc (.cells #[.int .i64 (ps.length : Int)] 3)).cell? ⟨w4.heap.size, 0, none⟩ = some (.int .i64 (ps.length : Int)) := by simp
        have hz5 : (w4.alloc (.cells #[.int .i64 (ps.length : Int)] 3)).heap.size = w4.heap.size + 1 := by simp
        have HB5 := Aside0.mk (below_alloc HB4.out (.cells #[.int .i64 (ps.length : Int)] 3))
        clear HB4 ct4 cp4 HB
        generalize w4.alloc (.cells #[.int .i64 (ps.length : Int)] 3) = W5 at ct5 cp5 cn5 hz5 HB5 ⊢
        generalize w4.heap.size = b4 at z1 z2 cn5 hz5 ⊢
        have HT := Aside0.mk ct5
        have HN := Aside0.mk cn5
        have HPc := Aside0.mk cp5
        have Z := Aside0.mk (And.intro z1 (And.intro z2 hz5))
        clear ct5 cn5 cp5 z1 z2 hz5
        go_loopg [6, 7, 16] (ps.length + 1) (fun kq v6 v7 v16 w' => ∃ i : Nat, v16 = .int .i64 (i : Int) ∧ Aside0 (i + kq = ps.length + 1 ∧ 1 ≤ kq) ∧ Aside0 (Kd.R (Kd.int .i64) 3 w' (b4 + 1) (fun _ => True) v6 (dist_Near.others a1 i)) ∧ Aside0 (Below (b4 + 1) W5 w'))
        case atStart => exact ⟨0, rfl, ⟨by omega, by omega⟩, ⟨Kd.R_nil _ _ _ _ _⟩, ⟨Below.refl _ _⟩⟩
        case round =>
          obtain ⟨i, rfl, HA, HO, HBw⟩ := hrel
          cases gk with
          | zero => exact absurd HA.out.2 (by omega)
          | succ k1 =>
            have cpw : wr.cell? ⟨w.heap.size + 1, 0, none⟩ = some (.int .i64 a1) := (HBw.out.cell (p := ⟨w.heap.size + 1, 0, none⟩) (by show w.heap.size + 1 < b4 + 1; have := Z.out.2.1; omega)).trans HPc.out
            by_cases hin : i < ps.length
            · have hnext : Value.int .i64 (wrap64 ((i : Int) + 1)) = Value.int .i64 ((i + 1 : Nat) : Int) := by rw [show wrap64 ((i : Int) + 1) = ((i + 1 : Nat) : Int) by have := HPP.out; unfold wrap64; omega]
              have c1 : decide ((i : Int) < (ps.length : Int)) = true := decide_eq_true (by omega)
              by_cases hne : (i : Int) = a1
              · have c2 : ((i : Int) != a1) = false := bne_eq_false_iff_eq.mpr hne
                go_wp2
                go_roundg k1
                case measure => have := HA.out; omega
                case rel => exact ⟨i + 1, by first | exact hnext | (rw [← hne]; exact hnext), ⟨by have := HA.out; omega, by have := HA.out; omega⟩, ⟨by rw [dist_Near.others, if_neg (by omega)]; exact HO.out⟩, HBw⟩
              · have c2 : ((i : Int) != a1) = true := bne_iff_ne.mpr hne
                go_wp2_with (first | ((with_reducible refine gate_builtin (b := .append) (xs := #[.tmp 22, .tmp 24]) rfl ?_); at_builtin; refine Kd.R_append (Kd.int .i64) (w0 := W5) (b4 + 1) rfl (.tmp 22) (.tmp 24) 27 3 (.int .i64 0) 8 rfl Try.underlying27 info3 rfl (by decide) (by omega) u6 (dist_Near.others a1 i) (i : Int) [.int .i64 (i : Int)] (fun _ => True) (fun _ => False) rfl rfl ?aP (fun _ hk => hk.elim) ?aF ?aO ?aB ?aS ?aL ?_; (case aP => exact rfl); (case aB => exact HBw.out); (case aF => exact (fun _ _ => trivial)); (case aO => exact HO.out); (case aS => exact Nat.le_trans (Nat.le_of_eq Z.out.2.2.symm) HBw.out.size); (case aL => (have := @dist_Near.others_len a1 i; have := HPP.out; omega)); intro v103 w8 ho hb hg hat; have HO2 := Aside0.mk ho; have HBw2 := Aside0.mk hb; clear ho hb hg hat))
                go_roundg k1
                case measure => have := HA.out; omega
                case rel => exact ⟨i + 1, hnext, ⟨by have := HA.out; omega, by have := HA.out; omega⟩, ⟨by rw [dist_Near.others, if_pos hne]; exact HO2.out⟩, HBw2⟩
            · have c1 : decide ((i : Int) < (ps.length : Int)) = false := decide_eq_false (by omega)
              have hi : i = ps.length := by have := HA.out; omega
              subst hi
              have HS := fun u (hu : Kd.R (Kd.int .i64) 3 wr (b4 + 1) (fun _ => True) u (dist_Near.others a1 ps.length)) => dist_Near.sort k A0 c0 l0 a1 ps.length ds w.heap.size (w.heap.size + 1) b4 (b4 + 1) u w wr
                (HB5.out.trans (HBw.out.mono (by have := Z.out; omega))) (by have := Z.out; omega) HR0.out HC0.out
                ((HBw.out.cell (p := ⟨w.heap.size, 0, none⟩) (by show w.heap.size < b4 + 1; have := Z.out; omega)).trans HT.out) cpw ((HBw.out.cell (p := ⟨b4, 0, none⟩) (by show b4 < b4 + 1; omega)).trans HN.out)
                (by have := Z.out; omega) (by have := Z.out; omega) (by omega) HK.out ⟨HPP.out.1, HPP.out.2.1⟩ HPP.out.2.2 HD.out hu
              go_wp2_with (go_at_call 29; (with_reducible refine (HS u6 HO.out).mono ?_); rintro e w' ⟨rfl, hR, hb⟩; have HR9 := Aside0.mk hR; have HB9 := Aside0.mk hb; clear hR hb)
              go_ret
              exact ⟨_, rfl, Kd.R_lower HR9.out (by have := Z.out; omega), HB5.out.trans ((HBw.out.trans HB9.out).mono (by have := Z.out; omega))⟩
      · rw [if_neg hpp] at h
        cases h
    · rw [if_neg hk] at h
      cases h
end


/-! ### catafalquelaw02_two: function 23 -/
def catafalquelaw02_two.f  : Option ((List (S40))) := some (([(⟨(-1), 0⟩ : S40), (⟨0, 1⟩ : S40), (⟨1, 2⟩ : S40), (⟨2, 3⟩ : S40), (⟨2, 3⟩ : S40), (⟨0, 1⟩ : S40), (⟨5, 2⟩ : S40), (⟨6, 3⟩ : S40), (⟨6, 3⟩ : S40)] : List (S40)))
set_option maxHeartbeats 8000000 in
set_option maxRecDepth 100000 in
theorem catafalquelaw02_two.calls  (r : List (S40)) (w : World) (h : catafalquelaw02_two.f  = some r) :
    Calls Try.prog 23 #[] w fun e w' => ∃ v0_ : Value, e = .returned (v0_) ∧ Kd.R k40 40 w' w.heap.size (fun _ => True) v0_ r ∧ Below w.heap.size w w' := by
  have hu40 := Try.underlying40
  have HB := Aside0.mk (Below.refl w.heap.size w)
  have H : (some (([(⟨(-1), 0⟩ : S40), (⟨0, 1⟩ : S40), (⟨1, 2⟩ : S40), (⟨2, 3⟩ : S40), (⟨2, 3⟩ : S40), (⟨0, 1⟩ : S40), (⟨5, 2⟩ : S40), (⟨6, 3⟩ : S40), (⟨6, 3⟩ : S40)] : List (S40)))) = some r := h
  clear h
  obtain ⟨y150, hy150⟩ : ∃ y_ : List (S40), y_ = (([(⟨(-1), 0⟩ : S40), (⟨0, 1⟩ : S40), (⟨1, 2⟩ : S40), (⟨2, 3⟩ : S40), (⟨2, 3⟩ : S40), (⟨0, 1⟩ : S40), (⟨5, 2⟩ : S40), (⟨6, 3⟩ : S40), (⟨6, 3⟩ : S40)] : List (S40))) := ⟨_, rfl⟩
  replace H : (some y150) = some r := by first | (rw [hy150]; with_reducible exact H) | (have H2_ := (Option.bind_some _ _).symm.trans H; rw [hy150]; with_reducible exact H2_) | (have H2_ := (Option.bind_some _ _).symm.trans H; with_reducible exact H2_) | with_reducible exact H | (rw [hy150]; exact H) | exact H
  have Ny150 := Aside0.mk hy150
  clear hy150
  obtain rfl := Option.some.inj H
  go_enter Try.func23, Try.ntmps23
  go_wp2_with (first | ((with_reducible refine gate_dst (N := 10) rfl ?_); refine Kd.R_lit k40 _ 40 ?hg (N := 10) ?hd (xs := ([(⟨(-1), 0⟩ : S40), (⟨0, 1⟩ : S40), (⟨1, 2⟩ : S40), (⟨2, 3⟩ : S40), (⟨2, 3⟩ : S40), (⟨0, 1⟩ : S40), (⟨5, 2⟩ : S40), (⟨6, 3⟩ : S40), (⟨6, 3⟩ : S40)] : List (S40))) (inner := [.int .i64 (-1), .int .i64 0, .int .i64 0, .int .i64 1, .int .i64 1, .int .i64 2, .int .i64 2, .int .i64 3, .int .i64 2, .int .i64 3, .int .i64 0, .int .i64 1, .int .i64 5, .int .i64 2, .int .i64 6, .int .i64 3, .int .i64 6, .int .i64 3]) (ok := fun _ => True) (okp := fun _ => True) ?hr ?hp (fun _ hk => hk) trivial (Below.refl _ _) (Nat.le_refl _) (by simp) ?_; (case hd => rfl); (case hg => rfl); (case hr => first | (go_simp; done) | (go_simp; rfl)); (case hp => exact (Reps.c2 (show Kd.M k40 _ _ _ (⟨(-1), 0⟩ : S40) [.int .i64 (-1), .int .i64 0] from (k40_mkM _ _ _ (⟨(-1), 0⟩ : S40) )) (Reps.c2 (show Kd.M k40 _ _ _ (⟨0, 1⟩ : S40) [.int .i64 0, .int .i64 1] from (k40_mkM _ _ _ (⟨0, 1⟩ : S40) )) (Reps.c2 (show Kd.M k40 _ _ _ (⟨1, 2⟩ : S40) [.int .i64 1, .int .i64 2] from (k40_mkM _ _ _ (⟨1, 2⟩ : S40) )) (Reps.c2 (show Kd.M k40 _ _ _ (⟨2, 3⟩ : S40) [.int .i64 2, .int .i64 3] from (k40_mkM _ _ _ (⟨2, 3⟩ : S40) )) (Reps.c2 (show Kd.M k40 _ _ _ (⟨2, 3⟩ : S40) [.int .i64 2, .int .i64 3] from (k40_mkM _ _ _ (⟨2, 3⟩ : S40) )) (Reps.c2 (show Kd.M k40 _ _ _ (⟨0, 1⟩ : S40) [.int .i64 0, .int .i64 1] from (k40_mkM _ _ _ (⟨0, 1⟩ : S40) )) (Reps.c2 (show Kd.M k40 _ _ _ (⟨5, 2⟩ : S40) [.int .i64 5, .int .i64 2] from (k40_mkM _ _ _ (⟨5, 2⟩ : S40) )) (Reps.c2 (show Kd.M k40 _ _ _ (⟨6, 3⟩ : S40) [.int .i64 6, .int .i64 3] from (k40_mkM _ _ _ (⟨6, 3⟩ : S40) )) (Reps.c2 (show Kd.M k40 _ _ _ (⟨6, 3⟩ : S40) [.int .i64 6, .int .i64 3] from (k40_mkM _ _ _ (⟨6, 3⟩ : S40) )) (Reps.none _ _))))))))))); intro v151 w1 ho2 hb hg_ hnew_; clear hg_ hnew_; (first | rw [← Ny150.out] at ho2 | (simp only [Int.reduceToNat] at ho2; rw [← Ny150.out] at ho2)); have n0_ := Aside0.mk (Kd.R_lower ho2 (below_size (by repeat (first | (with_reducible first | exact HB.out | apply below_alloc | apply pw_below_drewN | apply below_drew1) | exact HB.out)))); have n1_ := Aside0.mk (below_step (by repeat (first | (with_reducible first | exact HB.out | apply below_alloc | apply pw_below_drewN | apply below_drew1) | exact HB.out)) hb); clear HB; have HO152 := n0_; have HB := n1_; clear n0_ n1_; clear hb ho2))
  go_ret
  exact ⟨_, by first | rfl | (simp [errW_none, errW_some] <;> rfl) | (simp [*, errW_none, errW_some] <;> rfl), by (with_reducible repeat (first | apply Kd.R_alloc | apply Kd.R_drewN | apply Kd.R_drew)); exact HO152.out, by repeat (first | (with_reducible first | exact HB.out | apply below_alloc | apply pw_below_drewN | apply below_drew1) | exact HB.out)⟩

/-! ### catafalquelaw02_shown: function 10 -/
def catafalquelaw02_shown.f (k : Nat)  : Option (Bool) := (catafalquelaw02_two.f).bind fun t153 => ((dist_Far.f k t153 0 1).bind fun t156 => (if t156 = 1 then ((dist_Far.f k t153 0 2).bind fun t157 => (if t157 = 3 then ((dist_Near.f k t153 3).bind fun t158 => ((catafalqueref01_Ints.f k t158 (([2, 0, 1] : List Int))).bind fun t164 => (if t164 = true then ((dist_Node.f k t153 2).bind fun t165 => (some (t165 == 1))) else (some false)))) else (some false))) else (some false)))
theorem catafalquelaw02_shown.mono : ∀ k, LeO (catafalquelaw02_shown.f k ) (catafalquelaw02_shown.f (k + 1) ) := by
  intro  k
  unfold catafalquelaw02_shown.f
  repeat' first
      | (with_reducible exact catafalqueref01_Ints.mono _ _ _)
      | (with_reducible exact dist_Far.mono _ _ _ _)
      | (with_reducible exact dist_Near.mono _ _ _)
      | (with_reducible exact dist_Node.mono _ _ _)
      | (with_reducible exact LeO.refl _)
      | (with_reducible exact LeO.none _)
      | (with_reducible refine LeO.ite ?_ ?_)
      | (with_reducible refine LeO.bind ?_ (fun _ => ?_))
      | exact catafalqueref01_Ints.mono _ _ _
      | exact dist_Far.mono _ _ _ _
      | exact dist_Near.mono _ _ _
      | exact dist_Node.mono _ _ _
      | exact LeO.none _
      | refine LeO.ite ?_ ?_
      | refine LeO.bind ?_ (fun _ => ?_)
set_option maxHeartbeats 8000000 in
set_option maxRecDepth 100000 in
theorem catafalquelaw02_shown.calls (k : Nat)  (r : Bool) (w : World) (h : catafalquelaw02_shown.f k  = some r) :
    Calls Try.prog 10 #[] w fun e w' => e = .returned (.bool r) ∧ Below w.heap.size w w' := by
  have HB := Aside0.mk (Below.refl w.heap.size w)
  have H : ((catafalquelaw02_two.f).bind fun t153 => ((dist_Far.f k t153 0 1).bind fun t156 => (if t156 = 1 then ((dist_Far.f k t153 0 2).bind fun t157 => (if t157 = 3 then ((dist_Near.f k t153 3).bind fun t158 => ((catafalqueref01_Ints.f k t158 (([2, 0, 1] : List Int))).bind fun t164 => (if t164 = true then ((dist_Node.f k t153 2).bind fun t165 => (some (t165 == 1))) else (some false)))) else (some false))) else (some false)))) = some r := h
  clear h
  replace H := Option.bind_eq_some_iff.mp H
  obtain ⟨t153, A10, H⟩ := H
  replace H : ((dist_Far.f k t153 0 1).bind fun t156 => (if t156 = 1 then ((dist_Far.f k t153 0 2).bind fun t157 => (if t157 = 3 then ((dist_Near.f k t153 3).bind fun t158 => ((catafalqueref01_Ints.f k t158 (([2, 0, 1] : List Int))).bind fun t164 => (if t164 = true then ((dist_Node.f k t153 2).bind fun t165 => (some (t165 == 1))) else (some false)))) else (some false))) else (some false))) = some r := H
  have A1 := Aside0.mk A10
  clear A10
  replace H := Option.bind_eq_some_iff.mp H
  obtain ⟨t156, A20, H⟩ := H
  replace H : (if t156 = 1 then ((dist_Far.f k t153 0 2).bind fun t157 => (if t157 = 3 then ((dist_Near.f k t153 3).bind fun t158 => ((catafalqueref01_Ints.f k t158 (([2, 0, 1] : List Int))).bind fun t164 => (if t164 = true then ((dist_Node.f k t153 2).bind fun t165 => (some (t165 == 1))) else (some false)))) else (some false))) else (some false)) = some r := H
  have A2 := Aside0.mk A20
  clear A20
  by_cases c3 : t156 = 1
  · rw [if_pos c3] at H
    have c3b0 : (t156 == 1) = true := beq_iff_eq.mpr c3
    have c3b1 : (t156 != 1) = false := bne_eq_false_iff_eq.mpr c3
    clear c3
    replace H := Option.bind_eq_some_iff.mp H
    obtain ⟨t157, A40, H⟩ := H
    replace H : (if t157 = 3 then ((dist_Near.f k t153 3).bind fun t158 => ((catafalqueref01_Ints.f k t158 (([2, 0, 1] : List Int))).bind fun t164 => (if t164 = true then ((dist_Node.f k t153 2).bind fun t165 => (some (t165 == 1))) else (some false)))) else (some false)) = some r := H
    have A4 := Aside0.mk A40
    clear A40
    by_cases c5 : t157 = 3
    · rw [if_pos c5] at H
      have c5b0 : (t157 == 3) = true := beq_iff_eq.mpr c5
      have c5b1 : (t157 != 3) = false := bne_eq_false_iff_eq.mpr c5
      clear c5
      replace H := Option.bind_eq_some_iff.mp H
      obtain ⟨t158, A60, H⟩ := H
      replace H : ((catafalqueref01_Ints.f k t158 (([2, 0, 1] : List Int))).bind fun t164 => (if t164 = true then ((dist_Node.f k t153 2).bind fun t165 => (some (t165 == 1))) else (some false))) = some r := H
      have A6 := Aside0.mk A60
      clear A60
      obtain ⟨y161, hy161⟩ : ∃ y_ : List Int, y_ = (([2, 0, 1] : List Int)) := ⟨_, rfl⟩
      replace H : ((catafalqueref01_Ints.f k t158 y161).bind fun t164 => (if t164 = true then ((dist_Node.f k t153 2).bind fun t165 => (some (t165 == 1))) else (some false))) = some r := by first | (rw [hy161]; with_reducible exact H) | (have H2_ := (Option.bind_some _ _).symm.trans H; rw [hy161]; with_reducible exact H2_) | (have H2_ := (Option.bind_some _ _).symm.trans H; with_reducible exact H2_) | with_reducible exact H | (rw [hy161]; exact H) | exact H
      have Ny161 := Aside0.mk hy161
      clear hy161
      replace H := Option.bind_eq_some_iff.mp H
      obtain ⟨t164, A70, H⟩ := H
      replace H : (if t164 = true then ((dist_Node.f k t153 2).bind fun t165 => (some (t165 == 1))) else (some false)) = some r := H
      have A7 := Aside0.mk A70
      clear A70
      by_cases c8 : t164 = true
      · subst c8
        have H1 : ((dist_Node.f k t153 2).bind fun t165 => (some (t165 == 1))) = some r := by rw [if_pos rfl] at H; exact H
        clear H
        have H := H1
        clear H1
        replace H := Option.bind_eq_some_iff.mp H
        obtain ⟨t165, A90, H⟩ := H
        replace H : (some (t165 == 1)) = some r := H
        have A9 := Aside0.mk A90
        clear A90
        obtain rfl := Option.some.inj H
        go_enter Try.func10, Try.ntmps10
        go_wp2_with (first | ((with_reducible refine gate_callee (f := 23) rfl ?_); refine goesL_ (some 2) rfl rfl Try.func23 (by kernel_rfl) rfl #[] rfl (by (try simp only [List.map_toArray, List.map_cons, List.map_nil]); first | done | rfl | (simp only [List.length_drop, List.length_take]; rfl)) ?_; (with_reducible refine (catafalquelaw02_two.calls  t153 _ A1.out).mono ?_); rintro e w10 ⟨v154, rfl, ho0, hb⟩; refine ⟨_, rfl, ?_⟩; have n0_ := Aside0.mk (Kd.R_lower ho0 (below_size (by repeat (first | (with_reducible first | exact HB.out | apply below_alloc | apply pw_below_drewN | apply below_drew1) | exact HB.out)))); have n1_ := Aside0.mk (below_step (by repeat (first | (with_reducible first | exact HB.out | apply below_alloc | apply pw_below_drewN | apply below_drew1) | exact HB.out)) hb); clear HB; have HO155 := n0_; have HB := n1_; clear n0_ n1_; (try clear hb); (try clear hb2); (try clear hk); (try clear hi); (try clear ho0); obtain ⟨Ao11, co11, eo11⟩ := Kd.R_slice HO155.out; subst eo11) | ((with_reducible refine gate_callee (f := 11) rfl ?_); refine goesL_ (some 4) rfl rfl Try.func11 (by kernel_rfl) rfl #[.slice Ao11 t153.length co11, .int .i64 0, .int .i64 1] rfl (by (try simp only [List.map_toArray, List.map_cons, List.map_nil]); first | done | rfl | (simp only [List.length_drop, List.length_take]; rfl)) ?_; (with_reducible refine (dist_Far.calls k _ _ t153 0 1 t156 _ ?side1 ?side2 A2.out).mono ?_); (case side1 => repeat (first | exact (Kd.R_reads' HO155.out).2.2 | (with_reducible refine Kd.C_alloc ?_ _) | (with_reducible refine Kd.C_drewN ?_ _) | (with_reducible refine Kd.C_drew ?_))); (case side2 => exact (Kd.R_reads' HO155.out).2.1); rintro e w12 ⟨rfl, hb⟩; refine ⟨_, rfl, ?_⟩; have n0_ := Aside0.mk (Kd.R_below (by (with_reducible repeat (first | apply Kd.R_alloc | apply Kd.R_drewN | apply Kd.R_drew)); exact HO155.out) hb); have n1_ := Aside0.mk (below_step (by repeat (first | (with_reducible first | exact HB.out | apply below_alloc | apply pw_below_drewN | apply below_drew1) | exact HB.out)) hb); clear HO155; clear HB; have HO155 := n0_; have HB := n1_; clear n0_ n1_; (try clear hb); (try clear hb2); (try clear hk); (try clear hi)) | (go_at_call 11; (with_reducible refine (dist_Far.calls k _ _ t153 0 2 t157 _ ?side1 ?side2 A4.out).mono ?_); (case side1 => repeat (first | exact (Kd.R_reads' HO155.out).2.2 | (with_reducible refine Kd.C_alloc ?_ _) | (with_reducible refine Kd.C_drewN ?_ _) | (with_reducible refine Kd.C_drew ?_))); (case side2 => exact (Kd.R_reads' HO155.out).2.1); rintro e w13 ⟨rfl, hb⟩; have n0_ := Aside0.mk (Kd.R_below (by (with_reducible repeat (first | apply Kd.R_alloc | apply Kd.R_drewN | apply Kd.R_drew)); exact HO155.out) hb); have n1_ := Aside0.mk (below_step (by repeat (first | (with_reducible first | exact HB.out | apply below_alloc | apply pw_below_drewN | apply below_drew1) | exact HB.out)) hb); clear HO155; clear HB; have HO155 := n0_; have HB := n1_; clear n0_ n1_; (try clear hb); (try clear hb2); (try clear hk); (try clear hi)) | (go_at_call 16; (with_reducible refine (dist_Near.calls k _ _ t153 3 t158 _ ?side1 ?side2 A6.out).mono ?_); (case side1 => repeat (first | exact (Kd.R_reads' HO155.out).2.2 | (with_reducible refine Kd.C_alloc ?_ _) | (with_reducible refine Kd.C_drewN ?_ _) | (with_reducible refine Kd.C_drew ?_))); (case side2 => exact (Kd.R_reads' HO155.out).2.1); rintro e w14 ⟨v159, rfl, ho0, hb⟩; have n0_ := Aside0.mk (Kd.R_below (by (with_reducible repeat (first | apply Kd.R_alloc | apply Kd.R_drewN | apply Kd.R_drew)); exact HO155.out) hb); have n1_ := Aside0.mk (Kd.R_lower ho0 (below_size (by repeat (first | (with_reducible first | exact HB.out | apply below_alloc | apply pw_below_drewN | apply below_drew1) | exact HB.out)))); have n2_ := Aside0.mk (below_step (by repeat (first | (with_reducible first | exact HB.out | apply below_alloc | apply pw_below_drewN | apply below_drew1) | exact HB.out)) hb); clear HO155; clear HB; have HO155 := n0_; have HO160 := n1_; have HB := n2_; clear n0_ n1_ n2_; (try clear hb); (try clear hb2); (try clear hk); (try clear hi); (try clear ho0)) | ((with_reducible refine gate_dst (N := 14) rfl ?_); (try (refine gate_guard (by rfl) ?_; dsimp only)); refine Kd.R_lit (Kd.int .i64) _ 3 ?hg (N := 14) ?hd (xs := ([2, 0, 1] : List Int)) (inner := [.int .i64 2, .int .i64 0, .int .i64 1]) (ok := fun _ => True) (okp := fun _ => True) ?hr ?hp (fun _ hk => hk) trivial (Below.refl _ _) (Nat.le_refl _) (by simp) ?_; (case hd => rfl); (case hg => rfl); (case hr => first | (go_simp; done) | (go_simp; rfl)); (case hp => exact (Reps.one (show Kd.M (Kd.int .i64) _ _ _ 2 [.int .i64 2] from rfl) (Reps.one (show Kd.M (Kd.int .i64) _ _ _ 0 [.int .i64 0] from rfl) (Reps.one (show Kd.M (Kd.int .i64) _ _ _ 1 [.int .i64 1] from rfl) (Reps.none _ _))))); intro v162 w15 ho16 hb hg_ hnew_; clear hg_ hnew_; (first | rw [← Ny161.out] at ho16 | (simp only [Int.reduceToNat] at ho16; rw [← Ny161.out] at ho16)); have n0_ := Aside0.mk (Kd.R_below (by (with_reducible repeat (first | apply Kd.R_alloc | apply Kd.R_drewN | apply Kd.R_drew)); exact HO155.out) hb); have n1_ := Aside0.mk (Kd.R_elder' (by (with_reducible repeat (first | apply Kd.R_alloc | apply Kd.R_drewN | apply Kd.R_drew)); exact HO160.out) (Kd.R_base ho16) hb); have n2_ := Aside0.mk (Kd.R_lower (Kd.R_new' ho16 (Kd.R_lt (by (with_reducible repeat (first | apply Kd.R_alloc | apply Kd.R_drewN | apply Kd.R_drew)); exact HO160.out))) (below_size (by repeat (first | (with_reducible first | exact HB.out | apply below_alloc | apply pw_below_drewN | apply below_drew1) | exact HB.out)))); have n3_ := Aside0.mk (below_step (by repeat (first | (with_reducible first | exact HB.out | apply below_alloc | apply pw_below_drewN | apply below_drew1) | exact HB.out)) hb); clear HO155; clear HO160; clear HB; have HO155 := n0_; have HO160 := n1_; have HO163 := n2_; have HB := n3_; clear n0_ n1_ n2_ n3_; clear hb ho16; obtain ⟨Ao17, co17, eo17⟩ := Kd.R_slice HO160.out; subst eo17; obtain ⟨Ao18, co18, eo18⟩ := Kd.R_slice HO163.out; subst eo18) | (go_at_call 15; (with_reducible refine (catafalqueref01_Ints.calls k _ _ t158 _ _ y161 true _ ?side1 ?side2 ?side3 ?side4 A7.out).mono ?_); (case side1 => repeat (first | exact (Kd.R_reads' HO160.out).2.2 | (with_reducible refine Kd.C_alloc ?_ _) | (with_reducible refine Kd.C_drewN ?_ _) | (with_reducible refine Kd.C_drew ?_))); (case side2 => exact (Kd.R_reads' HO160.out).2.1); (case side3 => repeat (first | exact (Kd.R_reads' HO163.out).2.2 | (with_reducible refine Kd.C_alloc ?_ _) | (with_reducible refine Kd.C_drewN ?_ _) | (with_reducible refine Kd.C_drew ?_))); (case side4 => exact (Kd.R_reads' HO163.out).2.1); rintro e w' ⟨rfl, ⟨nd, rfl⟩⟩) | (go_at_call 13; (with_reducible refine (dist_Node.calls k _ _ t153 2 t165 _ ?side1 ?side2 A9.out).mono ?_); (case side1 => repeat (first | exact (Kd.R_reads' HO155.out).2.2 | (with_reducible refine Kd.C_alloc ?_ _) | (with_reducible refine Kd.C_drewN ?_ _) | (with_reducible refine Kd.C_drew ?_))); (case side2 => exact (Kd.R_reads' HO155.out).2.1); rintro e w19 ⟨rfl, hb⟩; have n0_ := Aside0.mk (Kd.R_below (by (with_reducible repeat (first | apply Kd.R_alloc | apply Kd.R_drewN | apply Kd.R_drew)); exact HO155.out) hb); have n1_ := Aside0.mk (Kd.R_below (by (with_reducible repeat (first | apply Kd.R_alloc | apply Kd.R_drewN | apply Kd.R_drew)); exact HO160.out) hb); have n2_ := Aside0.mk (Kd.R_below (by (with_reducible repeat (first | apply Kd.R_alloc | apply Kd.R_drewN | apply Kd.R_drew)); exact HO163.out) hb); have n3_ := Aside0.mk (below_step (by repeat (first | (with_reducible first | exact HB.out | apply below_alloc | apply pw_below_drewN | apply below_drew1) | exact HB.out)) hb); clear HO155; clear HO160; clear HO163; clear HB; have HO155 := n0_; have HO160 := n1_; have HO163 := n2_; have HB := n3_; clear n0_ n1_ n2_ n3_; (try clear hb); (try clear hb2); (try clear hk); (try clear hi)))
        go_ret
        exact ⟨by first | rfl | (simp [errW_none, errW_some] <;> rfl) | (simp [*, errW_none, errW_some] <;> rfl), by repeat (first | (with_reducible first | exact HB.out | apply below_alloc | apply pw_below_drewN | apply below_drew1) | exact HB.out)⟩
      · replace c8 := Bool.eq_false_iff.mpr c8
        subst c8
        have H1 : (some false) = some r := by rw [if_neg (show ¬ (false = true) by decide)] at H; exact H
        clear H
        have H := H1
        clear H1
        obtain rfl := Option.some.inj H
        go_enter Try.func10, Try.ntmps10
        go_wp2_with (first | ((with_reducible refine gate_callee (f := 23) rfl ?_); refine goesL_ (some 2) rfl rfl Try.func23 (by kernel_rfl) rfl #[] rfl (by (try simp only [List.map_toArray, List.map_cons, List.map_nil]); first | done | rfl | (simp only [List.length_drop, List.length_take]; rfl)) ?_; (with_reducible refine (catafalquelaw02_two.calls  t153 _ A1.out).mono ?_); rintro e w20 ⟨v154, rfl, ho0, hb⟩; refine ⟨_, rfl, ?_⟩; have n0_ := Aside0.mk (Kd.R_lower ho0 (below_size (by repeat (first | (with_reducible first | exact HB.out | apply below_alloc | apply pw_below_drewN | apply below_drew1) | exact HB.out)))); have n1_ := Aside0.mk (below_step (by repeat (first | (with_reducible first | exact HB.out | apply below_alloc | apply pw_below_drewN | apply below_drew1) | exact HB.out)) hb); clear HB; have HO155 := n0_; have HB := n1_; clear n0_ n1_; (try clear hb); (try clear hb2); (try clear hk); (try clear hi); (try clear ho0); obtain ⟨Ao21, co21, eo21⟩ := Kd.R_slice HO155.out; subst eo21) | ((with_reducible refine gate_callee (f := 11) rfl ?_); refine goesL_ (some 4) rfl rfl Try.func11 (by kernel_rfl) rfl #[.slice Ao21 t153.length co21, .int .i64 0, .int .i64 1] rfl (by (try simp only [List.map_toArray, List.map_cons, List.map_nil]); first | done | rfl | (simp only [List.length_drop, List.length_take]; rfl)) ?_; (with_reducible refine (dist_Far.calls k _ _ t153 0 1 t156 _ ?side1 ?side2 A2.out).mono ?_); (case side1 => repeat (first | exact (Kd.R_reads' HO155.out).2.2 | (with_reducible refine Kd.C_alloc ?_ _) | (with_reducible refine Kd.C_drewN ?_ _) | (with_reducible refine Kd.C_drew ?_))); (case side2 => exact (Kd.R_reads' HO155.out).2.1); rintro e w22 ⟨rfl, hb⟩; refine ⟨_, rfl, ?_⟩; have n0_ := Aside0.mk (Kd.R_below (by (with_reducible repeat (first | apply Kd.R_alloc | apply Kd.R_drewN | apply Kd.R_drew)); exact HO155.out) hb); have n1_ := Aside0.mk (below_step (by repeat (first | (with_reducible first | exact HB.out | apply below_alloc | apply pw_below_drewN | apply below_drew1) | exact HB.out)) hb); clear HO155; clear HB; have HO155 := n0_; have HB := n1_; clear n0_ n1_; (try clear hb); (try clear hb2); (try clear hk); (try clear hi)) | (go_at_call 11; (with_reducible refine (dist_Far.calls k _ _ t153 0 2 t157 _ ?side1 ?side2 A4.out).mono ?_); (case side1 => repeat (first | exact (Kd.R_reads' HO155.out).2.2 | (with_reducible refine Kd.C_alloc ?_ _) | (with_reducible refine Kd.C_drewN ?_ _) | (with_reducible refine Kd.C_drew ?_))); (case side2 => exact (Kd.R_reads' HO155.out).2.1); rintro e w23 ⟨rfl, hb⟩; have n0_ := Aside0.mk (Kd.R_below (by (with_reducible repeat (first | apply Kd.R_alloc | apply Kd.R_drewN | apply Kd.R_drew)); exact HO155.out) hb); have n1_ := Aside0.mk (below_step (by repeat (first | (with_reducible first | exact HB.out | apply below_alloc | apply pw_below_drewN | apply below_drew1) | exact HB.out)) hb); clear HO155; clear HB; have HO155 := n0_; have HB := n1_; clear n0_ n1_; (try clear hb); (try clear hb2); (try clear hk); (try clear hi)) | (go_at_call 16; (with_reducible refine (dist_Near.calls k _ _ t153 3 t158 _ ?side1 ?side2 A6.out).mono ?_); (case side1 => repeat (first | exact (Kd.R_reads' HO155.out).2.2 | (with_reducible refine Kd.C_alloc ?_ _) | (with_reducible refine Kd.C_drewN ?_ _) | (with_reducible refine Kd.C_drew ?_))); (case side2 => exact (Kd.R_reads' HO155.out).2.1); rintro e w24 ⟨v159, rfl, ho0, hb⟩; have n0_ := Aside0.mk (Kd.R_below (by (with_reducible repeat (first | apply Kd.R_alloc | apply Kd.R_drewN | apply Kd.R_drew)); exact HO155.out) hb); have n1_ := Aside0.mk (Kd.R_lower ho0 (below_size (by repeat (first | (with_reducible first | exact HB.out | apply below_alloc | apply pw_below_drewN | apply below_drew1) | exact HB.out)))); have n2_ := Aside0.mk (below_step (by repeat (first | (with_reducible first | exact HB.out | apply below_alloc | apply pw_below_drewN | apply below_drew1) | exact HB.out)) hb); clear HO155; clear HB; have HO155 := n0_; have HO160 := n1_; have HB := n2_; clear n0_ n1_ n2_; (try clear hb); (try clear hb2); (try clear hk); (try clear hi); (try clear ho0)) | ((with_reducible refine gate_dst (N := 14) rfl ?_); (try (refine gate_guard (by rfl) ?_; dsimp only)); refine Kd.R_lit (Kd.int .i64) _ 3 ?hg (N := 14) ?hd (xs := ([2, 0, 1] : List Int)) (inner := [.int .i64 2, .int .i64 0, .int .i64 1]) (ok := fun _ => True) (okp := fun _ => True) ?hr ?hp (fun _ hk => hk) trivial (Below.refl _ _) (Nat.le_refl _) (by simp) ?_; (case hd => rfl); (case hg => rfl); (case hr => first | (go_simp; done) | (go_simp; rfl)); (case hp => exact (Reps.one (show Kd.M (Kd.int .i64) _ _ _ 2 [.int .i64 2] from rfl) (Reps.one (show Kd.M (Kd.int .i64) _ _ _ 0 [.int .i64 0] from rfl) (Reps.one (show Kd.M (Kd.int .i64) _ _ _ 1 [.int .i64 1] from rfl) (Reps.none _ _))))); intro v162 w25 ho26 hb hg_ hnew_; clear hg_ hnew_; (first | rw [← Ny161.out] at ho26 | (simp only [Int.reduceToNat] at ho26; rw [← Ny161.out] at ho26)); have n0_ := Aside0.mk (Kd.R_below (by (with_reducible repeat (first | apply Kd.R_alloc | apply Kd.R_drewN | apply Kd.R_drew)); exact HO155.out) hb); have n1_ := Aside0.mk (Kd.R_elder' (by (with_reducible repeat (first | apply Kd.R_alloc | apply Kd.R_drewN | apply Kd.R_drew)); exact HO160.out) (Kd.R_base ho26) hb); have n2_ := Aside0.mk (Kd.R_lower (Kd.R_new' ho26 (Kd.R_lt (by (with_reducible repeat (first | apply Kd.R_alloc | apply Kd.R_drewN | apply Kd.R_drew)); exact HO160.out))) (below_size (by repeat (first | (with_reducible first | exact HB.out | apply below_alloc | apply pw_below_drewN | apply below_drew1) | exact HB.out)))); have n3_ := Aside0.mk (below_step (by repeat (first | (with_reducible first | exact HB.out | apply below_alloc | apply pw_below_drewN | apply below_drew1) | exact HB.out)) hb); clear HO155; clear HO160; clear HB; have HO155 := n0_; have HO160 := n1_; have HO163 := n2_; have HB := n3_; clear n0_ n1_ n2_ n3_; clear hb ho26; obtain ⟨Ao27, co27, eo27⟩ := Kd.R_slice HO160.out; subst eo27; obtain ⟨Ao28, co28, eo28⟩ := Kd.R_slice HO163.out; subst eo28) | (go_at_call 15; (with_reducible refine (catafalqueref01_Ints.calls k _ _ t158 _ _ y161 false _ ?side1 ?side2 ?side3 ?side4 A7.out).mono ?_); (case side1 => repeat (first | exact (Kd.R_reads' HO160.out).2.2 | (with_reducible refine Kd.C_alloc ?_ _) | (with_reducible refine Kd.C_drewN ?_ _) | (with_reducible refine Kd.C_drew ?_))); (case side2 => exact (Kd.R_reads' HO160.out).2.1); (case side3 => repeat (first | exact (Kd.R_reads' HO163.out).2.2 | (with_reducible refine Kd.C_alloc ?_ _) | (with_reducible refine Kd.C_drewN ?_ _) | (with_reducible refine Kd.C_drew ?_))); (case side4 => exact (Kd.R_reads' HO163.out).2.1); rintro e w' ⟨rfl, ⟨nd, rfl⟩⟩))
        go_ret
        exact ⟨by first | rfl | (simp [errW_none, errW_some] <;> rfl) | (simp [*, errW_none, errW_some] <;> rfl), by repeat (first | (with_reducible first | exact HB.out | apply below_alloc | apply pw_below_drewN | apply below_drew1) | exact HB.out)⟩
    · rw [if_neg c5] at H
      have c5b0 : (t157 == 3) = false := beq_eq_false_iff_ne.mpr c5
      have c5b1 : (t157 != 3) = true := bne_iff_ne.mpr c5
      obtain rfl := Option.some.inj H
      go_enter Try.func10, Try.ntmps10
      go_wp2_with (first | ((with_reducible refine gate_callee (f := 23) rfl ?_); refine goesL_ (some 2) rfl rfl Try.func23 (by kernel_rfl) rfl #[] rfl (by (try simp only [List.map_toArray, List.map_cons, List.map_nil]); first | done | rfl | (simp only [List.length_drop, List.length_take]; rfl)) ?_; (with_reducible refine (catafalquelaw02_two.calls  t153 _ A1.out).mono ?_); rintro e w29 ⟨v154, rfl, ho0, hb⟩; refine ⟨_, rfl, ?_⟩; have n0_ := Aside0.mk (Kd.R_lower ho0 (below_size (by repeat (first | (with_reducible first | exact HB.out | apply below_alloc | apply pw_below_drewN | apply below_drew1) | exact HB.out)))); have n1_ := Aside0.mk (below_step (by repeat (first | (with_reducible first | exact HB.out | apply below_alloc | apply pw_below_drewN | apply below_drew1) | exact HB.out)) hb); clear HB; have HO155 := n0_; have HB := n1_; clear n0_ n1_; (try clear hb); (try clear hb2); (try clear hk); (try clear hi); (try clear ho0); obtain ⟨Ao30, co30, eo30⟩ := Kd.R_slice HO155.out; subst eo30) | ((with_reducible refine gate_callee (f := 11) rfl ?_); refine goesL_ (some 4) rfl rfl Try.func11 (by kernel_rfl) rfl #[.slice Ao30 t153.length co30, .int .i64 0, .int .i64 1] rfl (by (try simp only [List.map_toArray, List.map_cons, List.map_nil]); first | done | rfl | (simp only [List.length_drop, List.length_take]; rfl)) ?_; (with_reducible refine (dist_Far.calls k _ _ t153 0 1 t156 _ ?side1 ?side2 A2.out).mono ?_); (case side1 => repeat (first | exact (Kd.R_reads' HO155.out).2.2 | (with_reducible refine Kd.C_alloc ?_ _) | (with_reducible refine Kd.C_drewN ?_ _) | (with_reducible refine Kd.C_drew ?_))); (case side2 => exact (Kd.R_reads' HO155.out).2.1); rintro e w31 ⟨rfl, hb⟩; refine ⟨_, rfl, ?_⟩; have n0_ := Aside0.mk (Kd.R_below (by (with_reducible repeat (first | apply Kd.R_alloc | apply Kd.R_drewN | apply Kd.R_drew)); exact HO155.out) hb); have n1_ := Aside0.mk (below_step (by repeat (first | (with_reducible first | exact HB.out | apply below_alloc | apply pw_below_drewN | apply below_drew1) | exact HB.out)) hb); clear HO155; clear HB; have HO155 := n0_; have HB := n1_; clear n0_ n1_; (try clear hb); (try clear hb2); (try clear hk); (try clear hi)) | (go_at_call 11; (with_reducible refine (dist_Far.calls k _ _ t153 0 2 t157 _ ?side1 ?side2 A4.out).mono ?_); (case side1 => repeat (first | exact (Kd.R_reads' HO155.out).2.2 | (with_reducible refine Kd.C_alloc ?_ _) | (with_reducible refine Kd.C_drewN ?_ _) | (with_reducible refine Kd.C_drew ?_))); (case side2 => exact (Kd.R_reads' HO155.out).2.1); rintro e w32 ⟨rfl, hb⟩; have n0_ := Aside0.mk (Kd.R_below (by (with_reducible repeat (first | apply Kd.R_alloc | apply Kd.R_drewN | apply Kd.R_drew)); exact HO155.out) hb); have n1_ := Aside0.mk (below_step (by repeat (first | (with_reducible first | exact HB.out | apply below_alloc | apply pw_below_drewN | apply below_drew1) | exact HB.out)) hb); clear HO155; clear HB; have HO155 := n0_; have HB := n1_; clear n0_ n1_; (try clear hb); (try clear hb2); (try clear hk); (try clear hi)))
      go_ret
      exact ⟨by first | rfl | (simp [errW_none, errW_some] <;> rfl) | (simp [*, errW_none, errW_some] <;> rfl), by repeat (first | (with_reducible first | exact HB.out | apply below_alloc | apply pw_below_drewN | apply below_drew1) | exact HB.out)⟩
  · rw [if_neg c3] at H
    have c3b0 : (t156 == 1) = false := beq_eq_false_iff_ne.mpr c3
    have c3b1 : (t156 != 1) = true := bne_iff_ne.mpr c3
    obtain rfl := Option.some.inj H
    go_enter Try.func10, Try.ntmps10
    go_wp2_with (first | ((with_reducible refine gate_callee (f := 23) rfl ?_); refine goesL_ (some 2) rfl rfl Try.func23 (by kernel_rfl) rfl #[] rfl (by (try simp only [List.map_toArray, List.map_cons, List.map_nil]); first | done | rfl | (simp only [List.length_drop, List.length_take]; rfl)) ?_; (with_reducible refine (catafalquelaw02_two.calls  t153 _ A1.out).mono ?_); rintro e w33 ⟨v154, rfl, ho0, hb⟩; refine ⟨_, rfl, ?_⟩; have n0_ := Aside0.mk (Kd.R_lower ho0 (below_size (by repeat (first | (with_reducible first | exact HB.out | apply below_alloc | apply pw_below_drewN | apply below_drew1) | exact HB.out)))); have n1_ := Aside0.mk (below_step (by repeat (first | (with_reducible first | exact HB.out | apply below_alloc | apply pw_below_drewN | apply below_drew1) | exact HB.out)) hb); clear HB; have HO155 := n0_; have HB := n1_; clear n0_ n1_; (try clear hb); (try clear hb2); (try clear hk); (try clear hi); (try clear ho0); obtain ⟨Ao34, co34, eo34⟩ := Kd.R_slice HO155.out; subst eo34) | ((with_reducible refine gate_callee (f := 11) rfl ?_); refine goesL_ (some 4) rfl rfl Try.func11 (by kernel_rfl) rfl #[.slice Ao34 t153.length co34, .int .i64 0, .int .i64 1] rfl (by (try simp only [List.map_toArray, List.map_cons, List.map_nil]); first | done | rfl | (simp only [List.length_drop, List.length_take]; rfl)) ?_; (with_reducible refine (dist_Far.calls k _ _ t153 0 1 t156 _ ?side1 ?side2 A2.out).mono ?_); (case side1 => repeat (first | exact (Kd.R_reads' HO155.out).2.2 | (with_reducible refine Kd.C_alloc ?_ _) | (with_reducible refine Kd.C_drewN ?_ _) | (with_reducible refine Kd.C_drew ?_))); (case side2 => exact (Kd.R_reads' HO155.out).2.1); rintro e w35 ⟨rfl, hb⟩; refine ⟨_, rfl, ?_⟩; have n0_ := Aside0.mk (Kd.R_below (by (with_reducible repeat (first | apply Kd.R_alloc | apply Kd.R_drewN | apply Kd.R_drew)); exact HO155.out) hb); have n1_ := Aside0.mk (below_step (by repeat (first | (with_reducible first | exact HB.out | apply below_alloc | apply pw_below_drewN | apply below_drew1) | exact HB.out)) hb); clear HO155; clear HB; have HO155 := n0_; have HB := n1_; clear n0_ n1_; (try clear hb); (try clear hb2); (try clear hk); (try clear hi)))
    go_ret
    exact ⟨by first | rfl | (simp [errW_none, errW_some] <;> rfl) | (simp [*, errW_none, errW_some] <;> rfl), by repeat (first | (with_reducible first | exact HB.out | apply below_alloc | apply pw_below_drewN | apply below_drew1) | exact HB.out)⟩

/-! ### catafalqueref01_Of: function 20 -/
def catafalqueref01_Of.l0 : Nat → List (S40) → Int → List Int → Int → Option (List Int)
  | 0, _, _, _, _ => none
  | k + 1, x0, x1, x5, x6 => if x6 < (x0.length : Int) then (if 0 ≤ x6 then (if ((rd_T40 x0 x6).f1) = x1 then (if x5.length < 17592186044416 then (catafalqueref01_Of.l0 k x0 x1 (x5 ++ [x6]) (wrap64 (x6 + 1))) else (none)) else (catafalqueref01_Of.l0 k x0 x1 x5 (wrap64 (x6 + 1)))) else (none)) else (some x5)
def catafalqueref01_Of.f (k : Nat) (l0 : List (S40)) (a1 : Int) : Option (List Int) := catafalqueref01_Of.l0 k l0 a1 ([] : List Int) 0
theorem catafalqueref01_Of.mono_l : ∀ k, (∀ y0 y1 y2 y3, LeO (catafalqueref01_Of.l0 k y0 y1 y2 y3) (catafalqueref01_Of.l0 (k + 1) y0 y1 y2 y3))
  | 0 => fun _ _ _ _ r h => by simp [catafalqueref01_Of.l0] at h
  | k + 1 => by
    have ih0 := catafalqueref01_Of.mono_l k
    · intro y0 y1 y2 y3
      unfold catafalqueref01_Of.l0
      repeat' first
      | (with_reducible exact ih0 _ _ _ _)
      | (with_reducible exact LeO.refl _)
      | (with_reducible exact LeO.none _)
      | (with_reducible refine LeO.ite ?_ ?_)
      | (with_reducible refine LeO.bind ?_ (fun _ => ?_))
      | exact ih0 _ _ _ _
      | exact LeO.none _
      | refine LeO.ite ?_ ?_
      | refine LeO.bind ?_ (fun _ => ?_)
theorem catafalqueref01_Of.mono : ∀ a0 a1 k, LeO (catafalqueref01_Of.f k a0 a1) (catafalqueref01_Of.f (k + 1) a0 a1) := by
  intro a0 a1 k
  have ih0 := catafalqueref01_Of.mono_l k
  unfold catafalqueref01_Of.f
  repeat' first
      | (with_reducible exact ih0 _ _ _ _)
      | (with_reducible exact LeO.refl _)
      | (with_reducible exact LeO.none _)
      | (with_reducible refine LeO.ite ?_ ?_)
      | (with_reducible refine LeO.bind ?_ (fun _ => ?_))
      | exact ih0 _ _ _ _
      | exact LeO.none _
      | refine LeO.ite ?_ ?_
      | refine LeO.bind ?_ (fun _ => ?_)
set_option maxHeartbeats 8000000 in
set_option maxRecDepth 100000 in
theorem catafalqueref01_Of.calls (k : Nat) (A0 : Option Addr) (c0 : Nat) (l0 : List (S40)) (a1 : Int) (r : List Int) (w : World) (hr0 : Kd.C k40 w A0 l0.length l0) (hc0 : l0.length ≤ c0) (h : catafalqueref01_Of.f k l0 a1 = some r) :
    Calls Try.prog 20 #[.slice A0 l0.length c0, .int .i64 a1] w fun e w' => ∃ v0_ : Value, e = .returned (v0_) ∧ Kd.R (Kd.int .i64) 3 w' w.heap.size (fun _ => True) v0_ r ∧ Below w.heap.size w w' := by
  have HR0 := Aside0.mk hr0
  have HC0 := Aside0.mk hc0
  clear hr0 hc0
  have HB := Aside0.mk (Below.refl w.heap.size w)
  have H : (catafalqueref01_Of.l0 k l0 a1 ([] : List Int) 0) = some r := h
  clear h
  have H' := Aside0.mk H
  clear H
  go_enter Try.func20, Try.ntmps20
  go_wp2
  go_loopg [5, 6] k (fun kq v5 v6 w' => ∃ (x5_1 : List Int) (x6_1 : Int), v6 = .int .i64 x6_1 ∧ Aside0 (catafalqueref01_Of.l0 kq l0 a1 x5_1 x6_1 = some r) ∧ Aside0 (kq ≤ k) ∧ Aside0 (Kd.R (Kd.int .i64) 3 w' w.heap.size (fun _ => True) v5 x5_1) ∧ Aside0 (Below w.heap.size w w'))
  case atStart => exact ⟨(([] : List Int)), (0), (by first | rfl | (simp; done) | (simp [*]; done)), H', ⟨Nat.le_refl _⟩, ⟨by first | exact Kd.R_nil _ _ _ _ _ | exact Kd.N_nil _ _ _ _ _ | exact Kd.V_nil _ _ _ _ _ | exact Kd.Q_nil _ _ _ _ _ | exact Kd.S_nil _ _ _ _ _⟩, ⟨by repeat (first | (with_reducible first | exact HB.out | apply below_alloc | apply pw_below_drewN | apply below_drew1) | exact HB.out)⟩⟩
  case round =>
    clear H'
    try clear c2
    try clear p2
    obtain ⟨x5_1, x6_1, rfl, HA, HK1, HO_5, HB⟩ := hrel
    cases gk with
    | zero => exact absurd HA.out (by simp [catafalqueref01_Of.l0])
    | succ k1 =>
      have H := HA.out
      clear HA
      simp only [catafalqueref01_Of.l0] at H
      by_cases c3 : x6_1 < (l0.length : Int)
      · rw [if_pos c3] at H
        have c3b0 : decide (x6_1 < (l0.length : Int)) = true := decide_eq_true c3
        clear c3
        by_cases c4 : 0 ≤ x6_1
        · rw [if_pos c4] at H
          have c4b0 : decide (0 ≤ x6_1) = true := decide_eq_true c4
          clear c4
          by_cases c5 : ((rd_T40 l0 x6_1).f1) = a1
          · rw [if_pos c5] at H
            have c5b0 : (((rd_T40 l0 x6_1).f1) == a1) = true := beq_iff_eq.mpr c5
            have c5b1 : (((rd_T40 l0 x6_1).f1) != a1) = false := bne_eq_false_iff_eq.mpr c5
            clear c5
            by_cases c6 : x5_1.length < 17592186044416
            · rw [if_pos c6] at H
              have LMc6 := Aside0.mk c6
              clear c6
              obtain ⟨y167, hy167⟩ : ∃ y_ : List Int, y_ = (x5_1 ++ [x6_1]) := ⟨_, rfl⟩
              replace H : (catafalqueref01_Of.l0 k1 l0 a1 y167 (wrap64 (x6_1 + 1))) = some r := by first | (rw [hy167]; with_reducible exact H) | (have H2_ := (Option.bind_some _ _).symm.trans H; rw [hy167]; with_reducible exact H2_) | (have H2_ := (Option.bind_some _ _).symm.trans H; with_reducible exact H2_) | with_reducible exact H | (rw [hy167]; exact H) | exact H
              have Ny167 := Aside0.mk hy167
              clear hy167
              have H' := Aside0.mk H
              clear H
              have p166 : 0 ≤ (x6_1 : Int) := of_decide_eq_true (by first | (with_reducible assumption) | assumption)
              have q166 : x6_1 < (l0.length : Int) := of_decide_eq_true (by first | (with_reducible assumption) | assumption)
              obtain ⟨ad166, e166, hx166_0, hx166_1⟩ := at_T40 HR0.out x6_1 p166 q166
              cases e166
              replace hx166_0 := (HB.out.cell (World.block_lt_of_cell? w _ hx166_0)).trans hx166_0
              replace hx166_1 := (HB.out.cell (World.block_lt_of_cell? w _ hx166_1)).trans hx166_1
              replace p166 := eq_true p166
              replace q166 := eq_true q166
              go_wp2_with (first | ((with_reducible refine gate_builtin (b := .append) (xs := #[.tmp 20, .tmp 22]) rfl ?_); at_builtin; refine Kd.R_append (Kd.int .i64) (w0 := w) w.heap.size rfl (.tmp 20) (.tmp 22) 27 3 (.int .i64 0) 8 rfl Try.underlying27 info3 rfl (by decide) (by omega) u5 x5_1 x6_1 [.int .i64 x6_1] (fun _ => True) (fun _ => False) rfl rfl ?aP (fun _ hk => hk.elim) ?aF ?aO ?aB ?aS ?aL ?_; (case aP => exact rfl); (case aB => exact (by repeat (first | (with_reducible first | exact HB.out | apply below_alloc | apply pw_below_drewN | apply below_drew1) | exact HB.out))); (case aF => exact (fun _ _ => trivial)); (case aO => exact (by (with_reducible repeat (first | apply Kd.R_alloc | apply Kd.R_drewN | apply Kd.R_drew)); exact HO_5.out)); (case aS => exact (below_size (by repeat (first | (with_reducible first | exact HB.out | apply below_alloc | apply pw_below_drewN | apply below_drew1) | exact HB.out)))); (case aL => have := LMc6.out; omega); intro v168 w7 ho hb hg hat; rw [← Ny167.out] at ho; have n0_ := Aside0.mk (hb); have n1_ := Aside0.mk (ho); clear HB; clear HO_5; have HB := n0_; have HO169 := n1_; clear n0_ n1_; clear ho hb hg hat))
              go_roundg k1
              case measure => have := HK1.out; omega
              case rel => exact ⟨(y167), (wrap64 (x6_1 + 1)), (by first | rfl | (simp; done) | (simp [*]; done)), H', ⟨by have := HK1.out; omega⟩, ⟨by (with_reducible repeat (first | apply Kd.R_alloc | apply Kd.R_drewN | apply Kd.R_drew)); exact HO169.out⟩, ⟨by repeat (first | (with_reducible first | exact HB.out | apply below_alloc | apply pw_below_drewN | apply below_drew1) | exact HB.out)⟩⟩
            · rw [if_neg c6] at H
              exact absurd H (by simp)
          · rw [if_neg c5] at H
            have c5b0 : (((rd_T40 l0 x6_1).f1) == a1) = false := beq_eq_false_iff_ne.mpr c5
            have c5b1 : (((rd_T40 l0 x6_1).f1) != a1) = true := bne_iff_ne.mpr c5
            have H' := Aside0.mk H
            clear H
            have p166 : 0 ≤ (x6_1 : Int) := of_decide_eq_true (by first | (with_reducible assumption) | assumption)
            have q166 : x6_1 < (l0.length : Int) := of_decide_eq_true (by first | (with_reducible assumption) | assumption)
            obtain ⟨ad166, e166, hx166_0, hx166_1⟩ := at_T40 HR0.out x6_1 p166 q166
            cases e166
            replace hx166_0 := (HB.out.cell (World.block_lt_of_cell? w _ hx166_0)).trans hx166_0
            replace hx166_1 := (HB.out.cell (World.block_lt_of_cell? w _ hx166_1)).trans hx166_1
            replace p166 := eq_true p166
            replace q166 := eq_true q166
            go_wp2
            go_roundg k1
            case measure => have := HK1.out; omega
            case rel => exact ⟨(x5_1), (wrap64 (x6_1 + 1)), (by first | rfl | (simp; done) | (simp [*]; done)), H', ⟨by have := HK1.out; omega⟩, ⟨by (with_reducible repeat (first | apply Kd.R_alloc | apply Kd.R_drewN | apply Kd.R_drew)); exact HO_5.out⟩, ⟨by repeat (first | (with_reducible first | exact HB.out | apply below_alloc | apply pw_below_drewN | apply below_drew1) | exact HB.out)⟩⟩
        · rw [if_neg c4] at H
          exact absurd H (by simp)
      · rw [if_neg c3] at H
        have c3b0 : decide (x6_1 < (l0.length : Int)) = false := decide_eq_false c3
        clear c3
        obtain rfl := Option.some.inj H
        go_wp2
        go_ret
        exact ⟨_, by first | rfl | (simp [errW_none, errW_some] <;> rfl) | (simp [*, errW_none, errW_some] <;> rfl), by (with_reducible repeat (first | apply Kd.R_alloc | apply Kd.R_drewN | apply Kd.R_drew)); exact HO_5.out, by repeat (first | (with_reducible first | exact HB.out | apply below_alloc | apply pw_below_drewN | apply below_drew1) | exact HB.out)⟩

/-! ### catafalqueref01_Kids: function 39 -/
def catafalqueref01_Kids.l0 : Nat → List (S40) → Int → List Int → Int → Option (List Int)
  | 0, _, _, _, _ => none
  | k + 1, x0, x1, x5, x6 => if x6 < (x0.length : Int) then (if 0 ≤ x6 then (if ((rd_T40 x0 x6).f0) = x1 then (if x5.length < 17592186044416 then (catafalqueref01_Kids.l0 k x0 x1 (x5 ++ [x6]) (wrap64 (x6 + 1))) else (none)) else (catafalqueref01_Kids.l0 k x0 x1 x5 (wrap64 (x6 + 1)))) else (none)) else (some x5)
def catafalqueref01_Kids.f (k : Nat) (l0 : List (S40)) (a1 : Int) : Option (List Int) := catafalqueref01_Kids.l0 k l0 a1 ([] : List Int) 0
theorem catafalqueref01_Kids.mono_l : ∀ k, (∀ y0 y1 y2 y3, LeO (catafalqueref01_Kids.l0 k y0 y1 y2 y3) (catafalqueref01_Kids.l0 (k + 1) y0 y1 y2 y3))
  | 0 => fun _ _ _ _ r h => by simp [catafalqueref01_Kids.l0] at h
  | k + 1 => by
    have ih0 := catafalqueref01_Kids.mono_l k
    · intro y0 y1 y2 y3
      unfold catafalqueref01_Kids.l0
      repeat' first
      | (with_reducible exact ih0 _ _ _ _)
      | (with_reducible exact LeO.refl _)
      | (with_reducible exact LeO.none _)
      | (with_reducible refine LeO.ite ?_ ?_)
      | (with_reducible refine LeO.bind ?_ (fun _ => ?_))
      | exact ih0 _ _ _ _
      | exact LeO.none _
      | refine LeO.ite ?_ ?_
      | refine LeO.bind ?_ (fun _ => ?_)
theorem catafalqueref01_Kids.mono : ∀ a0 a1 k, LeO (catafalqueref01_Kids.f k a0 a1) (catafalqueref01_Kids.f (k + 1) a0 a1) := by
  intro a0 a1 k
  have ih0 := catafalqueref01_Kids.mono_l k
  unfold catafalqueref01_Kids.f
  repeat' first
      | (with_reducible exact ih0 _ _ _ _)
      | (with_reducible exact LeO.refl _)
      | (with_reducible exact LeO.none _)
      | (with_reducible refine LeO.ite ?_ ?_)
      | (with_reducible refine LeO.bind ?_ (fun _ => ?_))
      | exact ih0 _ _ _ _
      | exact LeO.none _
      | refine LeO.ite ?_ ?_
      | refine LeO.bind ?_ (fun _ => ?_)
set_option maxHeartbeats 8000000 in
set_option maxRecDepth 100000 in
theorem catafalqueref01_Kids.calls (k : Nat) (A0 : Option Addr) (c0 : Nat) (l0 : List (S40)) (a1 : Int) (r : List Int) (w : World) (hr0 : Kd.C k40 w A0 l0.length l0) (hc0 : l0.length ≤ c0) (h : catafalqueref01_Kids.f k l0 a1 = some r) :
    Calls Try.prog 39 #[.slice A0 l0.length c0, .int .i64 a1] w fun e w' => ∃ v0_ : Value, e = .returned (v0_) ∧ Kd.R (Kd.int .i64) 3 w' w.heap.size (fun _ => True) v0_ r ∧ Below w.heap.size w w' := by
  have HR0 := Aside0.mk hr0
  have HC0 := Aside0.mk hc0
  clear hr0 hc0
  have HB := Aside0.mk (Below.refl w.heap.size w)
  have H : (catafalqueref01_Kids.l0 k l0 a1 ([] : List Int) 0) = some r := h
  clear h
  have H' := Aside0.mk H
  clear H
  go_enter Try.func39, Try.ntmps39
  go_wp2
  go_loopg [5, 6] k (fun kq v5 v6 w' => ∃ (x5_1 : List Int) (x6_1 : Int), v6 = .int .i64 x6_1 ∧ Aside0 (catafalqueref01_Kids.l0 kq l0 a1 x5_1 x6_1 = some r) ∧ Aside0 (kq ≤ k) ∧ Aside0 (Kd.R (Kd.int .i64) 3 w' w.heap.size (fun _ => True) v5 x5_1) ∧ Aside0 (Below w.heap.size w w'))
  case atStart => exact ⟨(([] : List Int)), (0), (by first | rfl | (simp; done) | (simp [*]; done)), H', ⟨Nat.le_refl _⟩, ⟨by first | exact Kd.R_nil _ _ _ _ _ | exact Kd.N_nil _ _ _ _ _ | exact Kd.V_nil _ _ _ _ _ | exact Kd.Q_nil _ _ _ _ _ | exact Kd.S_nil _ _ _ _ _⟩, ⟨by repeat (first | (with_reducible first | exact HB.out | apply below_alloc | apply pw_below_drewN | apply below_drew1) | exact HB.out)⟩⟩
  case round =>
    clear H'
    try clear p2
    obtain ⟨x5_1, x6_1, rfl, HA, HK1, HO_5, HB⟩ := hrel
    cases gk with
    | zero => exact absurd HA.out (by simp [catafalqueref01_Kids.l0])
    | succ k1 =>
      have H := HA.out
      clear HA
      simp only [catafalqueref01_Kids.l0] at H
      by_cases c3 : x6_1 < (l0.length : Int)
      · rw [if_pos c3] at H
        have c3b0 : decide (x6_1 < (l0.length : Int)) = true := decide_eq_true c3
        clear c3
        by_cases c4 : 0 ≤ x6_1
        · rw [if_pos c4] at H
          have c4b0 : decide (0 ≤ x6_1) = true := decide_eq_true c4
          clear c4
          by_cases c5 : ((rd_T40 l0 x6_1).f0) = a1
          · rw [if_pos c5] at H
            have c5b0 : (((rd_T40 l0 x6_1).f0) == a1) = true := beq_iff_eq.mpr c5
            have c5b1 : (((rd_T40 l0 x6_1).f0) != a1) = false := bne_eq_false_iff_eq.mpr c5
            clear c5
            by_cases c6 : x5_1.length < 17592186044416
            · rw [if_pos c6] at H
              have LMc6 := Aside0.mk c6
              clear c6
              obtain ⟨y171, hy171⟩ : ∃ y_ : List Int, y_ = (x5_1 ++ [x6_1]) := ⟨_, rfl⟩
              replace H : (catafalqueref01_Kids.l0 k1 l0 a1 y171 (wrap64 (x6_1 + 1))) = some r := by first | (rw [hy171]; with_reducible exact H) | (have H2_ := (Option.bind_some _ _).symm.trans H; rw [hy171]; with_reducible exact H2_) | (have H2_ := (Option.bind_some _ _).symm.trans H; with_reducible exact H2_) | with_reducible exact H | (rw [hy171]; exact H) | exact H
              have Ny171 := Aside0.mk hy171
              clear hy171
              have H' := Aside0.mk H
              clear H
              have p170 : 0 ≤ (x6_1 : Int) := of_decide_eq_true (by first | (with_reducible assumption) | assumption)
              have q170 : x6_1 < (l0.length : Int) := of_decide_eq_true (by first | (with_reducible assumption) | assumption)
              obtain ⟨ad170, e170, hx170_0, hx170_1⟩ := at_T40 HR0.out x6_1 p170 q170
              cases e170
              replace hx170_0 := (HB.out.cell (World.block_lt_of_cell? w _ hx170_0)).trans hx170_0
              replace hx170_1 := (HB.out.cell (World.block_lt_of_cell? w _ hx170_1)).trans hx170_1
              replace p170 := eq_true p170
              replace q170 := eq_true q170
              go_wp2_with (first | ((with_reducible refine gate_builtin (b := .append) (xs := #[.tmp 20, .tmp 22]) rfl ?_); at_builtin; refine Kd.R_append (Kd.int .i64) (w0 := w) w.heap.size rfl (.tmp 20) (.tmp 22) 27 3 (.int .i64 0) 8 rfl Try.underlying27 info3 rfl (by decide) (by omega) u5 x5_1 x6_1 [.int .i64 x6_1] (fun _ => True) (fun _ => False) rfl rfl ?aP (fun _ hk => hk.elim) ?aF ?aO ?aB ?aS ?aL ?_; (case aP => exact rfl); (case aB => exact (by repeat (first | (with_reducible first | exact HB.out | apply below_alloc | apply pw_below_drewN | apply below_drew1) | exact HB.out))); (case aF => exact (fun _ _ => trivial)); (case aO => exact (by (with_reducible repeat (first | apply Kd.R_alloc | apply Kd.R_drewN | apply Kd.R_drew)); exact HO_5.out)); (case aS => exact (below_size (by repeat (first | (with_reducible first | exact HB.out | apply below_alloc | apply pw_below_drewN | apply below_drew1) | exact HB.out)))); (case aL => have := LMc6.out; omega); intro v172 w7 ho hb hg hat; rw [← Ny171.out] at ho; have n0_ := Aside0.mk (hb); have n1_ := Aside0.mk (ho); clear HB; clear HO_5; have HB := n0_; have HO173 := n1_; clear n0_ n1_; clear ho hb hg hat))
              go_roundg k1
              case measure => have := HK1.out; omega
              case rel => exact ⟨(y171), (wrap64 (x6_1 + 1)), (by first | rfl | (simp; done) | (simp [*]; done)), H', ⟨by have := HK1.out; omega⟩, ⟨by (with_reducible repeat (first | apply Kd.R_alloc | apply Kd.R_drewN | apply Kd.R_drew)); exact HO173.out⟩, ⟨by repeat (first | (with_reducible first | exact HB.out | apply below_alloc | apply pw_below_drewN | apply below_drew1) | exact HB.out)⟩⟩
            · rw [if_neg c6] at H
              exact absurd H (by simp)
          · rw [if_neg c5] at H
            have c5b0 : (((rd_T40 l0 x6_1).f0) == a1) = false := beq_eq_false_iff_ne.mpr c5
            have c5b1 : (((rd_T40 l0 x6_1).f0) != a1) = true := bne_iff_ne.mpr c5
            have H' := Aside0.mk H
            clear H
            have p170 : 0 ≤ (x6_1 : Int) := of_decide_eq_true (by first | (with_reducible assumption) | assumption)
            have q170 : x6_1 < (l0.length : Int) := of_decide_eq_true (by first | (with_reducible assumption) | assumption)
            obtain ⟨ad170, e170, hx170_0, hx170_1⟩ := at_T40 HR0.out x6_1 p170 q170
            cases e170
            replace hx170_0 := (HB.out.cell (World.block_lt_of_cell? w _ hx170_0)).trans hx170_0
            replace hx170_1 := (HB.out.cell (World.block_lt_of_cell? w _ hx170_1)).trans hx170_1
            replace p170 := eq_true p170
            replace q170 := eq_true q170
            go_wp2
            go_roundg k1
            case measure => have := HK1.out; omega
            case rel => exact ⟨(x5_1), (wrap64 (x6_1 + 1)), (by first | rfl | (simp; done) | (simp [*]; done)), H', ⟨by have := HK1.out; omega⟩, ⟨by (with_reducible repeat (first | apply Kd.R_alloc | apply Kd.R_drewN | apply Kd.R_drew)); exact HO_5.out⟩, ⟨by repeat (first | (with_reducible first | exact HB.out | apply below_alloc | apply pw_below_drewN | apply below_drew1) | exact HB.out)⟩⟩
        · rw [if_neg c4] at H
          exact absurd H (by simp)
      · rw [if_neg c3] at H
        have c3b0 : decide (x6_1 < (l0.length : Int)) = false := decide_eq_false c3
        clear c3
        obtain rfl := Option.some.inj H
        go_wp2
        go_ret
        exact ⟨_, by first | rfl | (simp [errW_none, errW_some] <;> rfl) | (simp [*, errW_none, errW_some] <;> rfl), by (with_reducible repeat (first | apply Kd.R_alloc | apply Kd.R_drewN | apply Kd.R_drew)); exact HO_5.out, by repeat (first | (with_reducible first | exact HB.out | apply below_alloc | apply pw_below_drewN | apply below_drew1) | exact HB.out)⟩

end Go.Proofs.Ytjfaafnngloblaa.PDistUp
