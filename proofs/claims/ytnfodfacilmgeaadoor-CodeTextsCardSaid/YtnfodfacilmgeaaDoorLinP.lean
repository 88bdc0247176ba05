/- A program's text has a line for each instruction: in plain words. No condition. -/
import Derived.Test.YtnfodfacilmgeaaDoorCod2
import Derived.Lib.ItoaLen
namespace Go.Proofs.YtnfodfacilmgeaaDoor.Code
open Go Go.RowKit Go.Proofs
def nls (l : List UInt8) : Nat := l.countP (· == 10)
theorem dec_figs (n : Nat) : ∀ x ∈ Lib.decDigits n, x ≠ 10 := by
  induction n using Nat.strongRecOn with
  | ind n ih =>
    have hd : ∀ u : Nat, u < 10 → UInt8.ofNat (48 + u) ≠ 10 := by decide
    intro x hx
    rw [Lib.decDigits] at hx
    by_cases h : n < 10
    · rw [dif_pos h] at hx
      rw [List.mem_singleton] at hx
      rw [hx]; exact hd n h
    · rw [dif_neg h, List.mem_append, List.mem_singleton] at hx
      rcases hx with hx | hx
      · exact ih (n / 10) (by omega) x hx
      · rw [hx]; exact hd (n % 10) (by omega)
theorem itoa_figs (n : Int) : ∀ x ∈ Lib.itoa n, x ≠ 10 := by
  unfold Lib.itoa
  split
  · intro x hx
    rcases List.mem_cons.mp hx with h | h
    · rw [h]; decide
    · exact dec_figs _ x h
  · exact dec_figs _
theorem nmQ_no (op : Int) : ∀ x ∈ nmQ op, x ≠ 10 := by
  have h1 : ∀ k, k < 11 → ∀ x ∈ nmL.getD k [], x ≠ 10 := by decide +kernel
  unfold nmQ
  split
  · intro x hx; rw [List.mem_singleton] at hx; rw [hx]; decide
  · unfold nmB
    split
    · exact h1 _ (by omega)
    · intro x hx; cases hx
theorem oneB_no (op a : Int) : ∀ x ∈ oneB op a, x ≠ 10 := by
  intro x hx
  unfold oneB at hx
  rcases List.mem_append.mp hx with h | h
  · exact nmQ_no op x h
  · split at h
    · cases h
    · rcases List.mem_cons.mp h with h | h
      · rw [h]; decide
      · exact itoa_figs a x h
theorem nls_append (l m : List UInt8) : nls (l ++ m) = nls l + nls m := List.countP_append
theorem nls_zero {l : List UInt8} (h : ∀ x ∈ l, x ≠ 10) : nls l = 0 := by
  unfold nls
  rw [List.countP_eq_zero]
  intro x hx
  simpa using h x hx
theorem nls_text : ∀ l : List (Int × Int), nls (textB l) = l.length
  | [] => rfl
  | x :: l => by
    unfold textB
    rw [List.flatMap_cons, nls_append]
    have := nls_text l
    unfold textB at this
    rw [this]
    unfold lineB
    rw [nls_append, nls_zero (oneB_no x.1 x.2)]
    show 0 + 1 + l.length = l.length + 1
    omega
theorem textB_append (l m : List (Int × Int)) : textB (l ++ m) = textB l ++ textB m := List.flatMap_append
theorem nls_take (l : List UInt8) (k : Nat) (h : k < l.length) : nls (l.take (k + 1)) = nls (l.take k) + (if l[k] = 10 then 1 else 0) := by
  rw [List.take_succ_eq_append_getElem h, nls_append]
  congr 1
  unfold nls
  by_cases h2 : l[k] = 10 <;> simp [h2]
theorem nls_le (l : List UInt8) : nls l ≤ l.length := List.countP_le_length
end Go.Proofs.YtnfodfacilmgeaaDoor.Code
