/- What the laid variables give the walks. No condition. -/
import Derived.Test.YtnfodfacilmgeaaDoorRows
import Derived.Test.YtnfodfacilmgeaaDoorCod2
import Derived.Lib.LaidTab
import Derived.LaidMore
import Derived.LaidHandle
import Derived.Stop.Joined
import Derived.Stop.LaidErr
import Derived.MakeChecks
namespace Go.Proofs.YtnfodfacilmgeaaDoor.Code
open Go Go.RowKit Go.Proofs
abbrev laid3 : List (String × DataW Unit) := [("math/bits.deBruijn32tab", Rows.laid_math_bits_deBruijn32tab), ("math/bits.deBruijn64tab", Rows.laid_math_bits_deBruijn64tab), ("internal/strconv.uint64pow10", Rows.laid_internal_strconv_uint64pow10)]
theorem door_met (os : Os) (args : Array Value) : laidMetH Tryd.prog laid3 ((World.doorLaid Tryd.prog 62 os).forCall (fun _ _ => 0) ⟨#[], args, []⟩).memory :=
  laidMetH_of_parts3 (fuel := 8) (laidMet_of_run' 8 (by kernel_rfl) (by kernel_rfl)) (by kernel_rfl) (by kernel_rfl)
theorem pows_of_met {W : World} {rest : List (String × DataW Unit)} (h : laidMet Tryd.prog (("math/bits.deBruijn32tab", Rows.laid_math_bits_deBruijn32tab) :: ("math/bits.deBruijn64tab", Rows.laid_math_bits_deBruijn64tab) :: ("internal/strconv.uint64pow10", Rows.laid_internal_strconv_uint64pow10) :: rest) W) : Pows W := by
  have h2 := h.tail.tail
  have e : (Rows.laid_internal_strconv_uint64pow10 : DataW Unit) = Lib.tabData .u64 Lib.pow10Tab := rfl
  rw [e] at h2
  exact Lib.tabIs_of_head (g := 3) (n := 20) (by kernel_rfl) (by kernel_rfl) Tryd.underlying99 Tryd.underlying84 (by kernel_rfl) (by kernel_rfl) h2
theorem pows_of {W : World} (h : laidMetH Tryd.prog laid3 W) : Pows W := by
  rw [MakeChecks.laidMetH_plain _ _ _ (by kernel_rfl)] at h
  exact pows_of_met h
end Go.Proofs.YtnfodfacilmgeaaDoor.Code
