/- What a walk on values is simplified by. No condition. -/
import Derived.Test.YtjfaafnngloblaaEvK
namespace Go.Proofs.Ytjfaafnngloblaa.Ev
open Go
set_option linter.unusedVariables false
set_option linter.unusedSimpArgs false
set_option maxRecDepth 100000
abbrev X0 : Prims := fun _ => none
abbrev I (n : Int) : AV := .v (.int .i64 n)
abbrev B (b : Bool) : AV := .v (.bool b)
attribute [go_sem] W_nil W_skip W_label W_b W_ret W_exit W_seq W_block W_scope WX_c WX_b WX_ret W_region W_test Wif_t Wif_f WO_nil WO_cons stepQ
attribute [go_sem] decide_true decide_false Bool.and_true Bool.true_and Bool.and_false Bool.false_and Bool.or_true Bool.true_or Bool.or_false Bool.false_or Bool.not_true Bool.not_false Bool.and_self and_true true_and and_self List.all_cons List.all_nil List.foldl_cons List.foldl_nil List.drop_succ_cons List.drop_zero List.take_succ_cons List.take_zero List.take_nil List.getElem?_map Int.toNat_natCast List.length_map beq_self_eq_true Int.natCast_nonneg or_true true_or List.getElem?_cons_zero List.getElem?_cons_succ AV.cells s0 s1 s2 s3 d0 d1 d2 d3
attribute [go_sem] ite_true if_true if_false Option.map_some Option.map_none List.replicate_succ List.replicate_zero List.cons_append List.nil_append List.length_cons List.length_nil List.set_cons_zero List.set_cons_succ List.getD_cons_zero List.getD_cons_succ List.map_nil List.map_cons
attribute [go_sem] unA mmA bndA eqA List.getElem?_toArray ge_iff_le gt_iff_lt wantA isCall core isApp coreQ put opd toAV toAV0 binA intA elA idxV fdA rdc ofC one ResV resL resA nt rt reduceCtorEq false_or
theorem wrap64_of {n : Int} (h : -9223372036854775808 ≤ n ∧ n ≤ 9223372036854775807) : IntKind.i64.wrap n = n := by
  simp [IntKind.wrap, IntKind.bits, IntKind.signed]; omega
theorem wrap_nat (i : Nat) (h : i < 9223372036854775807) : IntKind.i64.wrap ((i : Int) + 1) = ((i + 1 : Nat) : Int) := wrap64_of (by omega)
theorem uniI (l : List Int) : uni 1 (l.map I) = true := by simp [uni, AV.cells]
theorem allI (l : List Int) : (l.map I).all d2 = true := by simp [d2, d1, d0]
end Go.Proofs.Ytjfaafnngloblaa.Ev
