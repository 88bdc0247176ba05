/- What is asked of the program's types and functions. No condition. -/
import Derived.Test.YtjfaafnngloblaaEvL
import Derived.Test.YtjfaafnngloblaaProg
namespace Go.Proofs.Ytjfaafnngloblaa.Ev
open Go Go.Proofs
set_option linter.unusedVariables false
set_option linter.unusedSimpArgs false
set_option maxRecDepth 100000
noncomputable abbrev P := Try.prog
theorem hmx : P.follows .mixedOrders = true := by kernel_rfl
theorem ty2 : tsz P 2 = some 1 ∧ tagg P 2 = some false ∧ tby P 2 = some 8 ∧ tzero P 2 = some [I 0] := by and_intros <;> kernel_rfl
theorem ty3 : tsz P 3 = some 1 ∧ tagg P 3 = some false ∧ tby P 3 = some 8 ∧ tzero P 3 = some [I 0] := by and_intros <;> kernel_rfl
theorem ty4 : tsz P 4 = some 1 ∧ tagg P 4 = some false ∧ tby P 4 = some 1 ∧ tzero P 4 = some [.v (.bool false)] := by and_intros <;> kernel_rfl
theorem ty5 : tsz P 5 = some 1 ∧ tagg P 5 = some false ∧ tby P 5 = some 1 ∧ tzero P 5 = some [.v (.int .u8 0)] := by and_intros <;> kernel_rfl
theorem ty9 : tsz P 9 = some 1 ∧ tagg P 9 = some false ∧ tby P 9 = some 16 ∧ tzero P 9 = some [.v (.string ⟨#[]⟩)] := by and_intros <;> kernel_rfl
theorem ty12 : tsz P 12 = some 1 ∧ tagg P 12 = some false ∧ tby P 12 = some 8 ∧ tzero P 12 = some [.v (.int .u64 0)] := by and_intros <;> kernel_rfl
theorem ty13 : tsz P 13 = some 2 ∧ tagg P 13 = some true ∧ tby P 13 = some 24 ∧ tzero P 13 = some [.v (.string ⟨#[]⟩), .v (.int .u64 0)] ∧ fld P 13 0 = some (0, 1, false) ∧ fld P 13 1 = some (1, 1, false) := by and_intros <;> kernel_rfl
theorem bo13 : bok P 13 = true := by kernel_rfl
theorem ty20 : tsz P 20 = some 1 ∧ tagg P 20 = some false ∧ tby P 20 = some 16 ∧ tzero P 20 = some [.v .nilIface] := by and_intros <;> kernel_rfl
theorem ty21 : tsz P 21 = some 1 ∧ tagg P 21 = some false ∧ tby P 21 = some 4 ∧ tzero P 21 = some [.v (.int .i32 0)] := by and_intros <;> kernel_rfl
theorem ty22 : tsz P 22 = some 1 ∧ tagg P 22 = some false ∧ tby P 22 = some 24 ∧ tzero P 22 = some [.sl .nil []] ∧ tel P 22 = some 40 := by and_intros <;> kernel_rfl
theorem ty27 : tsz P 27 = some 1 ∧ tagg P 27 = some false ∧ tby P 27 = some 24 ∧ tzero P 27 = some [.sl .nil []] ∧ tel P 27 = some 3 := by and_intros <;> kernel_rfl
theorem ty34 : tsz P 34 = some 64 ∧ tagg P 34 = some true ∧ tby P 34 = some 512 ∧ tzero P 34 = some (List.replicate 64 (I 0)) ∧ arr P 34 = some (64, 1, false) := by and_intros <;> kernel_rfl
theorem bo34 : bok P 34 = true := by kernel_rfl
theorem ty36 : tsz P 36 = some 1 ∧ tagg P 36 = some false ∧ tby P 36 = some 24 ∧ tzero P 36 = some [.sl .nil []] ∧ tel P 36 = some 27 := by and_intros <;> kernel_rfl
theorem ty39 : tsz P 39 = some 2 ∧ tagg P 39 = some true ∧ tby P 39 = some 16 ∧ tzero P 39 = some [I 0, I 0] ∧ fld P 39 0 = some (0, 1, false) ∧ fld P 39 1 = some (1, 1, false) := by and_intros <;> kernel_rfl
theorem bo39 : bok P 39 = true := by kernel_rfl
theorem ty40 : tsz P 40 = some 2 ∧ tagg P 40 = some true ∧ tby P 40 = some 16 ∧ tzero P 40 = some [I 0, I 0] ∧ fld P 40 0 = some (0, 1, false) ∧ fld P 40 1 = some (1, 1, false) := by and_intros <;> kernel_rfl
theorem bo40 : bok P 40 = true := by kernel_rfl
theorem ty46 : tsz P 46 = some 1 ∧ tagg P 46 = some false ∧ tby P 46 = some 8 ∧ tzero P 46 = some [I 0] := by and_intros <;> kernel_rfl
theorem ty50 : tsz P 50 = some 1 ∧ tagg P 50 = some false ∧ tby P 50 = some 8 ∧ tzero P 50 = some [.v (.int .u64 0)] := by and_intros <;> kernel_rfl
theorem ty53 : tsz P 53 = some 1 ∧ tagg P 53 = some false ∧ tby P 53 = some 8 ∧ tzero P 53 = some [I 0] := by and_intros <;> kernel_rfl
theorem ty61 : tsz P 61 = some 1 ∧ tagg P 61 = some false ∧ tby P 61 = some 4 ∧ tzero P 61 = some [.v (.int .u32 0)] := by and_intros <;> kernel_rfl
theorem ty63 : tsz P 63 = some 1 ∧ tagg P 63 = some false ∧ tby P 63 = some 8 ∧ tzero P 63 = some [.v (.int .u64 0)] := by and_intros <;> kernel_rfl
theorem ty64 : tsz P 64 = some 1 ∧ tagg P 64 = some false ∧ tby P 64 = some 8 ∧ tzero P 64 = some [.v (.int .u64 0)] := by and_intros <;> kernel_rfl
theorem ty68 : tsz P 68 = some 1 ∧ tagg P 68 = some false ∧ tby P 68 = some 8 ∧ tzero P 68 = some [.v (.pointer none)] := by and_intros <;> kernel_rfl
theorem ty70 : tsz P 70 = some 1 ∧ tagg P 70 = some false ∧ tby P 70 = some 8 ∧ tzero P 70 = some [.v (.pointer none)] := by and_intros <;> kernel_rfl
theorem ty83 : tsz P 83 = some 1 ∧ tagg P 83 = some false ∧ tby P 83 = some 8 ∧ tzero P 83 = some [.v (.pointer none)] := by and_intros <;> kernel_rfl
theorem fun3 : fun? P 3 = some Try.f3 := by kernel_rfl
theorem fun4 : fun? P 4 = some Try.f4 := by kernel_rfl
theorem fun5 : fun? P 5 = some Try.f5 := by kernel_rfl
theorem fun6 : fun? P 6 = some Try.f6 := by kernel_rfl
theorem fun7 : fun? P 7 = some Try.f7 := by kernel_rfl
theorem fun8 : fun? P 8 = some Try.f8 := by kernel_rfl
theorem fun9 : fun? P 9 = some Try.f9 := by kernel_rfl
theorem fun10 : fun? P 10 = some Try.f10 := by kernel_rfl
theorem fun11 : fun? P 11 = some Try.f11 := by kernel_rfl
theorem fun12 : fun? P 12 = some Try.f12 := by kernel_rfl
theorem fun13 : fun? P 13 = some Try.f13 := by kernel_rfl
theorem fun14 : fun? P 14 = some Try.f14 := by kernel_rfl
theorem fun15 : fun? P 15 = some Try.f15 := by kernel_rfl
theorem fun16 : fun? P 16 = some Try.f16 := by kernel_rfl
theorem fun17 : fun? P 17 = some Try.f17 := by kernel_rfl
theorem fun18 : fun? P 18 = some Try.f18 := by kernel_rfl
theorem fun19 : fun? P 19 = some Try.f19 := by kernel_rfl
theorem fun20 : fun? P 20 = some Try.f20 := by kernel_rfl
theorem fun21 : fun? P 21 = some Try.f21 := by kernel_rfl
theorem fun22 : fun? P 22 = some Try.f22 := by kernel_rfl
theorem fun23 : fun? P 23 = some Try.f23 := by kernel_rfl
theorem fun24 : fun? P 24 = some Try.f24 := by kernel_rfl
theorem fun25 : fun? P 25 = some Try.f25 := by kernel_rfl
theorem fun26 : fun? P 26 = some Try.f26 := by kernel_rfl
theorem fun27 : fun? P 27 = some Try.f27 := by kernel_rfl
theorem fun28 : fun? P 28 = some Try.f28 := by kernel_rfl
theorem fun29 : fun? P 29 = some Try.f29 := by kernel_rfl
theorem fun30 : fun? P 30 = some Try.f30 := by kernel_rfl
theorem fun31 : fun? P 31 = some Try.f31 := by kernel_rfl
theorem fun32 : fun? P 32 = some Try.f32 := by kernel_rfl
theorem fun33 : fun? P 33 = some Try.f33 := by kernel_rfl
theorem fun34 : fun? P 34 = some Try.f34 := by kernel_rfl
theorem fun35 : fun? P 35 = some Try.f35 := by kernel_rfl
theorem fun37 : fun? P 37 = some Try.f37 := by kernel_rfl
theorem fun38 : fun? P 38 = some Try.f38 := by kernel_rfl
theorem fun39 : fun? P 39 = some Try.f39 := by kernel_rfl
theorem fun40 : fun? P 40 = some Try.f40 := by kernel_rfl
theorem fun41 : fun? P 41 = some Try.f41 := by kernel_rfl
theorem fun50 : fun? P 50 = some Try.f50 := by kernel_rfl
theorem fun51 : fun? P 51 = some Try.f51 := by kernel_rfl
theorem fun53 : fun? P 53 = some Try.f53 := by kernel_rfl
attribute [go_sem] Try.underlying2 ty2 Try.underlying3 ty3 Try.underlying4 ty4 Try.underlying5 ty5 Try.underlying9 ty9 Try.underlying12 ty12 bo13 ty13 ty20 Try.underlying21 ty21 Try.underlying22 ty22 Try.underlying27 ty27 bo34 ty34 Try.underlying36 ty36 bo39 ty39 bo40 ty40 Try.underlying46 ty46 Try.underlying50 ty50 Try.underlying53 ty53 Try.underlying61 ty61 Try.underlying63 ty63 Try.underlying64 ty64 ty68 ty70 ty83
end Go.Proofs.Ytjfaafnngloblaa.Ev
