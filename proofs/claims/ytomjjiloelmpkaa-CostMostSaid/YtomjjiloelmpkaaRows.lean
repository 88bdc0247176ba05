/-
  No cell of these rows narrows 'for every input' (looked for: loops, veiled, ifaces, maps, wideKeys, modest, calm, conditions, laid).
  DERIVED. THE GIVEN ROWS OF THIS SEAT. 5 by the template 'for every input the law returns true; each argument reads behind the call as it read before'; 0 by the template 'total and deterministic' (their statements: YtomjjiloelmpkaaTotals.lean).
  GIVEN WITH THE SEED: the statements are not yours to turn. If you find one false, say at which input.
  Laid BY PROGRAM, IN A SANDBOX (cutbox-rows.mjs): the forced cells as the released guide's own fill.sh prints them over the translation de9d42556cf74397… (all of the seat's roots in one cut). By AI agents, Wed Nov 11 2026. No macro, syntax, notation, axiom, sorry.
-/
import Derived.Test.YtomjjiloelmpkaaChecked
import GoSem.Claim
import GoSem.ClaimJoined
import GoSem.ClaimMapViews
import Derived.JoinedTies
import Derived.KernelRfl
namespace Go.Proofs.Ytomjjiloelmpkaa
/- THE CELL 'sum', in the pinned program and in every row, IS THE sha256 OF THE DUMP (.gsa) THAT YtomjjiloelmpkaaProg.lean LOADS. Nothing in Lean hashes anything: it is a label: what it is worth is what the hold of that sum in a sandbox is worth. -/
noncomputable def Try.pinned : Pinned := { name := "ytomjjiloelmpkaa", sum := "de9d42556cf74397316ebaa0ccacea686132f7b4db1730df42d2c774d5564015", checked := Try.checked }
namespace Rows
def none {H : Type} : Left H := { results := [], args := [] }

/-- 'catafalquelaw14.CostZero': WHATEVER THE INPUT: true; the input reads as it did. -/
def costZeroSpec : ChangeSpec := { name := "costZero", fn := fun _ => fun
  | [d1, d2, d3] => { results := [.lit (.bool true)], args := [d1, d2, d3] }
  | _ => none }
def costZeroRow : OpenClaim := { program := "ytomjjiloelmpkaa", sum := "de9d42556cf74397316ebaa0ccacea686132f7b4db1730df42d2c774d5564015", func := "catafalque/catafalquelaw14.CostZero", spec := "costZero", apart := false }
def CostZeroSaid : Prop := costZeroRow.holds Try.pinned (OpenSpec.ofChange costZeroSpec)

/-- ITS FALSE NEIGHBOUR: 'it returns false'. Refute it at one input. -/
def costZeroWrong : ChangeSpec := { name := "costZero", fn := fun _ => fun
  | [d1, d2, d3] => { results := [.lit (.bool false)], args := [d1, d2, d3] }
  | _ => none }
def CostZeroWrongFalsely : Prop := costZeroRow.holds Try.pinned (OpenSpec.ofChange costZeroWrong)

/-- 'catafalquelaw14.CostSums': WHATEVER THE INPUT: true; the input reads as it did. -/
def costSumsSpec : ChangeSpec := { name := "costSums", fn := fun _ => fun
  | [d1, d2] => { results := [.lit (.bool true)], args := [d1, d2] }
  | _ => none }
def costSumsRow : OpenClaim := { program := "ytomjjiloelmpkaa", sum := "de9d42556cf74397316ebaa0ccacea686132f7b4db1730df42d2c774d5564015", func := "catafalque/catafalquelaw14.CostSums", spec := "costSums", unfollowed := true, recurses := true, apart := false }
def CostSumsSaid : Prop := costSumsRow.holds Try.pinned (OpenSpec.ofChange costSumsSpec)

/-- ITS FALSE NEIGHBOUR: 'it returns false'. Refute it at one input. -/
def costSumsWrong : ChangeSpec := { name := "costSums", fn := fun _ => fun
  | [d1, d2] => { results := [.lit (.bool false)], args := [d1, d2] }
  | _ => none }
def CostSumsWrongFalsely : Prop := costSumsRow.holds Try.pinned (OpenSpec.ofChange costSumsWrong)

/-- 'catafalquelaw14.CostTells': WHATEVER THE INPUT: true; the input reads as it did. -/
def costTellsSpec : ChangeSpec := { name := "costTells", fn := fun _ => fun
  | [d1, d2, d3] => { results := [.lit (.bool true)], args := [d1, d2, d3] }
  | _ => none }
def costTellsRow : OpenClaim := { program := "ytomjjiloelmpkaa", sum := "de9d42556cf74397316ebaa0ccacea686132f7b4db1730df42d2c774d5564015", func := "catafalque/catafalquelaw14.CostTells", spec := "costTells", unfollowed := true, recurses := true, apart := false }
def CostTellsSaid : Prop := costTellsRow.holds Try.pinned (OpenSpec.ofChange costTellsSpec)

/-- ITS FALSE NEIGHBOUR: 'it returns false'. Refute it at one input. -/
def costTellsWrong : ChangeSpec := { name := "costTells", fn := fun _ => fun
  | [d1, d2, d3] => { results := [.lit (.bool false)], args := [d1, d2, d3] }
  | _ => none }
def CostTellsWrongFalsely : Prop := costTellsRow.holds Try.pinned (OpenSpec.ofChange costTellsWrong)

/-- 'catafalquelaw14.CostJoins': WHATEVER THE INPUT: true; the input reads as it did. -/
def costJoinsSpec : ChangeSpec := { name := "costJoins", fn := fun _ => fun
  | [d1, d2, d3] => { results := [.lit (.bool true)], args := [d1, d2, d3] }
  | _ => none }
def costJoinsRow : OpenClaim := { program := "ytomjjiloelmpkaa", sum := "de9d42556cf74397316ebaa0ccacea686132f7b4db1730df42d2c774d5564015", func := "catafalque/catafalquelaw14.CostJoins", spec := "costJoins", unfollowed := true, recurses := true, apart := false }
def CostJoinsSaid : Prop := costJoinsRow.holds Try.pinned (OpenSpec.ofChange costJoinsSpec)

/-- ITS FALSE NEIGHBOUR: 'it returns false'. Refute it at one input. -/
def costJoinsWrong : ChangeSpec := { name := "costJoins", fn := fun _ => fun
  | [d1, d2, d3] => { results := [.lit (.bool false)], args := [d1, d2, d3] }
  | _ => none }
def CostJoinsWrongFalsely : Prop := costJoinsRow.holds Try.pinned (OpenSpec.ofChange costJoinsWrong)

/-- 'catafalquelaw14.CostMost': WHATEVER THE INPUT: true; the input reads as it did. -/
def costMostSpec : ChangeSpec := { name := "costMost", fn := fun _ => fun
  | [d1, d2] => { results := [.lit (.bool true)], args := [d1, d2] }
  | _ => none }
def costMostRow : OpenClaim := { program := "ytomjjiloelmpkaa", sum := "de9d42556cf74397316ebaa0ccacea686132f7b4db1730df42d2c774d5564015", func := "catafalque/catafalquelaw14.CostMost", spec := "costMost", unfollowed := true, recurses := true, apart := false }
def CostMostSaid : Prop := costMostRow.holds Try.pinned (OpenSpec.ofChange costMostSpec)

/-- ITS FALSE NEIGHBOUR: 'it returns false'. Refute it at one input. -/
def costMostWrong : ChangeSpec := { name := "costMost", fn := fun _ => fun
  | [d1, d2] => { results := [.lit (.bool false)], args := [d1, d2] }
  | _ => none }
def CostMostWrongFalsely : Prop := costMostRow.holds Try.pinned (OpenSpec.ofChange costMostWrong)

/- THE SECOND FORM. 'bulk': how many values and letters a reading holds, each counted each time it is reached (what is shared counts as often as it is met; a slice's spare places count too). A statement '..UptoSaid' is the law's where the arguments, and the package variables that the reading takes, are together of bulk at most 1048576: NARROWER than '..Said'. Prove '..Said' where nothing that the law and all that it calls make is longer than what came in: it says more and counts as full. Else prove '..UptoSaid'. A law counts once. -/
mutual
def uptoBulk {H : Type} : DataW H → Nat
  | .lit (.string bytes) => bytes.length + 1
  | .lit _ => 1
  | .nil => 1
  | .ptr d => uptoBulk d + 1
  | .slice elems spare => uptoBulkAll elems + uptoBulkAll spare + 1
  | .agg parts => uptoBulkAll parts + 1
  | .iface _ d => uptoBulk d + 1
  | .map entries => uptoBulkEntries entries + 1
  | .held _ => 1
def uptoBulkAll {H : Type} : List (DataW H) → Nat
  | [] => 0
  | d :: r => uptoBulk d + uptoBulkAll r
def uptoBulkEntries {H : Type} : List (Lit × DataW H) → Nat
  | [] => 0
  | x :: r => uptoBulkEntry x + uptoBulkEntries r
def uptoBulkEntry {H : Type} : Lit × DataW H → Nat
  | (.string bytes, d) => bytes.length + uptoBulk d + 1
  | (_, d) => uptoBulk d + 1
 end
def uptoSmall : (H : Type) → List (DataW H) → Bool := fun _ ds => decide (uptoBulkAll ds ≤ 1048576)
def OpenSpec.upto (s : _root_.Go.ChangeSpec) : _root_.Go.OpenSpec := { _root_.Go.OpenSpec.ofChange s with cond := some uptoSmall }

/-- 'catafalquelaw14.CostZero', WHERE WHAT IT READS IS OF BULK AT MOST 1048576: true; the input reads as it did. -/
def costZeroUptoRow : OpenClaim := { program := "ytomjjiloelmpkaa", sum := "de9d42556cf74397316ebaa0ccacea686132f7b4db1730df42d2c774d5564015", func := "catafalque/catafalquelaw14.CostZero", spec := "costZero", apart := false, narrowed := true }
def CostZeroUptoSaid : Prop := costZeroUptoRow.holds Try.pinned (OpenSpec.upto costZeroSpec)

/-- 'catafalquelaw14.CostSums', WHERE WHAT IT READS IS OF BULK AT MOST 1048576: true; the input reads as it did. -/
def costSumsUptoRow : OpenClaim := { program := "ytomjjiloelmpkaa", sum := "de9d42556cf74397316ebaa0ccacea686132f7b4db1730df42d2c774d5564015", func := "catafalque/catafalquelaw14.CostSums", spec := "costSums", unfollowed := true, recurses := true, apart := false, narrowed := true }
def CostSumsUptoSaid : Prop := costSumsUptoRow.holds Try.pinned (OpenSpec.upto costSumsSpec)

/-- 'catafalquelaw14.CostTells', WHERE WHAT IT READS IS OF BULK AT MOST 1048576: true; the input reads as it did. -/
def costTellsUptoRow : OpenClaim := { program := "ytomjjiloelmpkaa", sum := "de9d42556cf74397316ebaa0ccacea686132f7b4db1730df42d2c774d5564015", func := "catafalque/catafalquelaw14.CostTells", spec := "costTells", unfollowed := true, recurses := true, apart := false, narrowed := true }
def CostTellsUptoSaid : Prop := costTellsUptoRow.holds Try.pinned (OpenSpec.upto costTellsSpec)

/-- 'catafalquelaw14.CostJoins', WHERE WHAT IT READS IS OF BULK AT MOST 1048576: true; the input reads as it did. -/
def costJoinsUptoRow : OpenClaim := { program := "ytomjjiloelmpkaa", sum := "de9d42556cf74397316ebaa0ccacea686132f7b4db1730df42d2c774d5564015", func := "catafalque/catafalquelaw14.CostJoins", spec := "costJoins", unfollowed := true, recurses := true, apart := false, narrowed := true }
def CostJoinsUptoSaid : Prop := costJoinsUptoRow.holds Try.pinned (OpenSpec.upto costJoinsSpec)

/-- 'catafalquelaw14.CostMost', WHERE WHAT IT READS IS OF BULK AT MOST 1048576: true; the input reads as it did. -/
def costMostUptoRow : OpenClaim := { program := "ytomjjiloelmpkaa", sum := "de9d42556cf74397316ebaa0ccacea686132f7b4db1730df42d2c774d5564015", func := "catafalque/catafalquelaw14.CostMost", spec := "costMost", unfollowed := true, recurses := true, apart := false, narrowed := true }
def CostMostUptoSaid : Prop := costMostUptoRow.holds Try.pinned (OpenSpec.upto costMostSpec)

end Rows
end Go.Proofs.Ytomjjiloelmpkaa
