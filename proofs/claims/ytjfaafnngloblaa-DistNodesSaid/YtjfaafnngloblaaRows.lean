/-
  No cell of these rows narrows 'for every input' (looked for: loops, veiled, ifaces, maps, wideKeys, modest, calm, conditions, laid).
  DERIVED. THE GIVEN ROWS OF THIS SEAT. 7 by the template 'for every input the law returns true; each argument reads behind the call as it read before'; 0 by the template 'total and deterministic' (their statements: YtjfaafnngloblaaTotals.lean).
  GIVEN WITH THE SEED: the statements are not yours to turn. If you find one false, say at which input.
  Laid BY PROGRAM, IN A SANDBOX (cutbox-rows.mjs): the forced cells as the released guide's own fill.sh prints them over the translation 9f9b9f9a0711a2d7… (all of the seat's roots in one cut). By AI agents, Wed Nov 11 2026. No macro, syntax, notation, axiom, sorry.
-/
import Derived.Test.YtjfaafnngloblaaChecked
import GoSem.Claim
import GoSem.ClaimJoined
import GoSem.ClaimMapViews
import Derived.JoinedTies
import Derived.KernelRfl
namespace Go.Proofs.Ytjfaafnngloblaa
/- THE CELL 'sum', in the pinned program and in every row, IS THE sha256 OF THE DUMP (.gsa) THAT YtjfaafnngloblaaProg.lean LOADS. Nothing in Lean hashes anything: it is a label: what it is worth is what the hold of that sum in a sandbox is worth. -/
noncomputable def Try.pinned : Pinned := { name := "ytjfaafnngloblaa", sum := "9f9b9f9a0711a2d75fcf069d5c17dabeb98efae6447ab8e5d2739bbb1d4fe826", checked := Try.checked }
namespace Rows
def none {H : Type} : Left H := { results := [], args := [] }

/-- 'catafalquelaw02.DistTells': WHATEVER THE INPUT: true; the input reads as it did. -/
def distTellsSpec : ChangeSpec := { name := "distTells", fn := fun _ => fun
  | [d1, d2, d3] => { results := [.lit (.bool true)], args := [d1, d2, d3] }
  | _ => none }
def distTellsRow : OpenClaim := { program := "ytjfaafnngloblaa", sum := "9f9b9f9a0711a2d75fcf069d5c17dabeb98efae6447ab8e5d2739bbb1d4fe826", func := "catafalque/catafalquelaw02.DistTells", spec := "distTells", unfollowed := true, recurses := true, apart := false }
def DistTellsSaid : Prop := distTellsRow.holds Try.pinned (OpenSpec.ofChange distTellsSpec)

/-- ITS FALSE NEIGHBOUR: 'it returns false'. Refute it at one input. -/
def distTellsWrong : ChangeSpec := { name := "distTells", fn := fun _ => fun
  | [d1, d2, d3] => { results := [.lit (.bool false)], args := [d1, d2, d3] }
  | _ => none }
def DistTellsWrongFalsely : Prop := distTellsRow.holds Try.pinned (OpenSpec.ofChange distTellsWrong)

/-- 'catafalquelaw02.DistThree': WHATEVER THE INPUT: true; the input reads as it did. -/
def distThreeSpec : ChangeSpec := { name := "distThree", fn := fun _ => fun
  | [d1, d2, d3, d4] => { results := [.lit (.bool true)], args := [d1, d2, d3, d4] }
  | _ => none }
def distThreeRow : OpenClaim := { program := "ytjfaafnngloblaa", sum := "9f9b9f9a0711a2d75fcf069d5c17dabeb98efae6447ab8e5d2739bbb1d4fe826", func := "catafalque/catafalquelaw02.DistThree", spec := "distThree", unfollowed := true, recurses := true, apart := false }
def DistThreeSaid : Prop := distThreeRow.holds Try.pinned (OpenSpec.ofChange distThreeSpec)

/-- ITS FALSE NEIGHBOUR: 'it returns false'. Refute it at one input. -/
def distThreeWrong : ChangeSpec := { name := "distThree", fn := fun _ => fun
  | [d1, d2, d3, d4] => { results := [.lit (.bool false)], args := [d1, d2, d3, d4] }
  | _ => none }
def DistThreeWrongFalsely : Prop := distThreeRow.holds Try.pinned (OpenSpec.ofChange distThreeWrong)

/-- 'catafalquelaw02.DistNear': WHATEVER THE INPUT: true; the input reads as it did. -/
def distNearSpec : ChangeSpec := { name := "distNear", fn := fun _ => fun
  | [d1, d2] => { results := [.lit (.bool true)], args := [d1, d2] }
  | _ => none }
def distNearRow : OpenClaim := { program := "ytjfaafnngloblaa", sum := "9f9b9f9a0711a2d75fcf069d5c17dabeb98efae6447ab8e5d2739bbb1d4fe826", func := "catafalque/catafalquelaw02.DistNear", spec := "distNear", unfollowed := true, recurses := true, apart := false }
def DistNearSaid : Prop := distNearRow.holds Try.pinned (OpenSpec.ofChange distNearSpec)

/-- ITS FALSE NEIGHBOUR: 'it returns false'. Refute it at one input. -/
def distNearWrong : ChangeSpec := { name := "distNear", fn := fun _ => fun
  | [d1, d2] => { results := [.lit (.bool false)], args := [d1, d2] }
  | _ => none }
def DistNearWrongFalsely : Prop := distNearRow.holds Try.pinned (OpenSpec.ofChange distNearWrong)

/-- 'catafalquelaw02.DistNodes': WHATEVER THE INPUT: true; the input reads as it did. -/
def distNodesSpec : ChangeSpec := { name := "distNodes", fn := fun _ => fun
  | [d] => { results := [.lit (.bool true)], args := [d] }
  | _ => none }
def distNodesRow : OpenClaim := { program := "ytjfaafnngloblaa", sum := "9f9b9f9a0711a2d75fcf069d5c17dabeb98efae6447ab8e5d2739bbb1d4fe826", func := "catafalque/catafalquelaw02.DistNodes", spec := "distNodes", unfollowed := true, recurses := true, apart := false }
def DistNodesSaid : Prop := distNodesRow.holds Try.pinned (OpenSpec.ofChange distNodesSpec)

/-- ITS FALSE NEIGHBOUR: 'it returns false'. Refute it at one input. -/
def distNodesWrong : ChangeSpec := { name := "distNodes", fn := fun _ => fun
  | [d] => { results := [.lit (.bool false)], args := [d] }
  | _ => none }
def DistNodesWrongFalsely : Prop := distNodesRow.holds Try.pinned (OpenSpec.ofChange distNodesWrong)

/-- 'catafalquelaw02.DistFirst': WHATEVER THE INPUT: true; the input reads as it did. -/
def distFirstSpec : ChangeSpec := { name := "distFirst", fn := fun _ => fun
  | [d1, d2] => { results := [.lit (.bool true)], args := [d1, d2] }
  | _ => none }
def distFirstRow : OpenClaim := { program := "ytjfaafnngloblaa", sum := "9f9b9f9a0711a2d75fcf069d5c17dabeb98efae6447ab8e5d2739bbb1d4fe826", func := "catafalque/catafalquelaw02.DistFirst", spec := "distFirst", unfollowed := true, recurses := true, apart := false }
def DistFirstSaid : Prop := distFirstRow.holds Try.pinned (OpenSpec.ofChange distFirstSpec)

/-- ITS FALSE NEIGHBOUR: 'it returns false'. Refute it at one input. -/
def distFirstWrong : ChangeSpec := { name := "distFirst", fn := fun _ => fun
  | [d1, d2] => { results := [.lit (.bool false)], args := [d1, d2] }
  | _ => none }
def DistFirstWrongFalsely : Prop := distFirstRow.holds Try.pinned (OpenSpec.ofChange distFirstWrong)

/-- 'catafalquelaw02.DistUp': WHATEVER THE INPUT: true; the input reads as it did. -/
def distUpSpec : ChangeSpec := { name := "distUp", fn := fun _ => fun
  | [d1, d2, d3] => { results := [.lit (.bool true)], args := [d1, d2, d3] }
  | _ => none }
def distUpRow : OpenClaim := { program := "ytjfaafnngloblaa", sum := "9f9b9f9a0711a2d75fcf069d5c17dabeb98efae6447ab8e5d2739bbb1d4fe826", func := "catafalque/catafalquelaw02.DistUp", spec := "distUp", unfollowed := true, recurses := true, apart := false }
def DistUpSaid : Prop := distUpRow.holds Try.pinned (OpenSpec.ofChange distUpSpec)

/-- ITS FALSE NEIGHBOUR: 'it returns false'. Refute it at one input. -/
def distUpWrong : ChangeSpec := { name := "distUp", fn := fun _ => fun
  | [d1, d2, d3] => { results := [.lit (.bool false)], args := [d1, d2, d3] }
  | _ => none }
def DistUpWrongFalsely : Prop := distUpRow.holds Try.pinned (OpenSpec.ofChange distUpWrong)

/-- 'catafalquelaw02.DistTable': WHATEVER THE INPUT: true; the input reads as it did. -/
def distTableSpec : ChangeSpec := { name := "distTable", fn := fun _ => fun
  | [d] => { results := [.lit (.bool true)], args := [d] }
  | _ => none }
def distTableRow : OpenClaim := { program := "ytjfaafnngloblaa", sum := "9f9b9f9a0711a2d75fcf069d5c17dabeb98efae6447ab8e5d2739bbb1d4fe826", func := "catafalque/catafalquelaw02.DistTable", spec := "distTable", unfollowed := true, recurses := true, apart := false }
def DistTableSaid : Prop := distTableRow.holds Try.pinned (OpenSpec.ofChange distTableSpec)

/-- ITS FALSE NEIGHBOUR: 'it returns false'. Refute it at one input. -/
def distTableWrong : ChangeSpec := { name := "distTable", fn := fun _ => fun
  | [d] => { results := [.lit (.bool false)], args := [d] }
  | _ => none }
def DistTableWrongFalsely : Prop := distTableRow.holds Try.pinned (OpenSpec.ofChange distTableWrong)

/- THE SECOND FORM. 'bulk': how many values and letters a reading holds, each counted each time it is reached (what is shared counts as often as it is met; a slice's spare places count too). A statement '..UptoSaid' is the law's where the arguments, and the package variables that the reading takes, are together of bulk at most 1048576: NARROWER than '..Said'. Prove '..Said' where nothing that the law and all that it calls make is longer than what came in: it says more and counts as full. Else prove '..UptoSaid'. A law counts once. -/
mutual
def uptoBulk {H : Type} : DataW H → Nat
  | .lit (.string bytes) => bytes.length + 1
  | .lit _ => 1
  | .nil => 1
  | .ptr d => uptoBulk d + 1
  | .slice elems spare => uptoBulkAll elems + uptoBulkAll spare + 1
  | .agg parts => uptoBulkAll parts + 1
  | .iface _ d => uptoBulk d + 1
  | .map entries => uptoBulkEntries entries + 1
  | .held _ => 1
def uptoBulkAll {H : Type} : List (DataW H) → Nat
  | [] => 0
  | d :: r => uptoBulk d + uptoBulkAll r
def uptoBulkEntries {H : Type} : List (Lit × DataW H) → Nat
  | [] => 0
  | x :: r => uptoBulkEntry x + uptoBulkEntries r
def uptoBulkEntry {H : Type} : Lit × DataW H → Nat
  | (.string bytes, d) => bytes.length + uptoBulk d + 1
  | (_, d) => uptoBulk d + 1
 end
def uptoSmall : (H : Type) → List (DataW H) → Bool := fun _ ds => decide (uptoBulkAll ds ≤ 1048576)
def OpenSpec.upto (s : _root_.Go.ChangeSpec) : _root_.Go.OpenSpec := { _root_.Go.OpenSpec.ofChange s with cond := some uptoSmall }

/-- 'catafalquelaw02.DistTells', WHERE WHAT IT READS IS OF BULK AT MOST 1048576: true; the input reads as it did. -/
def distTellsUptoRow : OpenClaim := { program := "ytjfaafnngloblaa", sum := "9f9b9f9a0711a2d75fcf069d5c17dabeb98efae6447ab8e5d2739bbb1d4fe826", func := "catafalque/catafalquelaw02.DistTells", spec := "distTells", unfollowed := true, recurses := true, apart := false, narrowed := true }
def DistTellsUptoSaid : Prop := distTellsUptoRow.holds Try.pinned (OpenSpec.upto distTellsSpec)

/-- 'catafalquelaw02.DistThree', WHERE WHAT IT READS IS OF BULK AT MOST 1048576: true; the input reads as it did. -/
def distThreeUptoRow : OpenClaim := { program := "ytjfaafnngloblaa", sum := "9f9b9f9a0711a2d75fcf069d5c17dabeb98efae6447ab8e5d2739bbb1d4fe826", func := "catafalque/catafalquelaw02.DistThree", spec := "distThree", unfollowed := true, recurses := true, apart := false, narrowed := true }
def DistThreeUptoSaid : Prop := distThreeUptoRow.holds Try.pinned (OpenSpec.upto distThreeSpec)

/-- 'catafalquelaw02.DistNear', WHERE WHAT IT READS IS OF BULK AT MOST 1048576: true; the input reads as it did. -/
def distNearUptoRow : OpenClaim := { program := "ytjfaafnngloblaa", sum := "9f9b9f9a0711a2d75fcf069d5c17dabeb98efae6447ab8e5d2739bbb1d4fe826", func := "catafalque/catafalquelaw02.DistNear", spec := "distNear", unfollowed := true, recurses := true, apart := false, narrowed := true }
def DistNearUptoSaid : Prop := distNearUptoRow.holds Try.pinned (OpenSpec.upto distNearSpec)

/-- 'catafalquelaw02.DistNodes', WHERE WHAT IT READS IS OF BULK AT MOST 1048576: true; the input reads as it did. -/
def distNodesUptoRow : OpenClaim := { program := "ytjfaafnngloblaa", sum := "9f9b9f9a0711a2d75fcf069d5c17dabeb98efae6447ab8e5d2739bbb1d4fe826", func := "catafalque/catafalquelaw02.DistNodes", spec := "distNodes", unfollowed := true, recurses := true, apart := false, narrowed := true }
def DistNodesUptoSaid : Prop := distNodesUptoRow.holds Try.pinned (OpenSpec.upto distNodesSpec)

/-- 'catafalquelaw02.DistFirst', WHERE WHAT IT READS IS OF BULK AT MOST 1048576: true; the input reads as it did. -/
def distFirstUptoRow : OpenClaim := { program := "ytjfaafnngloblaa", sum := "9f9b9f9a0711a2d75fcf069d5c17dabeb98efae6447ab8e5d2739bbb1d4fe826", func := "catafalque/catafalquelaw02.DistFirst", spec := "distFirst", unfollowed := true, recurses := true, apart := false, narrowed := true }
def DistFirstUptoSaid : Prop := distFirstUptoRow.holds Try.pinned (OpenSpec.upto distFirstSpec)

/-- 'catafalquelaw02.DistUp', WHERE WHAT IT READS IS OF BULK AT MOST 1048576: true; the input reads as it did. -/
def distUpUptoRow : OpenClaim := { program := "ytjfaafnngloblaa", sum := "9f9b9f9a0711a2d75fcf069d5c17dabeb98efae6447ab8e5d2739bbb1d4fe826", func := "catafalque/catafalquelaw02.DistUp", spec := "distUp", unfollowed := true, recurses := true, apart := false, narrowed := true }
def DistUpUptoSaid : Prop := distUpUptoRow.holds Try.pinned (OpenSpec.upto distUpSpec)

/-- 'catafalquelaw02.DistTable', WHERE WHAT IT READS IS OF BULK AT MOST 1048576: true; the input reads as it did. -/
def distTableUptoRow : OpenClaim := { program := "ytjfaafnngloblaa", sum := "9f9b9f9a0711a2d75fcf069d5c17dabeb98efae6447ab8e5d2739bbb1d4fe826", func := "catafalque/catafalquelaw02.DistTable", spec := "distTable", unfollowed := true, recurses := true, apart := false, narrowed := true }
def DistTableUptoSaid : Prop := distTableUptoRow.holds Try.pinned (OpenSpec.upto distTableSpec)

end Rows
end Go.Proofs.Ytjfaafnngloblaa
