/-
  No cell of these rows narrows 'for every input' (looked for: loops, veiled, ifaces, maps, wideKeys, modest, calm, conditions, laid).
  DERIVED. THE GIVEN ROWS OF THIS SEAT. 6 by the template 'for every input the law returns true; each argument reads behind the call as it read before'; 0 by the template 'total and deterministic' (their statements: YtkbjihnkbfjhmaaTotals.lean).
  GIVEN WITH THE SEED: the statements are not yours to turn. If you find one false, say at which input.
  Laid BY PROGRAM, IN A SANDBOX (cutbox-rows.mjs): the forced cells as the released guide's own fill.sh prints them over the translation 817b6d5696bd40ac… (all of the seat's roots in one cut). By AI agents, Wed Nov 11 2026. No macro, syntax, notation, axiom, sorry.
-/
import Derived.Test.YtkbjihnkbfjhmaaChecked
import GoSem.Claim
import GoSem.ClaimJoined
import GoSem.ClaimMapViews
import Derived.JoinedTies
import Derived.KernelRfl
namespace Go.Proofs.Ytkbjihnkbfjhmaa
/- THE CELL 'sum', in the pinned program and in every row, IS THE sha256 OF THE DUMP (.gsa) THAT YtkbjihnkbfjhmaaProg.lean LOADS. Nothing in Lean hashes anything: it is a label: what it is worth is what the hold of that sum in a sandbox is worth. -/
noncomputable def Try.pinned : Pinned := { name := "ytkbjihnkbfjhmaa", sum := "817b6d5696bd40acdfc53d7c20c09505b40793b4338a428b3535b8cf51a1b75d", checked := Try.checked }
namespace Rows
def none {H : Type} : Left H := { results := [], args := [] }

/-- 'catafalquelaw12.HeapOrder': WHATEVER THE INPUT: true; the input reads as it did. -/
def heapOrderSpec : ChangeSpec := { name := "heapOrder", fn := fun _ => fun
  | [d1, d2, d3] => { results := [.lit (.bool true)], args := [d1, d2, d3] }
  | _ => none }
def heapOrderRow : OpenClaim := { program := "ytkbjihnkbfjhmaa", sum := "817b6d5696bd40acdfc53d7c20c09505b40793b4338a428b3535b8cf51a1b75d", func := "catafalque/catafalquelaw12.HeapOrder", spec := "heapOrder", apart := false }
def HeapOrderSaid : Prop := heapOrderRow.holds Try.pinned (OpenSpec.ofChange heapOrderSpec)

/-- ITS FALSE NEIGHBOUR: 'it returns false'. Refute it at one input. -/
def heapOrderWrong : ChangeSpec := { name := "heapOrder", fn := fun _ => fun
  | [d1, d2, d3] => { results := [.lit (.bool false)], args := [d1, d2, d3] }
  | _ => none }
def HeapOrderWrongFalsely : Prop := heapOrderRow.holds Try.pinned (OpenSpec.ofChange heapOrderWrong)

/-- 'catafalquelaw12.HeapSorts': WHATEVER THE INPUT: true; the input reads as it did. -/
def heapSortsSpec : ChangeSpec := { name := "heapSorts", fn := fun _ => fun
  | [d] => { results := [.lit (.bool true)], args := [d] }
  | _ => none }
def heapSortsRow : OpenClaim := { program := "ytkbjihnkbfjhmaa", sum := "817b6d5696bd40acdfc53d7c20c09505b40793b4338a428b3535b8cf51a1b75d", func := "catafalque/catafalquelaw12.HeapSorts", spec := "heapSorts", apart := false }
def HeapSortsSaid : Prop := heapSortsRow.holds Try.pinned (OpenSpec.ofChange heapSortsSpec)

/-- ITS FALSE NEIGHBOUR: 'it returns false'. Refute it at one input. -/
def heapSortsWrong : ChangeSpec := { name := "heapSorts", fn := fun _ => fun
  | [d] => { results := [.lit (.bool false)], args := [d] }
  | _ => none }
def HeapSortsWrongFalsely : Prop := heapSortsRow.holds Try.pinned (OpenSpec.ofChange heapSortsWrong)

/-- 'catafalquelaw12.HeapFirst': WHATEVER THE INPUT: true; the input reads as it did. -/
def heapFirstSpec : ChangeSpec := { name := "heapFirst", fn := fun _ => fun
  | [d] => { results := [.lit (.bool true)], args := [d] }
  | _ => none }
def heapFirstRow : OpenClaim := { program := "ytkbjihnkbfjhmaa", sum := "817b6d5696bd40acdfc53d7c20c09505b40793b4338a428b3535b8cf51a1b75d", func := "catafalque/catafalquelaw12.HeapFirst", spec := "heapFirst", unfollowed := true, recurses := true, apart := false }
def HeapFirstSaid : Prop := heapFirstRow.holds Try.pinned (OpenSpec.ofChange heapFirstSpec)

/-- ITS FALSE NEIGHBOUR: 'it returns false'. Refute it at one input. -/
def heapFirstWrong : ChangeSpec := { name := "heapFirst", fn := fun _ => fun
  | [d] => { results := [.lit (.bool false)], args := [d] }
  | _ => none }
def HeapFirstWrongFalsely : Prop := heapFirstRow.holds Try.pinned (OpenSpec.ofChange heapFirstWrong)

/-- 'catafalquelaw12.HeapDrops': WHATEVER THE INPUT: true; the input reads as it did. -/
def heapDropsSpec : ChangeSpec := { name := "heapDrops", fn := fun _ => fun
  | [d1, d2] => { results := [.lit (.bool true)], args := [d1, d2] }
  | _ => none }
def heapDropsRow : OpenClaim := { program := "ytkbjihnkbfjhmaa", sum := "817b6d5696bd40acdfc53d7c20c09505b40793b4338a428b3535b8cf51a1b75d", func := "catafalque/catafalquelaw12.HeapDrops", spec := "heapDrops", unfollowed := true, recurses := true, apart := false }
def HeapDropsSaid : Prop := heapDropsRow.holds Try.pinned (OpenSpec.ofChange heapDropsSpec)

/-- ITS FALSE NEIGHBOUR: 'it returns false'. Refute it at one input. -/
def heapDropsWrong : ChangeSpec := { name := "heapDrops", fn := fun _ => fun
  | [d1, d2] => { results := [.lit (.bool false)], args := [d1, d2] }
  | _ => none }
def HeapDropsWrongFalsely : Prop := heapDropsRow.holds Try.pinned (OpenSpec.ofChange heapDropsWrong)

/-- 'catafalquelaw12.HeapPlays': WHATEVER THE INPUT: true; the input reads as it did. -/
def heapPlaysSpec : ChangeSpec := { name := "heapPlays", fn := fun _ => fun
  | [d] => { results := [.lit (.bool true)], args := [d] }
  | _ => none }
def heapPlaysRow : OpenClaim := { program := "ytkbjihnkbfjhmaa", sum := "817b6d5696bd40acdfc53d7c20c09505b40793b4338a428b3535b8cf51a1b75d", func := "catafalque/catafalquelaw12.HeapPlays", spec := "heapPlays", unfollowed := true, recurses := true, apart := false }
def HeapPlaysSaid : Prop := heapPlaysRow.holds Try.pinned (OpenSpec.ofChange heapPlaysSpec)

/-- ITS FALSE NEIGHBOUR: 'it returns false'. Refute it at one input. -/
def heapPlaysWrong : ChangeSpec := { name := "heapPlays", fn := fun _ => fun
  | [d] => { results := [.lit (.bool false)], args := [d] }
  | _ => none }
def HeapPlaysWrongFalsely : Prop := heapPlaysRow.holds Try.pinned (OpenSpec.ofChange heapPlaysWrong)

/-- 'catafalquelaw12.HeapNobody': WHATEVER THE INPUT: true; the input reads as it did. -/
def heapNobodySpec : ChangeSpec := { name := "heapNobody", fn := fun _ => fun
  | [d] => { results := [.lit (.bool true)], args := [d] }
  | _ => none }
def heapNobodyRow : OpenClaim := { program := "ytkbjihnkbfjhmaa", sum := "817b6d5696bd40acdfc53d7c20c09505b40793b4338a428b3535b8cf51a1b75d", func := "catafalque/catafalquelaw12.HeapNobody", spec := "heapNobody", unfollowed := true, recurses := true, apart := false }
def HeapNobodySaid : Prop := heapNobodyRow.holds Try.pinned (OpenSpec.ofChange heapNobodySpec)

/-- ITS FALSE NEIGHBOUR: 'it returns false'. Refute it at one input. -/
def heapNobodyWrong : ChangeSpec := { name := "heapNobody", fn := fun _ => fun
  | [d] => { results := [.lit (.bool false)], args := [d] }
  | _ => none }
def HeapNobodyWrongFalsely : Prop := heapNobodyRow.holds Try.pinned (OpenSpec.ofChange heapNobodyWrong)

/- THE SECOND FORM. 'bulk': how many values and letters a reading holds, each counted each time it is reached (what is shared counts as often as it is met; a slice's spare places count too). A statement '..UptoSaid' is the law's where the arguments, and the package variables that the reading takes, are together of bulk at most 1048576: NARROWER than '..Said'. Prove '..Said' where nothing that the law and all that it calls make is longer than what came in: it says more and counts as full. Else prove '..UptoSaid'. A law counts once. -/
mutual
def uptoBulk {H : Type} : DataW H → Nat
  | .lit (.string bytes) => bytes.length + 1
  | .lit _ => 1
  | .nil => 1
  | .ptr d => uptoBulk d + 1
  | .slice elems spare => uptoBulkAll elems + uptoBulkAll spare + 1
  | .agg parts => uptoBulkAll parts + 1
  | .iface _ d => uptoBulk d + 1
  | .map entries => uptoBulkEntries entries + 1
  | .held _ => 1
def uptoBulkAll {H : Type} : List (DataW H) → Nat
  | [] => 0
  | d :: r => uptoBulk d + uptoBulkAll r
def uptoBulkEntries {H : Type} : List (Lit × DataW H) → Nat
  | [] => 0
  | x :: r => uptoBulkEntry x + uptoBulkEntries r
def uptoBulkEntry {H : Type} : Lit × DataW H → Nat
  | (.string bytes, d) => bytes.length + uptoBulk d + 1
  | (_, d) => uptoBulk d + 1
 end
def uptoSmall : (H : Type) → List (DataW H) → Bool := fun _ ds => decide (uptoBulkAll ds ≤ 1048576)
def OpenSpec.upto (s : _root_.Go.ChangeSpec) : _root_.Go.OpenSpec := { _root_.Go.OpenSpec.ofChange s with cond := some uptoSmall }

/-- 'catafalquelaw12.HeapOrder', WHERE WHAT IT READS IS OF BULK AT MOST 1048576: true; the input reads as it did. -/
def heapOrderUptoRow : OpenClaim := { program := "ytkbjihnkbfjhmaa", sum := "817b6d5696bd40acdfc53d7c20c09505b40793b4338a428b3535b8cf51a1b75d", func := "catafalque/catafalquelaw12.HeapOrder", spec := "heapOrder", apart := false, narrowed := true }
def HeapOrderUptoSaid : Prop := heapOrderUptoRow.holds Try.pinned (OpenSpec.upto heapOrderSpec)

/-- 'catafalquelaw12.HeapSorts', WHERE WHAT IT READS IS OF BULK AT MOST 1048576: true; the input reads as it did. -/
def heapSortsUptoRow : OpenClaim := { program := "ytkbjihnkbfjhmaa", sum := "817b6d5696bd40acdfc53d7c20c09505b40793b4338a428b3535b8cf51a1b75d", func := "catafalque/catafalquelaw12.HeapSorts", spec := "heapSorts", apart := false, narrowed := true }
def HeapSortsUptoSaid : Prop := heapSortsUptoRow.holds Try.pinned (OpenSpec.upto heapSortsSpec)

/-- 'catafalquelaw12.HeapFirst', WHERE WHAT IT READS IS OF BULK AT MOST 1048576: true; the input reads as it did. -/
def heapFirstUptoRow : OpenClaim := { program := "ytkbjihnkbfjhmaa", sum := "817b6d5696bd40acdfc53d7c20c09505b40793b4338a428b3535b8cf51a1b75d", func := "catafalque/catafalquelaw12.HeapFirst", spec := "heapFirst", unfollowed := true, recurses := true, apart := false, narrowed := true }
def HeapFirstUptoSaid : Prop := heapFirstUptoRow.holds Try.pinned (OpenSpec.upto heapFirstSpec)

/-- 'catafalquelaw12.HeapDrops', WHERE WHAT IT READS IS OF BULK AT MOST 1048576: true; the input reads as it did. -/
def heapDropsUptoRow : OpenClaim := { program := "ytkbjihnkbfjhmaa", sum := "817b6d5696bd40acdfc53d7c20c09505b40793b4338a428b3535b8cf51a1b75d", func := "catafalque/catafalquelaw12.HeapDrops", spec := "heapDrops", unfollowed := true, recurses := true, apart := false, narrowed := true }
def HeapDropsUptoSaid : Prop := heapDropsUptoRow.holds Try.pinned (OpenSpec.upto heapDropsSpec)

/-- 'catafalquelaw12.HeapPlays', WHERE WHAT IT READS IS OF BULK AT MOST 1048576: true; the input reads as it did. -/
def heapPlaysUptoRow : OpenClaim := { program := "ytkbjihnkbfjhmaa", sum := "817b6d5696bd40acdfc53d7c20c09505b40793b4338a428b3535b8cf51a1b75d", func := "catafalque/catafalquelaw12.HeapPlays", spec := "heapPlays", unfollowed := true, recurses := true, apart := false, narrowed := true }
def HeapPlaysUptoSaid : Prop := heapPlaysUptoRow.holds Try.pinned (OpenSpec.upto heapPlaysSpec)

/-- 'catafalquelaw12.HeapNobody', WHERE WHAT IT READS IS OF BULK AT MOST 1048576: true; the input reads as it did. -/
def heapNobodyUptoRow : OpenClaim := { program := "ytkbjihnkbfjhmaa", sum := "817b6d5696bd40acdfc53d7c20c09505b40793b4338a428b3535b8cf51a1b75d", func := "catafalque/catafalquelaw12.HeapNobody", spec := "heapNobody", unfollowed := true, recurses := true, apart := false, narrowed := true }
def HeapNobodyUptoSaid : Prop := heapNobodyUptoRow.holds Try.pinned (OpenSpec.upto heapNobodySpec)

end Rows
end Go.Proofs.Ytkbjihnkbfjhmaa
