/-
  No cell of these rows narrows 'for every input' (looked for: loops, veiled, ifaces, maps, wideKeys, modest, calm, conditions, laid).
  DERIVED. THE GIVEN ROWS OF THIS SEAT. 8 by the template 'for every input the law returns true; each argument reads behind the call as it read before'; 0 by the template 'total and deterministic' (their statements: YtplpmelpoajpdaaTotals.lean).
  GIVEN WITH THE SEED: the statements are not yours to turn. If you find one false, say at which input.
  Laid BY PROGRAM, IN A SANDBOX (cutbox-rows.mjs): the forced cells as the released guide's own fill.sh prints them over the translation 1a77923a2835e82b… (all of the seat's roots in one cut). By AI agents, Wed Nov 11 2026. No macro, syntax, notation, axiom, sorry.
-/
import Derived.Test.YtplpmelpoajpdaaChecked
import GoSem.Claim
import GoSem.ClaimJoined
import GoSem.ClaimMapViews
import Derived.JoinedTies
import Derived.KernelRfl
namespace Go.Proofs.Ytplpmelpoajpdaa
/- THE CELL 'sum', in the pinned program and in every row, IS THE sha256 OF THE DUMP (.gsa) THAT YtplpmelpoajpdaaProg.lean LOADS. Nothing in Lean hashes anything: it is a label: what it is worth is what the hold of that sum in a sandbox is worth. -/
noncomputable def Try.pinned : Pinned := { name := "ytplpmelpoajpdaa", sum := "1a77923a2835e82b17ef30889ea81a1a1eb5413fe06692cab776914087b8c377", checked := Try.checked }
namespace Rows
def none {H : Type} : Left H := { results := [], args := [] }

/-- 'catafalquelaw18.PlaceWakes': WHATEVER THE INPUT: true; the input reads as it did. -/
def placeWakesSpec : ChangeSpec := { name := "placeWakes", fn := fun _ => fun
  | [d1, d2, d3] => { results := [.lit (.bool true)], args := [d1, d2, d3] }
  | _ => none }
def placeWakesRow : OpenClaim := { program := "ytplpmelpoajpdaa", sum := "1a77923a2835e82b17ef30889ea81a1a1eb5413fe06692cab776914087b8c377", func := "catafalque/catafalquelaw18.PlaceWakes", spec := "placeWakes", unfollowed := true, recurses := true, apart := false }
def PlaceWakesSaid : Prop := placeWakesRow.holds Try.pinned (OpenSpec.ofChange placeWakesSpec)

/-- ITS FALSE NEIGHBOUR: 'it returns false'. Refute it at one input. -/
def placeWakesWrong : ChangeSpec := { name := "placeWakes", fn := fun _ => fun
  | [d1, d2, d3] => { results := [.lit (.bool false)], args := [d1, d2, d3] }
  | _ => none }
def PlaceWakesWrongFalsely : Prop := placeWakesRow.holds Try.pinned (OpenSpec.ofChange placeWakesWrong)

/-- 'catafalquelaw18.PlaceSelf': WHATEVER THE INPUT: true; the input reads as it did. -/
def placeSelfSpec : ChangeSpec := { name := "placeSelf", fn := fun _ => fun
  | [d1, d2, d3] => { results := [.lit (.bool true)], args := [d1, d2, d3] }
  | _ => none }
def placeSelfRow : OpenClaim := { program := "ytplpmelpoajpdaa", sum := "1a77923a2835e82b17ef30889ea81a1a1eb5413fe06692cab776914087b8c377", func := "catafalque/catafalquelaw18.PlaceSelf", spec := "placeSelf", unfollowed := true, recurses := true, apart := false }
def PlaceSelfSaid : Prop := placeSelfRow.holds Try.pinned (OpenSpec.ofChange placeSelfSpec)

/-- ITS FALSE NEIGHBOUR: 'it returns false'. Refute it at one input. -/
def placeSelfWrong : ChangeSpec := { name := "placeSelf", fn := fun _ => fun
  | [d1, d2, d3] => { results := [.lit (.bool false)], args := [d1, d2, d3] }
  | _ => none }
def PlaceSelfWrongFalsely : Prop := placeSelfRow.holds Try.pinned (OpenSpec.ofChange placeSelfWrong)

/-- 'catafalquelaw17.StealTells': WHATEVER THE INPUT: true; the input reads as it did. -/
def stealTellsSpec : ChangeSpec := { name := "stealTells", fn := fun _ => fun
  | [d1, d2, d3] => { results := [.lit (.bool true)], args := [d1, d2, d3] }
  | _ => none }
def stealTellsRow : OpenClaim := { program := "ytplpmelpoajpdaa", sum := "1a77923a2835e82b17ef30889ea81a1a1eb5413fe06692cab776914087b8c377", func := "catafalque/catafalquelaw17.StealTells", spec := "stealTells", unfollowed := true, recurses := true, apart := false }
def StealTellsSaid : Prop := stealTellsRow.holds Try.pinned (OpenSpec.ofChange stealTellsSpec)

/-- ITS FALSE NEIGHBOUR: 'it returns false'. Refute it at one input. -/
def stealTellsWrong : ChangeSpec := { name := "stealTells", fn := fun _ => fun
  | [d1, d2, d3] => { results := [.lit (.bool false)], args := [d1, d2, d3] }
  | _ => none }
def StealTellsWrongFalsely : Prop := stealTellsRow.holds Try.pinned (OpenSpec.ofChange stealTellsWrong)

/-- 'catafalquelaw17.StealSome': WHATEVER THE INPUT: true; the input reads as it did. -/
def stealSomeSpec : ChangeSpec := { name := "stealSome", fn := fun _ => fun
  | [d1, d2, d3] => { results := [.lit (.bool true)], args := [d1, d2, d3] }
  | _ => none }
def stealSomeRow : OpenClaim := { program := "ytplpmelpoajpdaa", sum := "1a77923a2835e82b17ef30889ea81a1a1eb5413fe06692cab776914087b8c377", func := "catafalque/catafalquelaw17.StealSome", spec := "stealSome", unfollowed := true, recurses := true, apart := false }
def StealSomeSaid : Prop := stealSomeRow.holds Try.pinned (OpenSpec.ofChange stealSomeSpec)

/-- ITS FALSE NEIGHBOUR: 'it returns false'. Refute it at one input. -/
def stealSomeWrong : ChangeSpec := { name := "stealSome", fn := fun _ => fun
  | [d1, d2, d3] => { results := [.lit (.bool false)], args := [d1, d2, d3] }
  | _ => none }
def StealSomeWrongFalsely : Prop := stealSomeRow.holds Try.pinned (OpenSpec.ofChange stealSomeWrong)

/-- 'catafalquelaw17.StealOthers': WHATEVER THE INPUT: true; the input reads as it did. -/
def stealOthersSpec : ChangeSpec := { name := "stealOthers", fn := fun _ => fun
  | [d1, d2, d3] => { results := [.lit (.bool true)], args := [d1, d2, d3] }
  | _ => none }
def stealOthersRow : OpenClaim := { program := "ytplpmelpoajpdaa", sum := "1a77923a2835e82b17ef30889ea81a1a1eb5413fe06692cab776914087b8c377", func := "catafalque/catafalquelaw17.StealOthers", spec := "stealOthers", unfollowed := true, recurses := true, apart := false }
def StealOthersSaid : Prop := stealOthersRow.holds Try.pinned (OpenSpec.ofChange stealOthersSpec)

/-- ITS FALSE NEIGHBOUR: 'it returns false'. Refute it at one input. -/
def stealOthersWrong : ChangeSpec := { name := "stealOthers", fn := fun _ => fun
  | [d1, d2, d3] => { results := [.lit (.bool false)], args := [d1, d2, d3] }
  | _ => none }
def StealOthersWrongFalsely : Prop := stealOthersRow.holds Try.pinned (OpenSpec.ofChange stealOthersWrong)

/-- 'catafalquelaw17.StealHalf': WHATEVER THE INPUT: true; the input reads as it did. -/
def stealHalfSpec : ChangeSpec := { name := "stealHalf", fn := fun _ => fun
  | [d1, d2] => { results := [.lit (.bool true)], args := [d1, d2] }
  | _ => none }
def stealHalfRow : OpenClaim := { program := "ytplpmelpoajpdaa", sum := "1a77923a2835e82b17ef30889ea81a1a1eb5413fe06692cab776914087b8c377", func := "catafalque/catafalquelaw17.StealHalf", spec := "stealHalf", unfollowed := true, recurses := true, apart := false }
def StealHalfSaid : Prop := stealHalfRow.holds Try.pinned (OpenSpec.ofChange stealHalfSpec)

/-- ITS FALSE NEIGHBOUR: 'it returns false'. Refute it at one input. -/
def stealHalfWrong : ChangeSpec := { name := "stealHalf", fn := fun _ => fun
  | [d1, d2] => { results := [.lit (.bool false)], args := [d1, d2] }
  | _ => none }
def StealHalfWrongFalsely : Prop := stealHalfRow.holds Try.pinned (OpenSpec.ofChange stealHalfWrong)

/-- 'catafalquelaw17.StealVictims': WHATEVER THE INPUT: true; the input reads as it did. -/
def stealVictimsSpec : ChangeSpec := { name := "stealVictims", fn := fun _ => fun
  | [d1, d2] => { results := [.lit (.bool true)], args := [d1, d2] }
  | _ => none }
def stealVictimsRow : OpenClaim := { program := "ytplpmelpoajpdaa", sum := "1a77923a2835e82b17ef30889ea81a1a1eb5413fe06692cab776914087b8c377", func := "catafalque/catafalquelaw17.StealVictims", spec := "stealVictims", unfollowed := true, recurses := true, apart := false }
def StealVictimsSaid : Prop := stealVictimsRow.holds Try.pinned (OpenSpec.ofChange stealVictimsSpec)

/-- ITS FALSE NEIGHBOUR: 'it returns false'. Refute it at one input. -/
def stealVictimsWrong : ChangeSpec := { name := "stealVictims", fn := fun _ => fun
  | [d1, d2] => { results := [.lit (.bool false)], args := [d1, d2] }
  | _ => none }
def StealVictimsWrongFalsely : Prop := stealVictimsRow.holds Try.pinned (OpenSpec.ofChange stealVictimsWrong)

/-- 'catafalquelaw17.StealNear': WHATEVER THE INPUT: true; the input reads as it did. -/
def stealNearSpec : ChangeSpec := { name := "stealNear", fn := fun _ => fun
  | [d1, d2] => { results := [.lit (.bool true)], args := [d1, d2] }
  | _ => none }
def stealNearRow : OpenClaim := { program := "ytplpmelpoajpdaa", sum := "1a77923a2835e82b17ef30889ea81a1a1eb5413fe06692cab776914087b8c377", func := "catafalque/catafalquelaw17.StealNear", spec := "stealNear", unfollowed := true, recurses := true, apart := false }
def StealNearSaid : Prop := stealNearRow.holds Try.pinned (OpenSpec.ofChange stealNearSpec)

/-- ITS FALSE NEIGHBOUR: 'it returns false'. Refute it at one input. -/
def stealNearWrong : ChangeSpec := { name := "stealNear", fn := fun _ => fun
  | [d1, d2] => { results := [.lit (.bool false)], args := [d1, d2] }
  | _ => none }
def StealNearWrongFalsely : Prop := stealNearRow.holds Try.pinned (OpenSpec.ofChange stealNearWrong)

/- THE SECOND FORM. 'bulk': how many values and letters a reading holds, each counted each time it is reached (what is shared counts as often as it is met; a slice's spare places count too). A statement '..UptoSaid' is the law's where the arguments, and the package variables that the reading takes, are together of bulk at most 1048576: NARROWER than '..Said'. Prove '..Said' where nothing that the law and all that it calls make is longer than what came in: it says more and counts as full. Else prove '..UptoSaid'. A law counts once. -/
mutual
def uptoBulk {H : Type} : DataW H → Nat
  | .lit (.string bytes) => bytes.length + 1
  | .lit _ => 1
  | .nil => 1
  | .ptr d => uptoBulk d + 1
  | .slice elems spare => uptoBulkAll elems + uptoBulkAll spare + 1
  | .agg parts => uptoBulkAll parts + 1
  | .iface _ d => uptoBulk d + 1
  | .map entries => uptoBulkEntries entries + 1
  | .held _ => 1
def uptoBulkAll {H : Type} : List (DataW H) → Nat
  | [] => 0
  | d :: r => uptoBulk d + uptoBulkAll r
def uptoBulkEntries {H : Type} : List (Lit × DataW H) → Nat
  | [] => 0
  | x :: r => uptoBulkEntry x + uptoBulkEntries r
def uptoBulkEntry {H : Type} : Lit × DataW H → Nat
  | (.string bytes, d) => bytes.length + uptoBulk d + 1
  | (_, d) => uptoBulk d + 1
 end
def uptoSmall : (H : Type) → List (DataW H) → Bool := fun _ ds => decide (uptoBulkAll ds ≤ 1048576)
def OpenSpec.upto (s : _root_.Go.ChangeSpec) : _root_.Go.OpenSpec := { _root_.Go.OpenSpec.ofChange s with cond := some uptoSmall }

/-- 'catafalquelaw18.PlaceWakes', WHERE WHAT IT READS IS OF BULK AT MOST 1048576: true; the input reads as it did. -/
def placeWakesUptoRow : OpenClaim := { program := "ytplpmelpoajpdaa", sum := "1a77923a2835e82b17ef30889ea81a1a1eb5413fe06692cab776914087b8c377", func := "catafalque/catafalquelaw18.PlaceWakes", spec := "placeWakes", unfollowed := true, recurses := true, apart := false, narrowed := true }
def PlaceWakesUptoSaid : Prop := placeWakesUptoRow.holds Try.pinned (OpenSpec.upto placeWakesSpec)

/-- 'catafalquelaw18.PlaceSelf', WHERE WHAT IT READS IS OF BULK AT MOST 1048576: true; the input reads as it did. -/
def placeSelfUptoRow : OpenClaim := { program := "ytplpmelpoajpdaa", sum := "1a77923a2835e82b17ef30889ea81a1a1eb5413fe06692cab776914087b8c377", func := "catafalque/catafalquelaw18.PlaceSelf", spec := "placeSelf", unfollowed := true, recurses := true, apart := false, narrowed := true }
def PlaceSelfUptoSaid : Prop := placeSelfUptoRow.holds Try.pinned (OpenSpec.upto placeSelfSpec)

/-- 'catafalquelaw17.StealTells', WHERE WHAT IT READS IS OF BULK AT MOST 1048576: true; the input reads as it did. -/
def stealTellsUptoRow : OpenClaim := { program := "ytplpmelpoajpdaa", sum := "1a77923a2835e82b17ef30889ea81a1a1eb5413fe06692cab776914087b8c377", func := "catafalque/catafalquelaw17.StealTells", spec := "stealTells", unfollowed := true, recurses := true, apart := false, narrowed := true }
def StealTellsUptoSaid : Prop := stealTellsUptoRow.holds Try.pinned (OpenSpec.upto stealTellsSpec)

/-- 'catafalquelaw17.StealSome', WHERE WHAT IT READS IS OF BULK AT MOST 1048576: true; the input reads as it did. -/
def stealSomeUptoRow : OpenClaim := { program := "ytplpmelpoajpdaa", sum := "1a77923a2835e82b17ef30889ea81a1a1eb5413fe06692cab776914087b8c377", func := "catafalque/catafalquelaw17.StealSome", spec := "stealSome", unfollowed := true, recurses := true, apart := false, narrowed := true }
def StealSomeUptoSaid : Prop := stealSomeUptoRow.holds Try.pinned (OpenSpec.upto stealSomeSpec)

/-- 'catafalquelaw17.StealOthers', WHERE WHAT IT READS IS OF BULK AT MOST 1048576: true; the input reads as it did. -/
def stealOthersUptoRow : OpenClaim := { program := "ytplpmelpoajpdaa", sum := "1a77923a2835e82b17ef30889ea81a1a1eb5413fe06692cab776914087b8c377", func := "catafalque/catafalquelaw17.StealOthers", spec := "stealOthers", unfollowed := true, recurses := true, apart := false, narrowed := true }
def StealOthersUptoSaid : Prop := stealOthersUptoRow.holds Try.pinned (OpenSpec.upto stealOthersSpec)

/-- 'catafalquelaw17.StealHalf', WHERE WHAT IT READS IS OF BULK AT MOST 1048576: true; the input reads as it did. -/
def stealHalfUptoRow : OpenClaim := { program := "ytplpmelpoajpdaa", sum := "1a77923a2835e82b17ef30889ea81a1a1eb5413fe06692cab776914087b8c377", func := "catafalque/catafalquelaw17.StealHalf", spec := "stealHalf", unfollowed := true, recurses := true, apart := false, narrowed := true }
def StealHalfUptoSaid : Prop := stealHalfUptoRow.holds Try.pinned (OpenSpec.upto stealHalfSpec)

/-- 'catafalquelaw17.StealVictims', WHERE WHAT IT READS IS OF BULK AT MOST 1048576: true; the input reads as it did. -/
def stealVictimsUptoRow : OpenClaim := { program := "ytplpmelpoajpdaa", sum := "1a77923a2835e82b17ef30889ea81a1a1eb5413fe06692cab776914087b8c377", func := "catafalque/catafalquelaw17.StealVictims", spec := "stealVictims", unfollowed := true, recurses := true, apart := false, narrowed := true }
def StealVictimsUptoSaid : Prop := stealVictimsUptoRow.holds Try.pinned (OpenSpec.upto stealVictimsSpec)

/-- 'catafalquelaw17.StealNear', WHERE WHAT IT READS IS OF BULK AT MOST 1048576: true; the input reads as it did. -/
def stealNearUptoRow : OpenClaim := { program := "ytplpmelpoajpdaa", sum := "1a77923a2835e82b17ef30889ea81a1a1eb5413fe06692cab776914087b8c377", func := "catafalque/catafalquelaw17.StealNear", spec := "stealNear", unfollowed := true, recurses := true, apart := false, narrowed := true }
def StealNearUptoSaid : Prop := stealNearUptoRow.holds Try.pinned (OpenSpec.upto stealNearSpec)

end Rows
end Go.Proofs.Ytplpmelpoajpdaa
