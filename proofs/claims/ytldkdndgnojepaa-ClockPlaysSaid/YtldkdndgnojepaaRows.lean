/-
  No cell of these rows narrows 'for every input' (looked for: loops, veiled, ifaces, maps, wideKeys, modest, calm, conditions, laid).
  DERIVED. THE GIVEN ROWS OF THIS SEAT. 6 by the template 'for every input the law returns true; each argument reads behind the call as it read before'; 0 by the template 'total and deterministic' (their statements: YtldkdndgnojepaaTotals.lean).
  GIVEN WITH THE SEED: the statements are not yours to turn. If you find one false, say at which input.
  Laid BY PROGRAM, IN A SANDBOX (cutbox-rows.mjs): the forced cells as the released guide's own fill.sh prints them over the translation dfdd70978fc190c8… (all of the seat's roots in one cut). By AI agents, Wed Nov 11 2026. No macro, syntax, notation, axiom, sorry.
-/
import Derived.Test.YtldkdndgnojepaaChecked
import GoSem.Claim
import GoSem.ClaimJoined
import GoSem.ClaimMapViews
import Derived.JoinedTies
import Derived.KernelRfl
namespace Go.Proofs.Ytldkdndgnojepaa
/- THE CELL 'sum', in the pinned program and in every row, IS THE sha256 OF THE DUMP (.gsa) THAT YtldkdndgnojepaaProg.lean LOADS. Nothing in Lean hashes anything: it is a label: what it is worth is what the hold of that sum in a sandbox is worth. -/
noncomputable def Try.pinned : Pinned := { name := "ytldkdndgnojepaa", sum := "dfdd70978fc190c81552d3f8838091e91af8fa021cb7e99ceee18c2bb191d2f2", checked := Try.checked }
namespace Rows
def none {H : Type} : Left H := { results := [], args := [] }

/-- 'catafalquelaw13.ClockTwo': WHATEVER THE INPUT: true; the input reads as it did. -/
def clockTwoSpec : ChangeSpec := { name := "clockTwo", fn := fun _ => fun
  | [d1, d2, d3] => { results := [.lit (.bool true)], args := [d1, d2, d3] }
  | _ => none }
def clockTwoRow : OpenClaim := { program := "ytldkdndgnojepaa", sum := "dfdd70978fc190c81552d3f8838091e91af8fa021cb7e99ceee18c2bb191d2f2", func := "catafalque/catafalquelaw13.ClockTwo", spec := "clockTwo", unfollowed := true, recurses := true, apart := false }
def ClockTwoSaid : Prop := clockTwoRow.holds Try.pinned (OpenSpec.ofChange clockTwoSpec)

/-- ITS FALSE NEIGHBOUR: 'it returns false'. Refute it at one input. -/
def clockTwoWrong : ChangeSpec := { name := "clockTwo", fn := fun _ => fun
  | [d1, d2, d3] => { results := [.lit (.bool false)], args := [d1, d2, d3] }
  | _ => none }
def ClockTwoWrongFalsely : Prop := clockTwoRow.holds Try.pinned (OpenSpec.ofChange clockTwoWrong)

/-- 'catafalquelaw13.ClockWakes': WHATEVER THE INPUT: true; the input reads as it did. -/
def clockWakesSpec : ChangeSpec := { name := "clockWakes", fn := fun _ => fun
  | [d1, d2] => { results := [.lit (.bool true)], args := [d1, d2] }
  | _ => none }
def clockWakesRow : OpenClaim := { program := "ytldkdndgnojepaa", sum := "dfdd70978fc190c81552d3f8838091e91af8fa021cb7e99ceee18c2bb191d2f2", func := "catafalque/catafalquelaw13.ClockWakes", spec := "clockWakes", unfollowed := true, recurses := true, apart := false }
def ClockWakesSaid : Prop := clockWakesRow.holds Try.pinned (OpenSpec.ofChange clockWakesSpec)

/-- ITS FALSE NEIGHBOUR: 'it returns false'. Refute it at one input. -/
def clockWakesWrong : ChangeSpec := { name := "clockWakes", fn := fun _ => fun
  | [d1, d2] => { results := [.lit (.bool false)], args := [d1, d2] }
  | _ => none }
def ClockWakesWrongFalsely : Prop := clockWakesRow.holds Try.pinned (OpenSpec.ofChange clockWakesWrong)

/-- 'catafalquelaw13.ClockSums': WHATEVER THE INPUT: true; the input reads as it did. -/
def clockSumsSpec : ChangeSpec := { name := "clockSums", fn := fun _ => fun
  | [d1, d2] => { results := [.lit (.bool true)], args := [d1, d2] }
  | _ => none }
def clockSumsRow : OpenClaim := { program := "ytldkdndgnojepaa", sum := "dfdd70978fc190c81552d3f8838091e91af8fa021cb7e99ceee18c2bb191d2f2", func := "catafalque/catafalquelaw13.ClockSums", spec := "clockSums", unfollowed := true, recurses := true, apart := false }
def ClockSumsSaid : Prop := clockSumsRow.holds Try.pinned (OpenSpec.ofChange clockSumsSpec)

/-- ITS FALSE NEIGHBOUR: 'it returns false'. Refute it at one input. -/
def clockSumsWrong : ChangeSpec := { name := "clockSums", fn := fun _ => fun
  | [d1, d2] => { results := [.lit (.bool false)], args := [d1, d2] }
  | _ => none }
def ClockSumsWrongFalsely : Prop := clockSumsRow.holds Try.pinned (OpenSpec.ofChange clockSumsWrong)

/-- 'catafalquelaw13.ClockPlays': WHATEVER THE INPUT: true; the input reads as it did. -/
def clockPlaysSpec : ChangeSpec := { name := "clockPlays", fn := fun _ => fun
  | [d] => { results := [.lit (.bool true)], args := [d] }
  | _ => none }
def clockPlaysRow : OpenClaim := { program := "ytldkdndgnojepaa", sum := "dfdd70978fc190c81552d3f8838091e91af8fa021cb7e99ceee18c2bb191d2f2", func := "catafalque/catafalquelaw13.ClockPlays", spec := "clockPlays", unfollowed := true, recurses := true, apart := false }
def ClockPlaysSaid : Prop := clockPlaysRow.holds Try.pinned (OpenSpec.ofChange clockPlaysSpec)

/-- ITS FALSE NEIGHBOUR: 'it returns false'. Refute it at one input. -/
def clockPlaysWrong : ChangeSpec := { name := "clockPlays", fn := fun _ => fun
  | [d] => { results := [.lit (.bool false)], args := [d] }
  | _ => none }
def ClockPlaysWrongFalsely : Prop := clockPlaysRow.holds Try.pinned (OpenSpec.ofChange clockPlaysWrong)

/-- 'catafalquelaw13.ClockOver': WHATEVER THE INPUT: true; the input reads as it did. -/
def clockOverSpec : ChangeSpec := { name := "clockOver", fn := fun _ => fun
  | [d1, d2] => { results := [.lit (.bool true)], args := [d1, d2] }
  | _ => none }
def clockOverRow : OpenClaim := { program := "ytldkdndgnojepaa", sum := "dfdd70978fc190c81552d3f8838091e91af8fa021cb7e99ceee18c2bb191d2f2", func := "catafalque/catafalquelaw13.ClockOver", spec := "clockOver", unfollowed := true, recurses := true, apart := false }
def ClockOverSaid : Prop := clockOverRow.holds Try.pinned (OpenSpec.ofChange clockOverSpec)

/-- ITS FALSE NEIGHBOUR: 'it returns false'. Refute it at one input. -/
def clockOverWrong : ChangeSpec := { name := "clockOver", fn := fun _ => fun
  | [d1, d2] => { results := [.lit (.bool false)], args := [d1, d2] }
  | _ => none }
def ClockOverWrongFalsely : Prop := clockOverRow.holds Try.pinned (OpenSpec.ofChange clockOverWrong)

/-- 'catafalquelaw13.ClockStill': WHATEVER THE INPUT: true; the input reads as it did. -/
def clockStillSpec : ChangeSpec := { name := "clockStill", fn := fun _ => fun
  | [d1, d2, d3] => { results := [.lit (.bool true)], args := [d1, d2, d3] }
  | _ => none }
def clockStillRow : OpenClaim := { program := "ytldkdndgnojepaa", sum := "dfdd70978fc190c81552d3f8838091e91af8fa021cb7e99ceee18c2bb191d2f2", func := "catafalque/catafalquelaw13.ClockStill", spec := "clockStill", unfollowed := true, recurses := true, apart := false }
def ClockStillSaid : Prop := clockStillRow.holds Try.pinned (OpenSpec.ofChange clockStillSpec)

/-- ITS FALSE NEIGHBOUR: 'it returns false'. Refute it at one input. -/
def clockStillWrong : ChangeSpec := { name := "clockStill", fn := fun _ => fun
  | [d1, d2, d3] => { results := [.lit (.bool false)], args := [d1, d2, d3] }
  | _ => none }
def ClockStillWrongFalsely : Prop := clockStillRow.holds Try.pinned (OpenSpec.ofChange clockStillWrong)

/- THE SECOND FORM. 'bulk': how many values and letters a reading holds, each counted each time it is reached (what is shared counts as often as it is met; a slice's spare places count too). A statement '..UptoSaid' is the law's where the arguments, and the package variables that the reading takes, are together of bulk at most 1048576: NARROWER than '..Said'. Prove '..Said' where nothing that the law and all that it calls make is longer than what came in: it says more and counts as full. Else prove '..UptoSaid'. A law counts once. -/
mutual
def uptoBulk {H : Type} : DataW H → Nat
  | .lit (.string bytes) => bytes.length + 1
  | .lit _ => 1
  | .nil => 1
  | .ptr d => uptoBulk d + 1
  | .slice elems spare => uptoBulkAll elems + uptoBulkAll spare + 1
  | .agg parts => uptoBulkAll parts + 1
  | .iface _ d => uptoBulk d + 1
  | .map entries => uptoBulkEntries entries + 1
  | .held _ => 1
def uptoBulkAll {H : Type} : List (DataW H) → Nat
  | [] => 0
  | d :: r => uptoBulk d + uptoBulkAll r
def uptoBulkEntries {H : Type} : List (Lit × DataW H) → Nat
  | [] => 0
  | x :: r => uptoBulkEntry x + uptoBulkEntries r
def uptoBulkEntry {H : Type} : Lit × DataW H → Nat
  | (.string bytes, d) => bytes.length + uptoBulk d + 1
  | (_, d) => uptoBulk d + 1
 end
def uptoSmall : (H : Type) → List (DataW H) → Bool := fun _ ds => decide (uptoBulkAll ds ≤ 1048576)
def OpenSpec.upto (s : _root_.Go.ChangeSpec) : _root_.Go.OpenSpec := { _root_.Go.OpenSpec.ofChange s with cond := some uptoSmall }

/-- 'catafalquelaw13.ClockTwo', WHERE WHAT IT READS IS OF BULK AT MOST 1048576: true; the input reads as it did. -/
def clockTwoUptoRow : OpenClaim := { program := "ytldkdndgnojepaa", sum := "dfdd70978fc190c81552d3f8838091e91af8fa021cb7e99ceee18c2bb191d2f2", func := "catafalque/catafalquelaw13.ClockTwo", spec := "clockTwo", unfollowed := true, recurses := true, apart := false, narrowed := true }
def ClockTwoUptoSaid : Prop := clockTwoUptoRow.holds Try.pinned (OpenSpec.upto clockTwoSpec)

/-- 'catafalquelaw13.ClockWakes', WHERE WHAT IT READS IS OF BULK AT MOST 1048576: true; the input reads as it did. -/
def clockWakesUptoRow : OpenClaim := { program := "ytldkdndgnojepaa", sum := "dfdd70978fc190c81552d3f8838091e91af8fa021cb7e99ceee18c2bb191d2f2", func := "catafalque/catafalquelaw13.ClockWakes", spec := "clockWakes", unfollowed := true, recurses := true, apart := false, narrowed := true }
def ClockWakesUptoSaid : Prop := clockWakesUptoRow.holds Try.pinned (OpenSpec.upto clockWakesSpec)

/-- 'catafalquelaw13.ClockSums', WHERE WHAT IT READS IS OF BULK AT MOST 1048576: true; the input reads as it did. -/
def clockSumsUptoRow : OpenClaim := { program := "ytldkdndgnojepaa", sum := "dfdd70978fc190c81552d3f8838091e91af8fa021cb7e99ceee18c2bb191d2f2", func := "catafalque/catafalquelaw13.ClockSums", spec := "clockSums", unfollowed := true, recurses := true, apart := false, narrowed := true }
def ClockSumsUptoSaid : Prop := clockSumsUptoRow.holds Try.pinned (OpenSpec.upto clockSumsSpec)

/-- 'catafalquelaw13.ClockPlays', WHERE WHAT IT READS IS OF BULK AT MOST 1048576: true; the input reads as it did. -/
def clockPlaysUptoRow : OpenClaim := { program := "ytldkdndgnojepaa", sum := "dfdd70978fc190c81552d3f8838091e91af8fa021cb7e99ceee18c2bb191d2f2", func := "catafalque/catafalquelaw13.ClockPlays", spec := "clockPlays", unfollowed := true, recurses := true, apart := false, narrowed := true }
def ClockPlaysUptoSaid : Prop := clockPlaysUptoRow.holds Try.pinned (OpenSpec.upto clockPlaysSpec)

/-- 'catafalquelaw13.ClockOver', WHERE WHAT IT READS IS OF BULK AT MOST 1048576: true; the input reads as it did. -/
def clockOverUptoRow : OpenClaim := { program := "ytldkdndgnojepaa", sum := "dfdd70978fc190c81552d3f8838091e91af8fa021cb7e99ceee18c2bb191d2f2", func := "catafalque/catafalquelaw13.ClockOver", spec := "clockOver", unfollowed := true, recurses := true, apart := false, narrowed := true }
def ClockOverUptoSaid : Prop := clockOverUptoRow.holds Try.pinned (OpenSpec.upto clockOverSpec)

/-- 'catafalquelaw13.ClockStill', WHERE WHAT IT READS IS OF BULK AT MOST 1048576: true; the input reads as it did. -/
def clockStillUptoRow : OpenClaim := { program := "ytldkdndgnojepaa", sum := "dfdd70978fc190c81552d3f8838091e91af8fa021cb7e99ceee18c2bb191d2f2", func := "catafalque/catafalquelaw13.ClockStill", spec := "clockStill", unfollowed := true, recurses := true, apart := false, narrowed := true }
def ClockStillUptoSaid : Prop := clockStillUptoRow.holds Try.pinned (OpenSpec.upto clockStillSpec)

end Rows
end Go.Proofs.Ytldkdndgnojepaa
