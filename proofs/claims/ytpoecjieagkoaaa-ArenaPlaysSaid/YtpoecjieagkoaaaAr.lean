/- Arena: what its methods answer, and what they do to its memory. No condition. -/
import Derived.Test.YtpoecjieagkoaaaProg
import Derived.Test.YtpoecjieagkoaaaWWords
import Derived.Test.YtpoecjieagkoaaaWLast
import Derived.Test.YtpoecjieagkoaaaWMore
import Derived.MapFrom
import Derived.Maps.Own
import Derived.Deep.RegionHeld3
import Derived.Outline
namespace Go.Proofs.Ytpoecjieagkoaaa.Arena
open Go Go.ChangeMaps Go.RowKit Go.Proofs.YtpoecjieagkoaaaW.PrintWords Go.Proofs.YtpoecjieagkoaaaW.PrintLast Go.Proofs.YtpoecjieagkoaaaW.PrintMore
set_option linter.unusedVariables false
set_option linter.unusedSimpArgs false

/-- An entry of a map[int]bool that holds true. -/
def ent (p : Int × Nat) : MapEntry := { key := .int .i64 p.1, val := .bool true, born := p.2 }
def ents (l : List (Int × Nat)) : Array MapEntry := (l.map ent).toArray
def has (l : List (Int × Nat)) (g : Int) : Bool := l.any fun p => p.1 == g

theorem findNow_ents (g : Int) : ∀ (l : List (Int × Nat)) (i : Nat), Instr.findNow (.int .i64) (.int .i64 g) (l.map ent) i = some (if has l g then some (i + l.findIdx (fun p => p.1 == g), .bool true) else none)
  | [], i => rfl
  | p :: l, i => by
    have h := findNow_ents g l (i + 1)
    simp only [List.map_cons, Instr.findNow, ent, Instr.sameNow, if_true]
    by_cases hp : p.1 = g
    · subst hp
      simp [has, List.findIdx_cons]
    · have h1 : (g == p.1) = false := beq_eq_false_iff_ne.mpr (fun e => hp e.symm)
      have h2 : (p.1 == g) = false := beq_eq_false_iff_ne.mpr hp
      have h3 : has (p :: l) g = has l g := by simp [has, h2]
      rw [h1]
      simp only
      rw [h, h3, List.findIdx_cons, h2]
      cases has l g with
      | true => simp; omega
      | false => rfl
theorem under49 : Try.prog.underlying 49 = some (.map 3 4) := by kernel_rfl
theorem under3 : Try.prog.underlying 3 = some (.int .i64) := by kernel_rfl
theorem lookup_ents {w : World} {r c : Nat} {l : List (Int × Nat)} (hb : w.heap[r]? = some (.map (ents l) c)) (g : Int) : (Instr.lookup 49 (.map (some r)) (.int .i64 g) false).run Try.prog w = .ok (.bool (has l g)) w := by
  have hk : MapKept.IsKey (.int .i64) (.int .i64 g) := by simp [MapKept.IsKey]
  have hz : (zeroValue 4).run Try.prog w = .ok (.bool false) w := by kernel_rfl
  have hf := findNow_ents g l 0
  have hf' : Instr.findNow (.int .i64) (.int .i64 g) (ents l).toList 0 = some (if has l g then some (0 + l.findIdx (fun p => p.1 == g), .bool true) else none) := by simpa [ents] using hf
  cases hh : has l g with
  | true =>
    rw [hh, if_pos rfl] at hf'
    simp [Instr.lookup, run_underlying under49, MapKept.run_getObj_map hb, MapKept.run_checkKey under3 hk, MapKept.run_findKey under3 hf', Result.andThen]
  | false =>
    rw [hh, if_neg (by decide)] at hf'
    simp [Instr.lookup, run_underlying under49, MapKept.run_getObj_map hb, MapKept.run_checkKey under3 hk, MapKept.run_findKey under3 hf', hz, Result.andThen]
def del (l : List (Int × Nat)) (g : Int) : List (Int × Nat) := l.eraseIdx (l.findIdx fun p => p.1 == g)
theorem update_ents {w : World} {r c : Nat} {l : List (Int × Nat)} (hb : w.heap[r]? = some (.map (ents l) c)) (g : Int) (hn : has l g = false) :
    (Instr.mapUpdate 49 (.map (some r)) (.int .i64 g) (.bool true)).run Try.prog w = .ok () (setBlock w r (.map (ents (l ++ [(g, c)])) (c + 1))) := by
  have hk : MapKept.IsKey (.int .i64) (.int .i64 g) := by simp [MapKept.IsKey]
  have hf : Instr.findNow (.int .i64) (.int .i64 g) (ents l).toList 0 = some none := by simpa [ents, hn] using findNow_ents g l 0
  have he : (ents l).push { key := .int .i64 g, val := .bool true, born := c } = ents (l ++ [(g, c)]) := by simp [ents, ent]
  simp [Instr.mapUpdate, run_underlying under49, MapKept.run_getObj_map hb, MapKept.run_checkKey under3 hk, MapKept.run_findKey under3 hf, MapKept.run_setObj_map _ hb, Result.andThen, he, setBlock]
theorem delete_ents {w : World} {r c : Nat} {l : List (Int × Nat)} (hb : w.heap[r]? = some (.map (ents l) c)) (g : Int) (hn : has l g = true) :
    (Builtin.delete_ #[49, 3] 0 #[.map (some r), .int .i64 g]).run Try.prog w = .ok (.tuple #[]) (setBlock w r (.map (ents (del l g)) c)) := by
  have hk : MapKept.IsKey (.int .i64) (.int .i64 g) := by simp [MapKept.IsKey]
  have hf : Instr.findNow (.int .i64) (.int .i64 g) (ents l).toList 0 = some (some (0 + l.findIdx (fun p => p.1 == g), .bool true)) := by simpa [ents, hn] using findNow_ents g l 0
  have hlt : l.findIdx (fun p => p.1 == g) < l.length := List.findIdx_lt_length.mpr (by simpa [has] using hn)
  have he : (ents l).eraseIdxIfInBounds (l.findIdx (fun p => p.1 == g)) = ents (del l g) := by
    apply Array.ext'
    simp [ents, del, Array.eraseIdxIfInBounds, hlt, map_eraseIdx]
  simp [Builtin.delete_, run_underlying under49, MapKept.run_getObj_map hb, MapKept.run_checkKey under3 hk, MapKept.run_findKey under3 hf, MapKept.run_setObj_map _ hb, Result.andThen, he, setBlock]
end Go.Proofs.Ytpoecjieagkoaaa.Arena
