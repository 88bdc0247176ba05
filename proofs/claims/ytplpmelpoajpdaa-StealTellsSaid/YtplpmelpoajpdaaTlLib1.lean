/- Structs put together. No condition. -/
import Derived.Orders
import Derived.Below
import Derived.Laws.AppendOwn
import Derived.Laws.StructEq
namespace Go.Proofs.Ytplpmelpoajpdaa.Ev
open Go
set_option linter.unusedVariables false
set_option linter.unusedSimpArgs false
/-- Who may append to a slice: nobody; it is nil; it has no room behind it; the chain of that number; nobody, and it is not nil. -/
inductive Tok where
  | no | nil | full
  | own (n : Nat)
  | sm
  deriving DecidableEq, Inhabited
/-- A value: plain; a struct's cells; several results; a slice as a list; the address of cells that nobody writes; a place in an object; a function; nothing known; the first elements of a row that is written; a place in such an element; a map; a part of such a row; data in an interface. -/
inductive AV where
  | v (x : Value)
  | agg (cs : List AV)
  | tup (l : List AV)
  | sl (o : Tok) (l : List AV)
  | ea (cs : List AV)
  | ptr (id off : Nat)
  | fn (f : FuncId) (cap : List AV)
  | dead
  | ms (id ver n : Nat)
  | ep (id ver i off : Nat)
  | mp (id : Nat)
  | mo (id ver k a h : Nat)
  | ifc (t : TypeId) (x : AV)
  deriving Inhabited
/-- An object: cells (d: they hold no address of an object); a row of elements of type e, of k cells each, that has grown ver times; a map by whole numbers; a string that is read; nothing any more. -/
inductive Ob where
  | var (d : Bool) (cs : List AV)
  | row (d : Bool) (ver k : Nat) (e : TypeId) (l : List AV)
  | map (es : List (Int × AV))
  | iter (s : ByteArray) (pos : Nat)
  | dead
  deriving Inhabited
def Ob.live : Ob → Bool
  | .dead => false
  | _ => true
abbrev Obs := List Ob
abbrev Toks := List (Option TypeId)
structure St where
  fr : List AV
  S : Obs
  T : Toks
  deriving Inhabited
def AV.cells : AV → List AV
  | .agg cs => cs
  | x => [x]
def plainV : Value → Bool
  | .bool _ => true
  | .int _ _ => true
  | .string _ => true
  | .pointer none => true
  | .nilFunc => true
  | .nilIface => true
  | .map none => true
  | _ => false
def toAV0 : Value → AV
  | .bool b => .v (.bool b)
  | .int k n => .v (.int k n)
  | .string s => .v (.string s)
  | .pointer none => .v (.pointer none)
  | .nilFunc => .v .nilFunc
  | .nilIface => .v .nilIface
  | .map none => .v (.map none)
  | .slice none 0 0 => .sl .nil []
  | .func (.func f) a b => if a.size = 0 ∧ b.size = 0 then .fn f [] else .dead
  | _ => .dead
def toAV : Value → AV
  | .agg cs => .agg (cs.toList.map toAV0)
  | .tuple cs => if cs.size = 0 then .tup [] else .dead
  | x => toAV0 x
def opd (fr : List AV) : Operand → AV
  | .tmp t => fr.getD t .dead
  | .const x => toAV x
  | .global _ => .dead
  | .func f => .fn f []
/-- Without the right to append. -/
def s0 : AV → AV
  | .sl _ l => .sl .no l
  | x => x
def s1 : AV → AV
  | .fn f c => .fn f (c.map s0)
  | x => s0 x
def s2 : AV → AV
  | .agg cs => .agg (cs.map s1)
  | x => s1 x
def s3 : AV → AV
  | .tup l => .tup (l.map s2)
  | x => s2 x
/-- Without the right to append to a chain. -/
def t0 : AV → AV
  | .sl (.own _) l => .sl .no l
  | x => x
def t1 : AV → AV
  | .fn f c => .fn f (c.map t0)
  | x => t0 x
def t2 : AV → AV
  | .agg cs => .agg (cs.map t1)
  | x => t1 x
def t3 : AV → AV
  | .tup l => .tup (l.map t2)
  | x => t2 x
/-- Does a variable keep the right to append of what is laid into it? (where a function has objects of its own alone) -/
class TVm where
  tv : Bool
@[reducible] def offTV : TVm := ⟨false⟩
@[reducible] def onTV : TVm := ⟨true⟩
def cellsT [TVm] (cs : List AV) : List AV := if TVm.tv = true then cs else cs.map t1
/-- No address of an object. -/
def d0 : AV → Bool
  | .v _ => true
  | .sl _ _ => true
  | .ea _ => true
  | .ifc _ _ => true
  | _ => false
def d1 : AV → Bool
  | .fn _ c => c.all d0
  | x => d0 x
def d2 : AV → Bool
  | .agg cs => cs.all d1
  | x => d1 x
def d3 : AV → Bool
  | .tup l => l.all d2
  | x => d2 x
/-- The value of one cell. -/
def one : AV → Bool
  | .v _ => true
  | .sl _ _ => true
  | .ea _ => true
  | .ptr _ _ => true
  | .fn _ _ => true
  | .ms _ _ _ => true
  | .ep _ _ _ _ => true
  | .mp _ => true
  | .mo _ _ _ _ _ => true
  | .ifc _ _ => true
  | _ => false
/-- What a function may have caught: one cell, and no function. -/
def capOk : AV → Bool
  | .fn _ _ => false
  | x => one x
def tsz (P : Program) (t : TypeId) : Option Nat := (P.info? t).map (·.size)
def tby (P : Program) (t : TypeId) : Option Nat := (P.info? t).map (·.bytes)
def tagg (P : Program) (t : TypeId) : Option Bool := match P.underlying t with
  | some (.struct _) => some true
  | some (.array _ _) => some true
  | some _ => some false
  | none => none
def tzero (P : Program) (t : TypeId) : Option (List AV) := (P.info? t).bind fun i => i.zero.map fun z => z.cells.toList.map toAV0
def tel (P : Program) (t : TypeId) : Option TypeId := match P.underlying t with
  | some (.slice e) => some e
  | _ => none
/-- A field: its place, its size, whether it is a struct or an array. -/
def fld (P : Program) (t : TypeId) (i : Nat) : Option (Nat × Nat × Bool) := match P.underlying t with
  | some (.struct fs) => match fs[i]? with
    | some f => match tsz P f.type, tagg P f.type with
      | some n, some a => some (f.offset, n, a)
      | _, _ => none
    | none => none
  | _ => none
/-- An array: how many, and an element's size, and whether that is a struct or an array. -/
def arr (P : Program) (t : TypeId) : Option (Nat × Nat × Bool) := match P.underlying t with
  | some (.array n e) => match tsz P e, tagg P e with
    | some k, some a => some (n, k, a)
    | _, _ => none
  | _ => none
def splice (l : List AV) (o : Nat) (m : List AV) : List AV := l.take o ++ (m ++ l.drop (o + m.length))
/-- Each element has n cells. -/
def uni (n : Nat) (l : List AV) : Bool := l.all fun e => e.cells.length == n
/-- The elements of a row that is as it was. -/
def rowA (S : Obs) (id ver : Nat) : Option (Bool × Nat × TypeId × List AV) := match S[id]? with
  | some (.row d v k e l) => if v = ver then some (d, k, e, l) else none
  | _ => none
def rdc (S : Obs) : AV → Nat → Option (List AV)
  | .ea cs, n => if n ≤ cs.length then some ((cs.take n).map s1) else none
  | .ptr id off, n => match S[id]? with
    | some (.var _ cs) => if off + n ≤ cs.length then some ((cs.drop off).take n) else none
    | _ => none
  | .ep id ver i off, n => match rowA S id ver with
    | some (_, _, _, l) => match l[i]? with
      | some x => if off + n ≤ x.cells.length then some ((x.cells.drop off).take n) else none
      | none => none
    | none => none
  | _, _ => none
def ofC : Bool → List AV → Option AV
  | true, cs => some (.agg cs)
  | false, [x] => if one x = true then some x else none
  | false, _ => none
/-- A row that nobody writes any more, as a list (of those from n0 on). -/
def fz0 (S : Obs) (n0 : Nat) : AV → AV
  | .ms id ver n => if n0 ≤ id then (match rowA S id ver with
    | some (true, _, _, l) => if n ≤ l.length then .sl .no (l.take n) else .ms id ver n
    | _ => .ms id ver n) else .ms id ver n
  | x => x
def fz2 (S : Obs) (n0 : Nat) : AV → AV
  | .agg cs => .agg (cs.map (fz0 S n0))
  | x => fz0 S n0 x
def fz3 (S : Obs) (n0 : Nat) : AV → AV
  | .tup l => .tup (l.map (fz2 S n0))
  | x => fz2 S n0 x
/-- The objects without the rows that were handed over. -/
def killA (S : Obs) : AV → Obs
  | .ms id _ _ => S.set id .dead
  | _ => S
def killL : List AV → Obs → Obs
  | [], S => S
  | a :: l, S => killL l (killA S a)
def isMs (id : Nat) : AV → Bool
  | .ms i _ _ => i == id
  | _ => false
/-- No row twice. -/
def msNd : List AV → Bool
  | [] => true
  | a :: l => (match a with
    | .ms id _ _ => !l.any (isMs id)
    | _ => true) && msNd l
def ofCells : AV → List AV → AV
  | .agg _, cs => .agg cs
  | _, cs => cs.getD 0 .dead
def wrc [TVm] (S : Obs) (a : AV) (cs : List AV) : Option Obs := match a with
  | .ptr id off => match S[id]? with
    | some (.var d c) => if off + cs.length ≤ c.length ∧ (cs.all one && (!d || cs.all d1)) = true then some (S.set id (.var d (splice c off (cellsT cs)))) else none
    | _ => none
  | .ep id ver i off => match S[id]? with
    | some (.row d v k e l) => match l[i]? with
      | some x => if v = ver ∧ off + cs.length ≤ x.cells.length ∧ (cs.all one && (cs.map (fz0 S 0)).all d1 && !cs.any (isMs id) && msNd cs) = true then some ((killL cs S).set id (.row d v k e (l.set i (ofCells x (splice x.cells off ((cs.map (fz0 S 0)).map s1)))))) else none
      | none => none
    | _ => none
  | _ => none
def intA (op : BinOp) (k : IntKind) (a b : Int) : Option Value := match op with
  | .add => some (.int k (k.wrap (a + b)))
  | .sub => some (.int k (k.wrap (a - b)))
  | .mul => some (.int k (k.wrap (a * b)))
  | .quo => if b = 0 then none else some (.int k (k.wrap (a.tdiv b)))
  | .rem => if b = 0 then none else some (.int k (a.tmod b))
  | .and => some (.int k (k.wrap (BitVec.ofInt k.bits a &&& BitVec.ofInt k.bits b).toNat))
  | .or => some (.int k (k.wrap (BitVec.ofInt k.bits a ||| BitVec.ofInt k.bits b).toNat))
  | .xor => some (.int k (k.wrap (BitVec.ofInt k.bits a ^^^ BitVec.ofInt k.bits b).toNat))
  | .andNot => some (.int k (k.wrap (BitVec.ofInt k.bits a &&& ~~~BitVec.ofInt k.bits b).toNat))
  | .eql => some (.bool (a == b))
  | .neq => some (.bool (a != b))
  | .lss => some (.bool (decide (a < b)))
  | .leq => some (.bool (decide (a ≤ b)))
  | .gtr => some (.bool (decide (a > b)))
  | .geq => some (.bool (decide (a ≥ b)))
  | _ => none
def shA (op : BinOp) (k : IntKind) (a b : Int) : Option Value :=
  if b < 0 then none else match op with
  | .shl => some (.int k (k.wrap (a * 2 ^ (min b.toNat k.bits))))
  | .shr => some (.int k (a.fdiv (2 ^ (min b.toNat k.bits))))
  | _ => none
def strA (op : BinOp) (a b : ByteArray) : Option Value := match op with
  | .add => if ((a.size + b.size : Nat) : Int) > IntKind.i64.max then none else some (.string (a ++ b))
  | .eql => some (.bool (a.toList == b.toList))
  | .neq => some (.bool (!(a.toList == b.toList)))
  | .lss => some (.bool (Op.bytesLess a.toList b.toList))
  | .leq => some (.bool (Op.bytesLess a.toList b.toList || a.toList == b.toList))
  | .gtr => some (.bool (!(Op.bytesLess a.toList b.toList || a.toList == b.toList)))
  | .geq => some (.bool (!Op.bytesLess a.toList b.toList))
  | _ => none
def eqFs (P : Program) (r : TypeId → AV → AV → Option Bool) : List Field → List AV → List AV → Option Bool
  | [], _, _ => some true
  | f :: fs, xs, ys => match tsz P f.type, tagg P f.type with
    | some n, some a => if f.name ≠ "_" ∧ f.offset + n ≤ xs.length ∧ f.offset + n ≤ ys.length ∧ (a || n == 1) = true then (match ofC a ((xs.drop f.offset).take n), ofC a ((ys.drop f.offset).take n) with
      | some x, some y => match r f.type x y, eqFs P r fs xs ys with
        | some p, some q => some (p && q)
        | _, _ => none
      | _, _ => none) else none
    | _, _ => none
/-- Are two values the same? (c: one of them is written in the text) -/
def eqN (P : Program) (c : Bool) : Nat → TypeId → AV → AV → Option Bool
  | 0, _, _, _ => none
  | n + 1, t, x, y => match P.underlying t with
    | some .bool => match x, y with
      | .v (.bool a), .v (.bool b) => some (a == b)
      | _, _ => none
    | some (.int _) => match x, y with
      | .v (.int k a), .v (.int k' b) => if k = k' then some (a == b) else none
      | _, _ => none
    | some .string => match x, y with
      | .v (.string a), .v (.string b) => some (a.toList == b.toList)
      | _, _ => none
    | some (.struct fs) => match x, y with
      | .agg xs, .agg ys => if P.stoodInHeld t = false then eqFs P (eqN P false n) fs.toList xs ys else none
      | _, _ => none
    | some (.pointer _) => match x, y with
      | .v (.pointer none), .v (.pointer none) => some true
      | .ptr _ _, .v (.pointer none) => some false
      | _, _ => none
    | some (.func _ _ _) => match x, y with
      | .v .nilFunc, .v .nilFunc => some true
      | .fn _ _, .v .nilFunc => some false
      | _, _ => none
    | some (.map _ _) => match x, y with
      | .v (.map none), .v (.map none) => some true
      | .mp _, .v (.map none) => some false
      | _, _ => none
    | some (.interface _) => match x, y with
      | .v .nilIface, .v .nilIface => if c = true then some true else none
      | .ifc _ _, .v .nilIface => some false
      | _, _ => none
    | some (.slice _) => match x, y with
      | .sl .nil [], .sl .nil [] => some true
      | .sl _ (_ :: _), .sl .nil [] => some false
      | .sl .sm _, .sl .nil [] => some false
      | _, _ => none
    | _ => none
def isAgg' : AV → Bool
  | .agg _ => true
  | _ => false
def eqA (P : Program) (c : Bool) (t : TypeId) (x y : AV) : Option Bool := if isAgg' x = true ∧ P.eqGuardType P.depth t = true then none else eqN P c 10 t x y
def binA (P : Program) (c : Bool) (op : BinOp) (t : TypeId) (x y : AV) : Option AV :=
  match x, y with
  | .v (.int k a), .v (.int k' b) => match op with
    | .shl => (shA .shl k a b).map .v
    | .shr => (shA .shr k a b).map .v
    | op => if k = k' then (intA op k a b).map .v else none
  | .v (.string a), .v (.string b) => (strA op a b).map .v
  | x, y => match op with
    | .eql => (eqA P c t x y).map fun b => .v (.bool b)
    | .neq => (eqA P c t x y).map fun b => .v (.bool (!b))
    | _ => none
def unA (op : UnOp) (x : AV) : Option AV := match op, x with
  | .neg, .v (.int k n) => some (.v (.int k (k.wrap (0 - n))))
  | .not, .v (.bool b) => some (.v (.bool !b))
  | _, _ => none
def convA (P : Program) (s d : TypeId) (x : AV) : Option AV := match x with
  | .v (.int _ n) => match P.underlying d with
    | some (.int k) => some (.v (.int k (k.wrap n)))
    | _ => none
  | _ => none
/-- The parts of a struct laid into its cells. -/
def fillA (place : Nat → Option (Nat × Nat)) (cells : List AV) : List (Nat × AV) → Option (List AV)
  | [] => some cells
  | (i, x) :: rest => match place i with
    | none => none
    | some (off, n) => if x.cells.length = n ∧ off + n ≤ cells.length ∧ x.cells.all one = true then fillA place (splice cells off x.cells) rest else none
def places (P : Program) (t : TypeId) (i : Nat) : Option (Nat × Nat) := match fld P t i with
  | some (o, n, _) => some (o, n)
  | none => match arr P t with
    | some (_, k, _) => some (i * k, k)
    | none => none
/-- A struct or an array whose parts' sizes are known. -/
def bok (P : Program) (t : TypeId) : Bool := match P.underlying t with
  | some (.struct fs) => fs.toList.all fun f => (tsz P f.type).isSome && (tagg P f.type).isSome
  | some (.array _ e) => (tsz P e).isSome && (tagg P e).isSome
  | _ => false
def isStr (P : Program) (t : TypeId) : Bool := match P.underlying t with
  | some .string => true
  | _ => false
def idxV : AV → Option Int
  | .v (.int _ i) => some i
  | _ => none
def elA (P : Program) (t : TypeId) (x i : AV) : Option AV := match idxV i with
  | none => none
  | some i => if 0 ≤ i then (match x with
    | .sl _ l => match tel P t with
      | some e => match tsz P e, l[i.toNat]? with
        | some n, some y => if y.cells.length = n then some (.ea y.cells) else none
        | _, _ => none
      | none => none
    | .ptr id off => match arr P t with
      | some (n, k, _) => if i < n then some (.ptr id (off + i.toNat * k)) else none
      | none => none
    | _ => none) else none
def ixA (P : Program) (t : TypeId) (x i : AV) : Option AV := match idxV i with
  | none => none
  | some i => if 0 ≤ i then (match x with
    | .agg cs => match arr P t with
      | some (n, k, a) => if i < n ∧ i.toNat * k + k ≤ cs.length ∧ (a || k == 1) = true then ofC a ((cs.drop (i.toNat * k)).take k) else none
      | none => none
    | .v (.string s) => match s[i.toNat]? with
      | some b => if isStr P t = true then some (.v (.int .u8 b.toNat)) else none
      | none => none
    | _ => none) else none
/-- A bound of a slice expression: from 0 to m. -/
def bndA (m : Nat) : Option AV → Nat → Option Nat
  | none, d => some d
  | some x, _ => match idxV x with
    | some i => if 0 ≤ i ∧ i ≤ m then some i.toNat else none
    | none => none
def slA (P : Program) (t : TypeId) (x : AV) (lo hi mx : Option AV) : Option AV := match x with
  | .sl _ l => match tel P t with
    | some e => match tsz P e, bndA l.length hi l.length with
      | some n, some h => match bndA h lo 0 with
        | some a => match mx with
          | none => if (a == 0 || uni n l) = true then some (.sl .no ((l.take h).drop a)) else none
          | some m => match hi, idxV m with
            | some _, some m => if m = h ∧ (a == 0 || uni n l) = true then some (.sl .full ((l.take h).drop a)) else none
            | _, _ => none
        | none => none
      | _, _ => none
    | none => none
  | .ms id ver n => match tel P t with
    | some e => match tsz P e, bndA n hi n with
      | some _, some h => match bndA h lo 0 with
        | some (a + 1) => match mx, tsz P e with
          | none, some k => some (.mo id ver k (a + 1) h)
          | _, _ => none
        | some 0 => match mx with
          | none => some (.ms id ver h)
          | some m => match hi, idxV m with
            | some _, some 0 => if h = 0 then some (.sl .full []) else none
            | _, _ => none
        | _ => none
      | _, _ => none
    | none => none
  | _ => none
/-- What is appended. -/
def srcL (S : Obs) : AV → Option (List AV)
  | .sl _ l => some l
  | .ms id ver n => match rowA S id ver with
    | some (_, _, _, l) => if n ≤ l.length then some (l.take n) else none
    | none => none
  | _ => none
def appA (P : Program) (t : TypeId) (s x : AV) (T : Toks) : Option (AV × Toks) := match s, x with
  | .sl o l, .sl _ m => match tel P t with
    | some e => match tsz P e, tby P e, tzero P e with
      | some n, some b, some z =>
        if 0 < n ∧ z.length = n ∧ uni n m = true ∧ (m.all d2) = true ∧ (l.length + m.length) * b ≤ 140737488355328 ∧ l.length + m.length ≤ maxLen then
          match o with
          | .no => none
          | .sm => none
          | .nil => if l.length = 0 then some (.sl (.own T.length) m, T ++ [some e]) else none
          | .full => if uni n l = true then some (.sl (.own T.length) (l ++ m), T ++ [some e]) else none
          | .own k => if T[k]? = some (some e) then some (.sl (.own T.length) (l ++ m), T.set k none ++ [some e]) else none
        else none
      | _, _, _ => none
    | none => none
  | _, _ => none
/-- An append to a row, or of a row: where nobody else can append a list becomes a row. -/
def appR (P : Program) (t : TypeId) (s x : AV) (S : Obs) : Option (AV × Obs) := match tel P t, srcL S x with
  | some e, some m => match tsz P e, tby P e, tzero P e with
    | some n, some b, some z =>
      if 0 < n ∧ z.length = n ∧ uni n m = true ∧ (m.all d2) = true then
        match s with
        | .sl o l => if (o = .nil ∧ l = [] ∨ o = .full) ∧ uni n l = true ∧ (l.all d2) = true ∧ (l.length + m.length) * b ≤ 140737488355328 ∧ l.length + m.length ≤ maxLen then
            (match m with
            | [] => some (.sl o l, S)
            | m => some (.ms S.length 0 (l.length + m.length), S ++ [.row true 0 n e ((l ++ m).map s2)])) else none
        | .ms id ver k => match S[id]? with
          | some (.row d v n' e' l) => if v = ver ∧ n' = n ∧ e' = e ∧ k ≤ l.length ∧ (k + m.length) * b ≤ 140737488355328 ∧ k + m.length ≤ maxLen then
              some (.ms id (v + 1) (k + m.length), S.set id (.row d (v + 1) n e (l.take k ++ m.map s2))) else none
          | _ => none
        | _ => none
      else none
    | _, _, _ => none
  | _, _ => none
/-- A row becomes a chain. -/
def appK (P : Program) (t : TypeId) (s x : AV) (S : Obs) (T : Toks) : Option (AV × Obs × Toks) := match s with
  | .ms id ver k => match rowA S id ver, srcL S x with
    | some (true, n', e', l), some m => match tel P t with
      | some e => match tsz P e, tby P e, tzero P e with
        | some n, some b, some z =>
          if 0 < n ∧ z.length = n ∧ uni n m = true ∧ (m.all d2) = true ∧ n' = n ∧ e' = e ∧ k ≤ l.length ∧ (k + m.length) * b ≤ 140737488355328 ∧ k + m.length ≤ maxLen then
            some (.sl (.own T.length) (l.take k ++ m), S.set id .dead, T ++ [some e]) else none
        | _, _, _ => none
      | none => none
    | _, _ => none
  | _ => none
def isSl : AV → Bool
  | .sl _ _ => true
  | _ => false
/-- Any append (rw: to rows). -/
def appX (P : Program) (rw : Bool) (t : TypeId) (s x : AV) (S : Obs) (T : Toks) : Option (AV × Obs × Toks) :=
  if rw = true then (appR P t s x S).map fun r => (r.1, r.2, T)
  else if (isSl s && isSl x) = true then (appA P t s x T).map fun r => (r.1, S, r.2)
  else match s with
    | .ms _ _ _ => appK P t s x S T
    | .sl o l => (match srcL S x with
      | some m => (appA P t (.sl o l) (.sl .no m) T).map fun r => (r.1, S, r.2)
      | none => none)
    | _ => none
def mmA (mx : Bool) : List AV → Option AV
  | [.v (.int k a), .v (.int k' b)] => if k = k' then some (.v (.int k (if mx then (if b > a then b else a) else (if b < a then b else a)))) else none
  | _ => none
def fdA (o n : Nat) : AV → Option AV
  | .ptr id off => some (.ptr id (off + o))
  | .ep id ver i off => some (.ep id ver i (off + o))
  | .ea cs => if o + n ≤ cs.length then some (.ea (cs.drop o)) else none
  | _ => none
def isConstO : Operand → Bool
  | .const _ => true
  | _ => false
/-- A map's entries with one more, or another one; without one; an entry. -/
def mset : List (Int × AV) → Int → AV → List (Int × AV)
  | [], k, x => [(k, x)]
  | (a, y) :: l, k, x => if a = k then (a, x) :: l else (a, y) :: mset l k x
def mdel : List (Int × AV) → Int → List (Int × AV)
  | [], _ => []
  | (a, y) :: l, k => if a = k then l else (a, y) :: mdel l k
def mget : List (Int × AV) → Int → Option AV
  | [], _ => none
  | (a, y) :: l, k => if a = k then some y else mget l k
/-- A map by whole numbers: its values' type. -/
def mpT (P : Program) (t : TypeId) : Option TypeId := match P.underlying t with
  | some (.map k e) => match P.underlying k with
    | some (.int .i64) => some e
    | _ => none
  | _ => none
def keyV : AV → Option Int
  | .v (.int .i64 n) => some n
  | _ => none
def zeroA (P : Program) (t : TypeId) : Option AV := (P.info? t).bind fun i => i.zero.bind fun z => match z with
  | .agg cs => if (cs.toList.map toAV0).all d1 = true then some (.agg (cs.toList.map toAV0)) else none
  | x => if d1 (toAV0 x) = true then some (toAV0 x) else none
def isIfT (P : Program) (t : TypeId) : Option Bool := match P.underlying t with
  | some (.interface _) => some true
  | some _ => some false
  | none => none
def nt : AV → Bool
  | .tup _ => false
  | _ => true
/-- An operation that has to do with values alone. -/
def coreQ (P : Program) (o : Oper) (e : Operand → AV) : Option AV :=
  match o.op with
  | .move x => some (e x)
  | .assign x => some (e x)
  | .pick c a b => match e c with
    | .v (.bool t) => some (if t = true then e a else e b)
    | _ => none
  | .build t ps => match tzero P t with
    | some z => if bok P t = true then (fillA (places P t) z (ps.toList.map fun p => (p.1, e p.2))).map .agg else none
    | none => none
  | .buildSlice t n ps => match tel P t with
    | some el => match tsz P el, tagg P el, tzero P el with
      | some k, some a, some z =>
        if n * k ≤ 16777216 ∧ (ps.toList.all fun p => decide (p.1 < n) && ((e p.2).cells.length == k && ((e p.2).cells.all one && d2 (e p.2)))) = true ∧ (a || k == 1) = true ∧ 0 < k ∧ z.length = k ∧ (z.all d1 && z.all one) = true then
          some (.sl .full (ps.toList.foldl (fun l p => l.set p.1 (s2 (e p.2))) (List.replicate n (if a = true then .agg z else z.getD 0 .dead)))) else none
      | _, _, _ => none
    | none => none
  | .nilCheck x => match e x with
    | .ptr id off => some (.ptr id off)
    | .ea cs => some (.ea cs)
    | .fn f c => some (.fn f c)
    | .ep id ver i off => some (.ep id ver i off)
    | _ => none
  | .binOp op t x y _ => binA P (isConstO x || isConstO y) op t (e x) (e y)
  | .unOp op _ x => unA op (e x)
  | .convert s d x => if (P.underlying s).isSome = true then convA P s d (e x) else none
  | .fieldAddr t x i => match fld P t i with
    | some (o, n, _) => if 0 < n then fdA o n (e x) else none
    | none => none
  | .field t x i => match fld P t i with
    | some (o, n, a) => match e x with
      | .agg cs => if o + n ≤ cs.length ∧ (a || n == 1) = true then ofC a ((cs.drop o).take n) else none
      | _ => none
    | none => none
  | .indexAddr t x i => elA P t (e x) (e i)
  | .index t x i => ixA P t (e x) (e i)
  | .slice t x lo hi mx => slA P t (e x) (lo.map e) (hi.map e) (mx.map e)
  | .makeFunc (.func f) first cap => if first.size = 0 ∧ (cap.toList.all fun c => capOk (e c)) = true then some (.fn f (cap.toList.map e)) else none
  | .extract x i => match e x with
    | .tup l => match l[i]? with
      | some y => if nt y = true then some y else none
      | none => none
    | _ => none
  | .call c => match c.callee, c.args.toList with
    | .builtin .len, [x] => match c.argTypes.toList with
      | [t] => match P.underlying t, e x with
        | some .string, .v (.string s) => some (.v (.int .i64 s.size))
        | some (.slice _), .sl _ l => some (.v (.int .i64 l.length))
        | some (.slice _), .ms _ _ n => some (.v (.int .i64 n))
        | some (.map _ _), .v (.map none) => some (.v (.int .i64 0))
        | _, _ => none
      | _ => none
    | .builtin .min, [x, y] => mmA false [e x, e y]
    | .builtin .max, [x, y] => mmA true [e x, e y]
    | _, _ => none
  | .makeInterface t x => if isIfT P t = some false ∧ d2 (e x) = true then some (.ifc t (s2 (e x))) else none
  | .typeAssert x _ a ok => if isIfT P a = some false then (match e x with
    | .ifc t y => if t = a then (if ok = true then some (.tup [s2 y, .v (.bool true)]) else if d2 y = true then some (s2 y) else none) else if ok = true then (zeroA P a).map fun z => .tup [s2 z, .v (.bool false)] else none
    | .v .nilIface => if ok = true then (zeroA P a).map fun z => .tup [s2 z, .v (.bool false)] else none
    | _ => none) else none
  | _ => none
/-- An append: what, to what, of which type. -/
def isApp (o : Oper) : Option (Operand × Operand × TypeId) := match o.op with
  | .call ⟨.builtin .append, args, tys⟩ => match args.toList, tys.toList with
    | [s, x], [t, t'] => if t = t' then some (s, x, t) else none
    | _, _ => none
  | _ => none
/-- A part of a row that is written. -/
def elM (P : Program) (t : TypeId) (id ver n : Nat) (i : AV) (S : Obs) : Option AV := match idxV i, tel P t, rowA S id ver with
  | some i, some e, some (_, k, _, l) => if 0 ≤ i ∧ i < n ∧ n ≤ l.length ∧ tsz P e = some k then some (.ep id ver i.toNat 0) else none
  | _, _, _ => none
def lookA (P : Program) (t : TypeId) (x : Option AV) (ok : Bool) : Option AV := match mpT P t with
  | some e => match x with
    | some y => some (if ok = true then .tup [s2 y, .v (.bool true)] else s2 y)
    | none => (zeroA P e).map fun z => if ok = true then .tup [s2 z, .v (.bool false)] else s2 z
  | none => none
/-- A delete, or a map's len. -/
def isDel (o : Oper) : Option (Operand × Operand × TypeId) := match o.op with
  | .call ⟨.builtin .delete, args, tys⟩ => match args.toList, tys.toList with
    | [m, k], t :: _ => some (m, k, t)
    | _, _ => none
  | _ => none
/-- A clear. -/
def isClr (o : Oper) : Option (Operand × TypeId) := match o.op with
  | .call ⟨.builtin .clear, args, tys⟩ => match args.toList, tys.toList with
    | [m], [t] => some (m, t)
    | _, _ => none
  | _ => none
/-- A part of a row made zero. -/
def clrA (P : Program) (t : TypeId) (x : AV) (S : Obs) : Option Obs := match tel P t with
  | some e => match tsz P e, tzero P e, tagg P e with
    | some k, some z, some ag => if 0 < k ∧ z.length = k ∧ (ag || k == 1) = true ∧ (z.all d1 && z.all one) = true then (match x with
      | .mo id ver k' a h => match S[id]? with
        | some (.row d v k2 e' l) => if v = ver ∧ k' = k ∧ k2 = k ∧ h ≤ l.length ∧ a ≤ h then some (S.set id (.row d v k2 e' (l.take a ++ (List.replicate (h - a) (if ag = true then .agg z else z.getD 0 .dead) ++ l.drop h)))) else none
        | _ => none
      | .ms id ver h => match S[id]? with
        | some (.row d v k2 e' l) => if v = ver ∧ k2 = k ∧ h ≤ l.length then some (S.set id (.row d v k2 e' (List.replicate h (if ag = true then .agg z else z.getD 0 .dead) ++ l.drop h))) else none
        | _ => none
      | _ => none) else none
    | _, _, _ => none
  | none => none
def isLen (o : Oper) : Option (Operand × TypeId) := match o.op with
  | .call ⟨.builtin .len, args, tys⟩ => match args.toList, tys.toList with
    | [m], [t] => some (m, t)
    | _, _ => none
  | _ => none
/-- An operation that is no call of a function. -/
def core [TVm] (P : Program) (rw : Bool) (o : Oper) (e : Operand → AV) (S : Obs) (T : Toks) : Option (AV × Obs × Toks) :=
  match o.op with
  | .alloc t => match tzero P t with
    | some cs => some (.ptr S.length 0, S ++ [.var false cs], T)
    | none => none
  | .box t x => if (e x).cells.all one = true then some (.ptr S.length 0, S ++ [.var false (cellsT (e x).cells)], T) else none
  | .load t a => match tagg P t, tsz P t with
    | some ag, some n => if (ag || n == 1) = true then (match rdc S (e a) n with
      | some cs => (ofC ag cs).map fun x => (x, S, T)
      | none => none) else none
    | _, _ => none
  | .store t a x => match tsz P t with
    | some n => if (e x).cells.length = n then (wrc S (e a) (e x).cells).map fun S' => (.tup [], S', T) else none
    | none => none
  | .indexAddr t x i => match e x with
    | .ms id ver n => (elM P t id ver n (e i) S).map fun r => (r, S, T)
    | _ => (coreQ P o e).map fun r => (r, S, T)
  | .makeSlice t l c => match tel P t, keyV (e l), keyV (e c) with
    | some el, some n, some m => match tsz P el, tby P el, tzero P el, tagg P el with
      | some k, some b, some z, some ag => if n = m ∧ 0 ≤ n ∧ n * b ≤ 140737488355328 ∧ n ≤ maxLen ∧ 0 < k ∧ z.length = k ∧ (ag || k == 1) = true ∧ (z.all d1 && z.all one) = true then
          some (.ms S.length 0 n.toNat, S ++ [.row true 0 k el (List.replicate n.toNat (s2 (if ag = true then .agg z else z.getD 0 .dead)))], T) else none
      | _, _, _, _ => none
    | _, _, _ => none
  | .buildSlice t n ps => if (rw && n != 0) = true then (match tel P t with
      | some el => match tsz P el, tagg P el, tzero P el with
        | some k, some a, some z => if n * k ≤ 16777216 ∧ n ≤ maxLen ∧ (ps.toList.all fun p => decide (p.1 < n) && ((e p.2).cells.length == k && (e p.2).cells.all one)) = true ∧ (a || k == 1) = true ∧ 0 < k ∧ z.length = k ∧ (z.all d1 && z.all one) = true then
            some (.ms S.length 0 n, S ++ [.row (ps.toList.all fun p => d2 (e p.2)) 0 k el (ps.toList.foldl (fun l p => l.set p.1 (t2 (e p.2))) (List.replicate n (if a = true then .agg z else z.getD 0 .dead)))], T) else none
        | _, _, _ => none
      | none => none)
    else (coreQ P o e).map fun r => (r, S, T)
  | .makeMap t r => match r with
    | none => some (.mp S.length, S ++ [.map []], T)
    | some r => if (mpT P t).isSome = true ∧ (idxV (e r)).isSome = true then some (.mp S.length, S ++ [.map []], T) else none
  | .insert t m k x => match e m, mpT P t, keyV (e k) with
    | .mp id, some _, some n => (match S[id]? with
      | some (.map es) => if d2 (e x) = true ∧ nt (e x) = true then some (.tup [], S.set id (.map (mset es n (s2 (e x)))), T) else none
      | _ => none)
    | _, _, _ => none
  | .mapUpdate t m k x => match e m, mpT P t, keyV (e k) with
    | .mp id, some _, some n => (match S[id]? with
      | some (.map es) => if d2 (e x) = true ∧ nt (e x) = true then some (.tup [], S.set id (.map (mset es n (s2 (e x)))), T) else none
      | _ => none)
    | _, _, _ => none
  | .lookup t m k ok => match e m, keyV (e k) with
    | .mp id, some n => (match S[id]? with
      | some (.map es) => (lookA P t (mget es n) ok).map fun r => (r, S, T)
      | _ => none)
    | .v (.map none), some _ => (lookA P t none ok).map fun r => (r, S, T)
    | _, _ => none
  | .range t x => match e x with
    | .v (.string s) => if isStr P t = true then some (.ptr S.length 0, S ++ [.iter s 0], T) else none
    | _ => none
  | .next it str => if str = true then (match e it with
      | .ptr id 0 => (match S[id]? with
        | some (.iter s pos) => if pos < s.size then some (.tup [.v (.bool true), .v (.int .i64 pos), .v (.int .i32 (Utf8.decode s pos).1)], S.set id (.iter s (pos + (Utf8.decode s pos).2)), T) else some (.tup [.v (.bool false)], S, T)
        | _ => none)
      | _ => none) else none
  | _ => match isApp o with
    | some (s, x, t) => appX P rw t (e s) (e x) S T
    | none => match isDel o with
      | some (m, k, t) => (match e m, mpT P t, keyV (e k) with
        | .mp id, some _, some n => (match S[id]? with
          | some (.map es) => some (.tup [], S.set id (.map (mdel es n)), T)
          | _ => none)
        | _, _, _ => none)
      | none => match isClr o with
        | some (m, t) => (clrA P t (e m) S).map fun S' => (.tup [], S', T)
        | none => match isLen o with
        | some (m, t) => (match e m with
          | .mp id => (match S[id]? with
            | some (.map es) => if (mpT P t).isSome = true then some (.v (.int .i64 es.length), S, T) else none
            | _ => none)
          | _ => (coreQ P o e).map fun r => (r, S, T))
        | none => (coreQ P o e).map fun r => (r, S, T)
def put (fr : List AV) (d : Option Tmp) (x : AV) : List AV := match d with
  | some d => fr.set d x
  | none => fr
abbrev CallF := FuncId → List AV → Obs → Option (AV × Obs)
def isCall (o : Oper) : Option (Operand × List Operand) := match o.op with
  | .call ⟨.value f, args, _⟩ => some (f, args.toList)
  | _ => none
/-- A call on values alone, where variables keep rights to append. -/
def callT (cf : CallF) (g : FuncId) (args : List AV) (s : St) : Option (AV × Obs × Toks) := if args.all d2 = true then (match cf g (args.map s2) [] with
  | some (r, []) => if d3 r = true then some (s3 r, s.S, s.T) else none
  | _ => none) else none
def run1 [TVm] (P : Program) (cf : CallF) (rw : Bool) (o : Oper) (s : St) : Option (AV × Obs × Toks) :=
  match isCall o with
  | some (f, args) => match opd s.fr f with
    | .fn g cap => if cap.all capOk = true then (if TVm.tv = true then callT cf g (args.map (opd s.fr) ++ cap) s else (cf g (args.map (opd s.fr) ++ cap) s.S).map fun r => (r.1, r.2, s.T)) else none
    | _ => none
  | none => core P rw o (opd s.fr) s.S s.T
/-- Is an operation wanted? (none: not known) -/
def wantA (ops : Array Oper) (o : Oper) (fr : List AV) : Option Bool := match o.guard with
  | none => some true
  | some (j, want) => match ops[j]? with
    | some g => match g.dst with
      | some t => match fr.getD t .dead with
        | .v (.bool b) => some (b == want)
        | .tup [] => some false
        | _ => none
      | none => none
    | none => none
/-- What an operation gives, and what becomes of objects and chains. -/
def exO [TVm] (P : Program) (cf : CallF) (rw : Bool) (ops : Array Oper) (o : Oper) (s : St) : Option (AV × Obs × Toks) := match wantA ops o s.fr with
  | some b => if b = true then run1 P cf rw o s else some (.tup [], s.S, s.T)
  | none => none
def isT (d : Tmp) : Operand → Bool
  | .tmp t => t == d
  | _ => false
/-- Does an operation put a temporary into a value? -/
def usesT (d : Tmp) (q : Oper) : Bool := match q.op with
  | .build _ ps => ps.toList.any fun p => isT d p.2
  | .buildSlice _ _ ps => ps.toList.any fun p => isT d p.2
  | _ => false
/-- Is a temporary appended? -/
def appsT (d : Tmp) (q : Oper) : Bool := match isApp q with
  | some (_, x, _) => isT d x
  | none => false
/-- In a function that has to do with rows: what is put into a value at once, or appended at once, is a list. -/
def lit (rw : Bool) (ops : Array Oper) (o : Oper) : Bool := rw && (match o.dst with
  | none => false
  | some d => match o.op with
    | .buildSlice _ _ _ => ops.toList.any (appsT d)
    | _ => (isApp o).isSome && ops.toList.any (usesT d))
def rwO (rw : Bool) (ops : Array Oper) (o : Oper) : Bool := rw && !lit rw ops o
def evG [TVm] (P : Program) (cf : CallF) (rw : Bool) (ops : Array Oper) (o : Oper) (s : St) : Option St := (exO P cf (rwO rw ops o) ops o s).map fun r => ⟨put s.fr o.dst r.1, r.2.1, r.2.2⟩
def evOps [TVm] (P : Program) (cf : CallF) (rw : Bool) (ops : Array Oper) : List Oper → St → Option St
  | [], s => some s
  | o :: rest, s => match evG P cf rw ops o s with
    | some s' => evOps P cf rw ops rest s'
    | none => none
/-- What an operation has to do with the objects: nothing; it reads one; it makes one; it has to do with chains; it writes cells; a call of a function that leaves its objects; such a call that makes objects alone; all. -/
inductive Cls where
  | quiet
  | reads (id : Nat)
  | makes (n : Nat)
  | chain
  | writes (id : Nat)
  | call
  | news (n : Nat)
  | all
  deriving DecidableEq
def cls (kp : FuncId → Bool) (rw : Bool) (ops : Array Oper) (o : Oper) (s : St) : Cls :=
  match wantA ops o s.fr with
  | some true => (match isCall o with
    | some (f, args) => match opd s.fr f with
      | .fn g cap => if ((args.map (opd s.fr) ++ cap).all d2 && !kp g) = true then .quiet else .call
      | _ => .all
    | none => match o.op with
      | .load _ a => match opd s.fr a with
        | .ptr id _ => .reads id
        | .ep id _ _ _ => .reads id
        | _ => .quiet
      | .alloc _ => .makes s.S.length
      | .box _ _ => .makes s.S.length
      | .store _ a _ => match opd s.fr a with
        | .ptr id _ => .writes id
        | _ => .all
      | .indexAddr _ x _ => match opd s.fr x with
        | .ms id _ _ => .reads id
        | _ => .quiet
      | .lookup _ x _ _ => match opd s.fr x with
        | .mp id => .reads id
        | _ => .quiet
      | .makeSlice _ _ _ => .all
      | .buildSlice _ n _ => if (rw && n != 0) = true then .all else .quiet
      | .makeMap _ _ => .all
      | .insert _ _ _ _ => .all
      | .mapUpdate _ _ _ _ => .all
      | .range _ _ => .all
      | .next _ _ => .all
      | _ => match isApp o with
        | some (a, x, _) => if (!rw && isSl (opd s.fr a) && isSl (opd s.fr x)) = true then .chain else .all
        | none => match isDel o with
          | some _ => .all
          | none => match isClr o with
            | some _ => .all
            | none => match isLen o with
            | some (m, _) => match opd s.fr m with
              | .mp id => .reads id
              | _ => .quiet
            | none => .quiet)
  | _ => .quiet
/-- May two operations change places? -/
def compat : Cls → Cls → Bool
  | .quiet, _ => true
  | _, .quiet => true
  | .reads _, .reads _ => true
  | .reads id, .makes n => decide (id < n)
  | .makes n, .reads id => decide (id < n)
  | .reads _, .chain => true
  | .chain, .reads _ => true
  | .makes _, .chain => true
  | .chain, .makes _ => true
  | .reads a, .writes b => decide (a ≠ b)
  | .writes a, .reads b => decide (a ≠ b)
  | .writes a, .makes n => decide (a < n)
  | .makes n, .writes a => decide (a < n)
  | .writes _, .chain => true
  | .chain, .writes _ => true
  | .reads id, .news n => decide (id < n)
  | .news n, .reads id => decide (id < n)
  | .news _, .chain => true
  | .chain, .news _ => true
  | _, _ => false
open Classical in
/-- A call that makes objects alone. -/
noncomputable def upX (c : Cls) (S S' : Obs) : Cls := match c with
  | .call => if ∃ J, S' = S ++ J then .news S.length else .all
  | c => c
noncomputable def clsX (kp : FuncId → Bool) (rw : Bool) (ops : Array Oper) (o : Oper) (s s' : St) : Cls := upX (cls kp rw ops o s) s.S s'.S
def opTmps (l : List Operand) : List Tmp := l.filterMap fun x => match x with
  | .tmp t => some t
  | _ => none
/-- The temporaries that an operation looks at. -/
def looks (ops : Array Oper) (o : Oper) : List Tmp := opTmps o.op.operands.toList ++ (match o.guard with
  | some (j, _) => match ops[j]? with
    | some g => g.dst.toList
    | none => []
  | none => [])
def apart (ops : Array Oper) (p q : Oper) : Bool :=
  (match p.dst with
    | some d => !(looks ops q).contains d && q.dst != some d
    | none => true) &&
  (match q.dst with
    | some d => !(looks ops p).contains d
    | none => true)
/-- A list, each once (m: who was there). -/
def nubM : Nat → List Nat → List Nat
  | _, [] => []
  | m, a :: l => if m.testBit a then nubM m l else a :: nubM (m ||| (1 <<< a)) l
/-- What an operation waits for, directly or not. -/
def depsOf (ops : Array Oper) : Nat → List (List Nat) → List Oper → List (List Nat)
  | _, acc, [] => acc
  | i, acc, o :: rest => depsOf ops (i + 1) (acc ++ [nubM 0 ((o.after.toList.filterMap fun e => if Region.binds .any e then some e.on else none).flatMap fun j => j :: acc.getD j [])]) rest
/-- A region that draws its order, walked in the order of the text: any two operations of which none waits for the other may change places. -/
noncomputable def evD [TVm] (P : Program) (cf : CallF) (kp : FuncId → Bool) (rw : Bool) (ops : Array Oper) (deps : List (List Nat)) : List Nat → St → Option (St × List (Nat × Cls))
  | [], s => some (s, [])
  | i :: rest, s => match ops[i]? with
    | none => none
    | some o => match evG P cf rw ops o s with
      | none => none
      | some s' => match evD P cf kp rw ops deps rest s' with
        | none => none
        | some (sf, log) =>
          if (log.all fun q => (deps.getD q.1 []).contains i || (compat (clsX kp (rwO rw ops o) ops o s s') q.2 && apart ops o (ops.getD q.1 default))) = true then some (sf, (i, clsX kp (rwO rw ops o) ops o s s') :: log) else none
/-- Each operation waits for earlier ones alone. -/
def fwd (ops : Array Oper) : Bool := (List.range ops.size).all fun i => match ops[i]? with
  | some o => o.after.all fun e => !Region.binds .any e || decide (e.on < i)
  | none => true
inductive Ex where
  | normal
  | exit (id : Nat)
  | ret
  deriving DecidableEq, Inhabited
noncomputable def evR [TVm] (P : Program) (cf : CallF) (kp : FuncId → Bool) (rw : Bool) (ops : Array Oper) (draw : Bool) (s : St) : Option St :=
  if draw then (match evD P cf kp rw ops (depsOf ops 0 [] ops.toList) (List.range ops.size) s with
    | some r => if (P.follows .mixedOrders && fwd ops) = true then some r.1 else none
    | none => none)
  else evOps P cf rw ops ops.toList s
def iter (f : St → Option (Ex × St)) : Nat → St → Option (Ex × St)
  | 0, _ => none
  | n + 1, s => match f s with
    | some (.normal, s') => iter f n s'
    | r => r
noncomputable def evC [TVm] (P : Program) (cf : CallF) (kp : FuncId → Bool) (rw : Bool) (k : Nat) : Code → St → Option (Ex × St)
  | .skip, s => some (.normal, s)
  | .label _, s => some (.normal, s)
  | .region _ ops draw, s => (evR P cf kp rw ops draw s).map fun s' => (.normal, s')
  | .seq a b, s => match evC P cf kp rw k a s with
    | some (.normal, s') => evC P cf kp rw k b s'
    | r => r
  | .cond c a b, s => match opd s.fr c with
    | .v (.bool t) => if t = true then evC P cf kp rw k a s else evC P cf kp rw k b s
    | _ => none
  | .block id c, s => match evC P cf kp rw k c s with
    | some (.exit i, s') => if i = id then some (.normal, s') else some (.exit i, s')
    | r => r
  | .loop c, s => iter (evC P cf kp rw k c) k s
  | .scope c, s => evC P cf kp rw k c s
  | .exit id, s => some (.exit id, s)
  | .ret, s => some (.ret, s)
  | _, _ => none
def resA (P : Program) (s : St) : ResultVar → Option AV
  | .tmp t => some (s.fr.getD t .dead)
  | .cell t ty => match tagg P ty, tsz P ty with
    | some ag, some n => if (ag || n == 1) = true then (match rdc s.S (s.fr.getD t .dead) n with
      | some cs => ofC ag cs
      | none => none) else none
    | _, _ => none
def resL (P : Program) (s : St) : List ResultVar → Option (List AV)
  | [] => some []
  | r :: rest => match resA P s r, resL P s rest with
    | some x, some l => if nt x = true then some (x :: l) else none
    | _, _ => none
/-- The rows of a result that become lists. -/
def fzI (S : Obs) (n0 : Nat) : AV → List Nat
  | .ms id ver n => match fz0 S n0 (.ms id ver n) with
    | .sl _ _ => [id]
    | _ => []
  | _ => []
def fzI2 (S : Obs) (n0 : Nat) : AV → List Nat
  | .agg cs => cs.flatMap (fzI S n0)
  | x => fzI S n0 x
def fzI3 (S : Obs) (n0 : Nat) : AV → List Nat
  | .tup l => l.flatMap (fzI2 S n0)
  | x => fzI2 S n0 x
def killIds : List Nat → Obs → Obs
  | [], S => S
  | id :: l, S => killIds l (S.set id .dead)
/-- What comes out of a call: new rows as lists (kp: as they are). -/
def fin (kp : Bool) (S0 : Obs) (r : AV) (S : Obs) : AV × Obs :=
  if kp = true then (t3 r, S) else (t3 (fz3 S S0.length r), killIds (fzI3 S S0.length r) S)
/-- .. where variables keep rights to append: there are no objects but its own. -/
def finT (S0 : Obs) (r : AV) : Option (AV × Obs) := if S0.isEmpty && d3 r = true then some (s3 r, []) else none
noncomputable def evFn [TVm] (P : Program) (cf : CallF) (kp : FuncId → Bool) (rw : Bool) (k : Nat) (kf : Bool) (fn : Func) (args : List AV) (S : Obs) : Option (AV × Obs) :=
  match fn.body with
  | none => none
  | some c => match evC P cf kp rw k c ⟨args ++ List.replicate (fn.ntmps - args.length) (.tup []), S, []⟩ with
    | some (x, s) => if x = .normal ∨ x = .ret then (match resL P s fn.results.toList with
      | some [r] => if TVm.tv = true then finT S r else some (fin kf S r s.S)
      | some l => if TVm.tv = true then finT S (.tup l) else some (fin kf S (.tup l) s.S)
      | none => none) else none
    | none => none
/-- A function of the program's own text. -/
def fun? (P : Program) (f : FuncId) : Option Func := match P.funcs[f]? with
  | some fn => if fn.name = "runtime.NumGoroutine" then none else some fn
  | none => none
/-- Functions that are known otherwise; those that leave their objects to who calls them; those whose appends make rows. -/
structure Prims where
  prim : FuncId → Option (List AV → Obs → Option (AV × Obs))
  keep : FuncId → Bool
  rows : FuncId → Bool
  vars : FuncId → Bool
/-- What a function does, its arguments as they are told it. -/
noncomputable def evB (P : Program) (X : Prims) (k : Nat) (cf : CallF) (f : FuncId) (args : List AV) (S : Obs) : Option (AV × Obs) := match X.prim f with
  | some g => (g args S).map fun r => (t3 r.1, r.2)
  | none => match fun? P f with
    | some fn => @evFn ⟨X.vars f⟩ P cf X.keep (X.rows f) k (X.keep f) fn args S
    | none => none
/-- A call of a function: where no argument bears an object's address the callee has no objects. -/
noncomputable def evF (P : Program) (X : Prims) : Nat → CallF
  | 0, _, _, _ => none
  | k + 1, f, args, S =>
    if (args.all d2 && !X.keep f) = true then (match evB P X k (evF P X k) f (args.map s2) [] with
      | some (r, _) => if d3 r = true then some (s3 r, S) else none
      | none => none)
    else if args.all nt = true then evB P X k (evF P X k) f (args.map t2) S else none
end Go.Proofs.Ytplpmelpoajpdaa.Ev
namespace Go.Proofs.Ytplpmelpoajpdaa.Ev
open Go
set_option linter.unusedVariables false
set_option linter.unusedSimpArgs false
/-- The cells that nobody writes any more: block and place. -/
abbrev Zs := Nat → Nat → Prop
/-- Data: all of it lies in cells of Z. -/
inductive DR (Z : Zs) (w : World) : AV → Value → Prop
  | v (x : Value) (h : plainV x = true) : DR Z w (.v x) x
  | agg (cs : List AV) (xs : Array Value) (hl : cs.length = xs.size) (h : ∀ i, i < cs.length → DR Z w (cs.getD i .dead) (xs.getD i undef)) : DR Z w (.agg cs) (.agg xs)
  | tup (l : List AV) (xs : Array Value) (hl : l.length = xs.size) (h : ∀ i, i < l.length → DR Z w (l.getD i .dead) (xs.getD i undef)) : DR Z w (.tup l) (.tuple xs)
  | nil (o : Tok) (a : Option Addr) (c : Nat) (h : a = none → c = 0) : DR Z w (.sl o []) (.slice a 0 c)
  | sl (o : Tok) (l : List AV) (b p c k : Nat) (xs : Nat → Nat → Value) (hc : l.length ≤ c) (hk : ∀ i, i < l.length → (l.getD i .dead).cells.length = k)
      (hz : ∀ i j, i < l.length → j < k → Z b (p + (i * k + j)) ∧ w.cell? ⟨b, p + (i * k + j), none⟩ = some (xs i j))
      (h : ∀ i j, i < l.length → j < k → DR Z w ((l.getD i .dead).cells.getD j .dead) (xs i j)) : DR Z w (.sl o l) (.slice (some ⟨b, p, none⟩) l.length c)
  | ea (cs : List AV) (b p : Nat) (xs : Nat → Value) (hz : ∀ j, j < cs.length → Z b (p + j) ∧ w.cell? ⟨b, p + j, none⟩ = some (xs j))
      (h : ∀ j, j < cs.length → DR Z w (cs.getD j .dead) (xs j)) : DR Z w (.ea cs) (.pointer (some ⟨b, p, none⟩))
  | fn (f : FuncId) (c : List AV) (xs : Array Value) (hl : c.length = xs.size) (h : ∀ i, i < c.length → DR Z w (c.getD i .dead) (xs.getD i undef)) : DR Z w (.fn f c) (.func (.func f) #[] xs)
  | ifc (t : TypeId) (x : AV) (u : Value) (h : DR Z w x u) : DR Z w (.ifc t x) (.iface t u)
  | dead (x : Value) : DR Z w .dead x
/-- The cells of Z hold what they held, and Z has only grown. -/
structure ZExt (Z Z' : Zs) (w w' : World) : Prop where
  sub : ∀ b o, Z b o → Z' b o
  same : ∀ b o, Z b o → w'.cell? ⟨b, o, none⟩ = w.cell? ⟨b, o, none⟩
theorem ZExt.refl (Z : Zs) (w : World) : ZExt Z Z w w := ⟨fun _ _ h => h, fun _ _ _ => rfl⟩
theorem ZExt.trans {Z Z' Z'' : Zs} {w w' w'' : World} (h : ZExt Z Z' w w') (k : ZExt Z' Z'' w' w'') : ZExt Z Z'' w w'' :=
  ⟨fun b o x => k.sub b o (h.sub b o x), fun b o x => (k.same b o (h.sub b o x)).trans (h.same b o x)⟩
theorem DR.ext {Z Z' : Zs} {w w' : World} (E : ZExt Z Z' w w') {a : AV} {v : Value} (h : DR Z w a v) : DR Z' w' a v := by
  induction h with
  | v x h => exact .v x h
  | agg cs xs hl h ih => exact .agg cs xs hl ih
  | tup l xs hl h ih => exact .tup l xs hl ih
  | nil o a c h => exact .nil o a c h
  | sl o l b p c k xs hc hk hz h ih => exact .sl o l b p c k xs hc hk (fun i j hi hj => ⟨E.sub _ _ (hz i j hi hj).1, (E.same _ _ (hz i j hi hj).1).trans (hz i j hi hj).2⟩) ih
  | ea cs b p xs hz h ih => exact .ea cs b p xs (fun j hj => ⟨E.sub _ _ (hz j hj).1, (E.same _ _ (hz j hj).1).trans (hz j hj).2⟩) ih
  | fn f c xs hl h ih => exact .fn f c xs hl ih
  | ifc t x u h ih => exact .ifc t x u ih
  | dead x => exact .dead x
/-- An object's block, how often it has grown, how many elements have room in it, an element's cells. -/
structure Bk where
  g : Nat
  v : Nat
  c : Nat
  k : Nat
  deriving Inhabited
/-- The blocks of the objects that live. -/
def LB (S : Obs) (β : List Bk) (g : Nat) : Prop := ∃ (id : Nat) (o : Ob) (b : Bk), S[id]? = some o ∧ o.live = true ∧ β[id]? = some b ∧ b.g = g
/-- The chain's slice: it has no room, or its room is nobody else's. -/
def OwnS (P : Program) (Z : Zs) (B : Nat → Prop) (M0 : Nat → Prop) (n0 : Nat) (w : World) (e : TypeId) (v : Value) : Prop :=
  ∃ a n c, v = .slice a n c ∧ ((n = c ∧ (a = none → n = 0)) ∨ ∃ g cur k, a = some ⟨g, 0, none⟩ ∧ (M0 g ∨ n0 ≤ g) ∧ w.heap[g]? = some (.cells cur e (0, 0)) ∧ n ≤ c ∧ c ≤ maxLen ∧ tsz P e = some k ∧ cur.size = c * k ∧ (∀ o, Z g o → o < n * k) ∧ ¬ B g)
/-- The block that has room behind a slice. -/
def spare : Value → Option Nat
  | .slice (some a) n c => if n = c then none else some a.block
  | _ => none
def R0 (Z : Zs) (β : List Bk) (γ : List Value) (T : Toks) (w : World) (P : Program) : AV → Value → Prop
  | .ptr id off, v => ∃ b a, β[id]? = some b ∧ v = .pointer (some a) ∧ (b.v = 0 → a = ⟨b.g, off, none⟩)
  | .ms id ver n, v => ∃ b A C, β[id]? = some b ∧ ver ≤ b.v ∧ v = .slice A n C ∧ n ≤ C ∧ (A = none → C = 0) ∧ (ver = b.v → A = some ⟨b.g, 0, none⟩ ∧ C = b.c)
  | .ep id ver i off, v => ∃ b a, β[id]? = some b ∧ ver ≤ b.v ∧ v = .pointer (some a) ∧ (ver = b.v → a = ⟨b.g, i * b.k + off, none⟩)
  | .mo id ver k a h, v => ∃ b A C, β[id]? = some b ∧ ver ≤ b.v ∧ v = .slice A (h - a) (C - a) ∧ a ≤ h ∧ h ≤ C ∧ (ver = b.v → h = a ∨ A = some ⟨b.g, a * k, none⟩)
  | .mp id, v => ∃ b r, β[id]? = some b ∧ v = .map (some r) ∧ (b.v = 0 → r = b.g)
  | .dead, _ => True
  | .sl o l, v => DR Z w (.sl o l) v ∧ (match o with
    | .no => True
    | .nil => v = .slice none 0 0
    | .full => ∃ a, v = .slice a l.length l.length
    | .sm => ∃ a n c, v = .slice (some a) n c
    | .own τ => τ < T.length ∧ ∀ e, T[τ]? = some (some e) → γ[τ]? = some v ∧ uni ((tsz P e).getD 0) l = true)
  | a, v => DR Z w a v
def R1 (Z : Zs) (β : List Bk) (γ : List Value) (T : Toks) (w : World) (P : Program) : AV → Value → Prop
  | .fn f c, v => ∃ xs : Array Value, v = .func (.func f) #[] xs ∧ c.length = xs.size ∧ ∀ i, i < c.length → R0 Z β γ T w P (c.getD i .dead) (xs.getD i undef)
  | a, v => R0 Z β γ T w P a v
def R2 (Z : Zs) (β : List Bk) (γ : List Value) (T : Toks) (w : World) (P : Program) : AV → Value → Prop
  | .agg cs, v => ∃ xs : Array Value, v = .agg xs ∧ cs.length = xs.size ∧ ∀ i, i < cs.length → R1 Z β γ T w P (cs.getD i .dead) (xs.getD i undef)
  | a, v => R1 Z β γ T w P a v
def R3 (Z : Zs) (β : List Bk) (γ : List Value) (T : Toks) (w : World) (P : Program) : AV → Value → Prop
  | .tup l, v => ∃ xs : Array Value, v = .tuple xs ∧ l.length = xs.size ∧ ∀ i, i < l.length → R2 Z β γ T w P (l.getD i .dead) (xs.getD i undef)
  | a, v => R2 Z β γ T w P a v
/-- Outside of M a world is as it was. -/
structure Keep (M : Nat → Prop) (w w' : World) : Prop where
  os : w'.os = w.os
  tape : w'.tape = w.tape
  output : w'.output = w.output
  size : w.heap.size ≤ w'.heap.size
  block : ∀ k, k < w.heap.size → ¬ M k → w'.heap[k]? = w.heap[k]?
theorem Keep.refl (M : Nat → Prop) (w : World) : Keep M w w := ⟨rfl, rfl, rfl, Nat.le_refl _, fun _ _ _ => rfl⟩
theorem Keep.trans {M : Nat → Prop} {a b c : World} (h : Keep M a b) (k : Keep M b c) : Keep M a c :=
  ⟨k.os.trans h.os, k.tape.trans h.tape, k.output.trans h.output, Nat.le_trans h.size k.size, fun i hi hm => (k.block i (Nat.lt_of_lt_of_le hi h.size) hm).trans (h.block i hi hm)⟩
/-- A map's entries. -/
def ME (Z : Zs) (w : World) : List (Int × AV) → List MapEntry → Prop
  | [], [] => True
  | p :: l, e :: m => (e.key = .int .i64 p.1 ∧ DR Z w p.2 e.val ∧ d2 p.2 = true) ∧ ME Z w l m
  | _, _ => False
/-- The chains that variables may hold. -/
def gT [TVm] (γ : List Value) : List Value := if TVm.tv = true then γ else []
def tT [TVm] (T : Toks) : Toks := if TVm.tv = true then T else []
/-- What an object's block holds. -/
def Cont [TVm] (P : Program) (Z : Zs) (β : List Bk) (γ : List Value) (T : Toks) (w : World) : Ob → Bk → Prop
  | .var d cs, b => b.v = 0 ∧ (d = true → cs.all d1 = true) ∧ ∃ cur e, w.heap[b.g]? = some (.cells cur e (0, 0)) ∧ cs.length = cur.size ∧ ∀ j, j < cs.length → R1 Z β (gT γ) (tT T) w P (cs.getD j .dead) (cur.getD j undef)
  | .row d ver k e l, b => ver = b.v ∧ b.k = k ∧ 0 < k ∧ tsz P e = some k ∧ l.length ≤ b.c ∧ b.c ≤ maxLen ∧ (∀ x ∈ l, x.cells.length = k) ∧ (d = true → l.all d2 = true) ∧
      ∃ cur, w.heap[b.g]? = some (.cells cur e (0, 0)) ∧ cur.size = b.c * k ∧ ∀ i j, i < l.length → j < k → R1 Z β [] [] w P ((l.getD i .dead).cells.getD j .dead) (cur.getD (i * k + j) undef)
  | .map es, b => b.v = 0 ∧ ∃ ens clk, w.heap[b.g]? = some (.map ens clk) ∧ ME Z w es ens.toList
  | .iter s pos, b => b.v = 0 ∧ w.heap[b.g]? = some (.stringIter s pos)
  | .dead, _ => True
/-- The two memories, held together. -/
structure EN [TVm] (P : Program) (w0 : World) (Z0 : Zs) (M0 : Nat → Prop) (Z : Zs) (β : List Bk) (γ : List Value) (S : Obs) (T : Toks) (w : World) : Prop where
  kp : Keep M0 w0 w
  zc : ZExt Z0 Z w0 w
  zn : ∀ b o, Z b o → b < w0.heap.size → Z0 b o ∨ M0 b
  zs : ∀ b o, Z b o → b < w.heap.size
  bl : β.length = S.length
  gl : γ.length = T.length
  ob : ∀ (id : Nat) o, S[id]? = some o → o.live = true → ∃ b, β[id]? = some b ∧ (M0 b.g ∨ w0.heap.size ≤ b.g) ∧ b.g < w.heap.size ∧ (∀ p, ¬ Z b.g p) ∧ Cont P Z β γ T w o b
  bi : ∀ (i j : Nat) oi oj bi bj, S[i]? = some oi → oi.live = true → S[j]? = some oj → oj.live = true → β[i]? = some bi → β[j]? = some bj → bi.g = bj.g → i = j
  tk : ∀ (τ : Nat) e, T[τ]? = some (some e) → ∃ v, γ[τ]? = some v ∧ OwnS P Z (LB S β) M0 w0.heap.size w e v
  ti : ∀ (τ σ : Nat) e f u v g, T[τ]? = some (some e) → T[σ]? = some (some f) → γ[τ]? = some u → γ[σ]? = some v → spare u = some g → spare v = some g → τ = σ
/-- A frame. -/
structure FR (P : Program) (Z : Zs) (β : List Bk) (γ : List Value) (T : Toks) (w : World) (fr : List AV) (a : Act) : Prop where
  tl : fr.length = a.tmps.size
  df : a.defers = []
  tv : ∀ t, t < fr.length → R3 Z β γ T w P (fr.getD t .dead) (a.tmps.getD t undef)
/-- What keeps values: the cells of Z, the objects' places, the living chains. -/
structure VX (Z Z' : Zs) (β β' : List Bk) (γ γ' : List Value) (T T' : Toks) (w w' : World) : Prop where
  z : ZExt Z Z' w w'
  b : ∀ (id : Nat) b, β[id]? = some b → ∃ b', β'[id]? = some b' ∧ b.v ≤ b'.v ∧ (b.v = b'.v → b' = b)
  l : T.length ≤ T'.length
  t : ∀ (τ : Nat) e, τ < T.length → T'[τ]? = some (some e) → T[τ]? = some (some e) ∧ γ'[τ]? = γ[τ]?
theorem VX.refl (Z : Zs) (β : List Bk) (γ : List Value) (T : Toks) (w : World) : VX Z Z β β γ γ T T w w :=
  ⟨.refl Z w, fun _ b h => ⟨b, h, Nat.le_refl _, fun _ => rfl⟩, Nat.le_refl _, fun τ e _ h => ⟨h, rfl⟩⟩
theorem VX.trans {Z Z' Z'' : Zs} {β β' β'' : List Bk} {γ γ' γ'' : List Value} {T T' T'' : Toks} {w w' w'' : World} (h : VX Z Z' β β' γ γ' T T' w w') (k : VX Z' Z'' β' β'' γ' γ'' T' T'' w' w'') : VX Z Z'' β β'' γ γ'' T T'' w w'' :=
  ⟨h.z.trans k.z, fun id b x => by
    obtain ⟨b1, h1, h2, h3⟩ := h.b id b x
    obtain ⟨b2, k1, k2, k3⟩ := k.b id b1 h1
    exact ⟨b2, k1, by omega, fun e => by rw [k3 (by omega), h3 (by omega)]⟩, Nat.le_trans h.l k.l, fun τ e ht hx => by
    obtain ⟨a, b⟩ := k.t τ e (Nat.lt_of_lt_of_le ht h.l) hx
    obtain ⟨c, d⟩ := h.t τ e ht a
    exact ⟨c, b.trans d⟩⟩
theorem VX.ofZ {Z Z' : Zs} {w w' : World} (h : ZExt Z Z' w w') (β : List Bk) (γ : List Value) (T : Toks) : VX Z Z' β β γ γ T T w w' :=
  ⟨h, fun _ b h => ⟨b, h, Nat.le_refl _, fun _ => rfl⟩, Nat.le_refl _, fun τ e _ h => ⟨h, rfl⟩⟩
section
variable {P : Program} {Z Z' : Zs} {β β' : List Bk} {γ γ' : List Value} {T T' : Toks} {w w' : World}
theorem R0.ext (X : VX Z Z' β β' γ γ' T T' w w') {a : AV} {v : Value} (h : R0 Z β γ T w P a v) : R0 Z' β' γ' T' w' P a v := by
  cases a with
  | ptr id off =>
    obtain ⟨b, a, h1, h2, h3⟩ := h
    obtain ⟨b', k1, k2, k3⟩ := X.b _ _ h1
    exact ⟨b', a, k1, h2, fun e => by rw [k3 (by omega)]; exact h3 (by omega)⟩
  | ms id ver n =>
    obtain ⟨b, A, C, h1, h2, h3, h4, h5, h6⟩ := h
    obtain ⟨b', k1, k2, k3⟩ := X.b _ _ h1
    exact ⟨b', A, C, k1, by omega, h3, h4, h5, fun e => by rw [k3 (by omega)]; exact h6 (by omega)⟩
  | ep id ver i off =>
    obtain ⟨b, a, h1, h2, h3, h4⟩ := h
    obtain ⟨b', k1, k2, k3⟩ := X.b _ _ h1
    exact ⟨b', a, k1, by omega, h3, fun e => by rw [k3 (by omega)]; exact h4 (by omega)⟩
  | mp id =>
    obtain ⟨b, a, h1, h2, h3⟩ := h
    obtain ⟨b', k1, k2, k3⟩ := X.b _ _ h1
    exact ⟨b', a, k1, h2, fun e => by rw [k3 (by omega)]; exact h3 (by omega)⟩
  | ifc t x => exact DR.ext X.z h
  | mo id ver k a n =>
    obtain ⟨b, A, C, h1, h2, h3, h4, h5, h6⟩ := h
    obtain ⟨b', k1, k2, k3⟩ := X.b _ _ h1
    exact ⟨b', A, C, k1, by omega, h3, h4, h5, fun e => by rw [k3 (by omega)]; exact h6 (by omega)⟩
  | dead => trivial
  | sl o l =>
    refine ⟨h.1.ext X.z, ?_⟩
    have h2 := h.2
    cases o with
    | no => trivial
    | nil => exact h2
    | full => exact h2
    | sm => exact h2
    | own τ =>
      refine ⟨Nat.lt_of_lt_of_le h2.1 X.l, fun e he => ?_⟩
      obtain ⟨h3, h4⟩ := X.t τ e h2.1 he
      rw [h4]; exact h2.2 e h3
  | v x => exact DR.ext X.z h
  | agg cs => exact DR.ext X.z h
  | tup l => exact DR.ext X.z h
  | ea cs => exact DR.ext X.z h
  | fn f c => exact DR.ext X.z h
theorem R1.ext (X : VX Z Z' β β' γ γ' T T' w w') {a : AV} {v : Value} (h : R1 Z β γ T w P a v) : R1 Z' β' γ' T' w' P a v := by
  cases a with
  | fn f c => obtain ⟨xs, h1, h2, h3⟩ := h; exact ⟨xs, h1, h2, fun i hi => (h3 i hi).ext X⟩
  | _ => simp only [R1] at h ⊢; exact R0.ext X h
theorem R2.ext (X : VX Z Z' β β' γ γ' T T' w w') {a : AV} {v : Value} (h : R2 Z β γ T w P a v) : R2 Z' β' γ' T' w' P a v := by
  cases a with
  | agg cs => obtain ⟨xs, h1, h2, h3⟩ := h; exact ⟨xs, h1, h2, fun i hi => (h3 i hi).ext X⟩
  | _ => simp only [R2] at h ⊢; exact R1.ext X h
theorem R3.ext (X : VX Z Z' β β' γ γ' T T' w w') {a : AV} {v : Value} (h : R3 Z β γ T w P a v) : R3 Z' β' γ' T' w' P a v := by
  cases a with
  | tup l => obtain ⟨xs, h1, h2, h3⟩ := h; exact ⟨xs, h1, h2, fun i hi => (h3 i hi).ext X⟩
  | _ => simp only [R3] at h ⊢; exact R2.ext X h
theorem FR.ext (X : VX Z Z' β β' γ γ' T T' w w') {fr : List AV} {a : Act} (h : FR P Z β γ T w fr a) : FR P Z' β' γ' T' w' fr a :=
  ⟨h.tl, h.df, fun t ht => (h.tv t ht).ext X⟩
/-- A frame with one more value. -/
theorem FR.put {fr : List AV} {a : Act} (h : FR P Z β γ T w fr a) (d : Option Tmp) {x : AV} {v : Value} (hx : R3 Z β γ T w P x v) : FR P Z β γ T w (put fr d x) (a.put d v) := by
  cases d with
  | none => exact h
  | some d =>
    refine ⟨by simp [Ev.put, Act.put, h.tl], h.df, fun t ht => ?_⟩
    have ht' : t < fr.length := by simpa [Ev.put] using ht
    by_cases e : t = d
    · subst e
      have e1 : (Ev.put fr (some t) x).getD t .dead = x := by simp [Ev.put, List.getD_eq_getElem?_getD, ht']
      have e2 : (a.put (some t) v).tmps.getD t undef = v := by simp [Act.put, Array.getD_eq_getD_getElem?, h.tl ▸ ht']
      rw [e1, e2]; exact hx
    · have e1 : (Ev.put fr (some d) x).getD t .dead = fr.getD t .dead := by simp [Ev.put, List.getD_eq_getElem?_getD, List.getElem?_set_ne (Ne.symm e)]
      have e2 : (a.put (some d) v).tmps.getD t undef = a.tmps.getD t undef := by simp [Act.put, Array.getD_eq_getD_getElem?, Array.getElem?_setIfInBounds_ne (Ne.symm e)]
      rw [e1, e2]; exact h.tv t ht'
end
/-! ### From relation to relation -/
section
variable {P : Program} {Z : Zs} {β : List Bk} {γ : List Value} {T : Toks} {w : World}
theorem DR.tok {o o' : Tok} {l : List AV} {v : Value} (h : DR Z w (.sl o l) v) : DR Z w (.sl o' l) v := by
  cases h with
  | nil o a c h => exact .nil o' a c h
  | sl o l b p c k xs hc hk hz h => exact .sl o' l b p c k xs hc hk hz h
theorem DR.v_inv {x v : Value} (h : DR Z w (.v x) v) : v = x ∧ plainV v = true := by
  cases h with
  | v x h => exact ⟨rfl, h⟩
theorem DR.fn_inv {f : FuncId} {c : List AV} {v : Value} (h : DR Z w (.fn f c) v) : ∃ xs : Array Value, v = .func (.func f) #[] xs ∧ c.length = xs.size ∧ ∀ i, i < c.length → DR Z w (c.getD i .dead) (xs.getD i undef) := by
  cases h with
  | fn f c xs hl h => exact ⟨xs, rfl, hl, h⟩
theorem DR.ea_inv {cs : List AV} {v : Value} (h : DR Z w (.ea cs) v) : ∃ b p, ∃ xs : Nat → Value, v = .pointer (some ⟨b, p, none⟩) ∧ (∀ j, j < cs.length → Z b (p + j) ∧ w.cell? ⟨b, p + j, none⟩ = some (xs j)) ∧ ∀ j, j < cs.length → DR Z w (cs.getD j .dead) (xs j) := by
  cases h with
  | ea cs b p xs hz h => exact ⟨b, p, xs, rfl, hz, h⟩
theorem DR.sl_inv {o : Tok} {l : List AV} {v : Value} (h : DR Z w (.sl o l) v) : (l = [] ∧ ∃ a c, v = .slice a 0 c ∧ (a = none → c = 0)) ∨ ∃ b p c k, ∃ xs : Nat → Nat → Value, v = .slice (some ⟨b, p, none⟩) l.length c ∧ l.length ≤ c ∧ (∀ i, i < l.length → (l.getD i .dead).cells.length = k) ∧
    (∀ i j, i < l.length → j < k → Z b (p + (i * k + j)) ∧ w.cell? ⟨b, p + (i * k + j), none⟩ = some (xs i j)) ∧ ∀ i j, i < l.length → j < k → DR Z w ((l.getD i .dead).cells.getD j .dead) (xs i j) := by
  cases h with
  | nil o a c h => exact .inl ⟨rfl, a, c, rfl, h⟩
  | sl o l b p c k xs hc hk hz h => exact .inr ⟨b, p, c, k, xs, rfl, hc, hk, hz, h⟩
theorem DR.agg_inv {c : List AV} {v : Value} (h : DR Z w (.agg c) v) : ∃ xs : Array Value, v = .agg xs ∧ c.length = xs.size ∧ ∀ i, i < c.length → DR Z w (c.getD i .dead) (xs.getD i undef) := by
  cases h with
  | agg c xs hl h => exact ⟨xs, rfl, hl, h⟩
theorem DR.tup_inv {c : List AV} {v : Value} (h : DR Z w (.tup c) v) : ∃ xs : Array Value, v = .tuple xs ∧ c.length = xs.size ∧ ∀ i, i < c.length → DR Z w (c.getD i .dead) (xs.getD i undef) := by
  cases h with
  | tup c xs hl h => exact ⟨xs, rfl, hl, h⟩
theorem DR.s0 {a : AV} {v : Value} (h : DR Z w a v) : DR Z w (s0 a) v := by
  cases a <;> first | exact h | exact h.tok
theorem R0.of_no {l : List AV} {v : Value} (h : DR Z w (.sl .no l) v) : R0 Z β γ T w P (.sl .no l) v := ⟨h, trivial⟩
/-- Data without rights is a value anywhere. -/
theorem DR.r0 {a : AV} {v : Value} (h : DR Z w a v) : R0 Z β γ T w P (Ev.s0 a) v := by
  cases a with
  | sl o l => exact ⟨h.tok, trivial⟩
  | ptr i o => cases h
  | ms id ver n => cases h
  | ep id ver i o => cases h
  | mp id => cases h
  | mo id ver k a n => cases h
  | dead => trivial
  | _ => exact h
theorem getD_map_lt {f : AV → AV} {l : List AV} {i : Nat} (hi : i < l.length) : (l.map f).getD i .dead = f (l.getD i .dead) := by
  simp [List.getD_eq_getElem?_getD, hi]
theorem DR.r1 {a : AV} {v : Value} (h : DR Z w a v) : R1 Z β γ T w P (Ev.s1 a) v := by
  cases a with
  | fn f c =>
    obtain ⟨xs, rfl, hl, h⟩ := DR.fn_inv h
    exact ⟨xs, rfl, by simpa using hl, fun i hi => by
        have hi' : i < c.length := by simpa using hi
        rw [getD_map_lt hi']; exact (h i hi').r0⟩
  | sl o l => simp only [R1, Ev.s1, Ev.s0]; exact ⟨h.tok, trivial⟩
  | ptr i o => cases h
  | ms id ver n => cases h
  | ep id ver i o => cases h
  | mp id => cases h
  | mo id ver k a n => cases h
  | dead => trivial
  | v x => exact h
  | agg cs => exact h
  | tup l => exact h
  | ea cs => exact h
  | ifc t x => exact h
theorem DR.r2 {a : AV} {v : Value} (h : DR Z w a v) : R2 Z β γ T w P (Ev.s2 a) v := by
  cases a with
  | agg cs =>
    obtain ⟨xs, rfl, hl, h⟩ := DR.agg_inv h
    exact ⟨xs, rfl, by simpa using hl, fun i hi => by
        have hi' : i < cs.length := by simpa using hi
        rw [getD_map_lt hi']; exact (h i hi').r1⟩
  | _ => simp only [R2, Ev.s2]; exact DR.r1 h
theorem DR.r3 {a : AV} {v : Value} (h : DR Z w a v) : R3 Z β γ T w P (Ev.s3 a) v := by
  cases a with
  | tup l =>
    obtain ⟨xs, rfl, hl, h⟩ := DR.tup_inv h
    exact ⟨xs, rfl, by simpa using hl, fun i hi => by
        have hi' : i < l.length := by simpa using hi
        rw [getD_map_lt hi']; exact (h i hi').r2⟩
  | _ => simp only [R3, Ev.s3]; exact DR.r2 h
theorem all_getD {p : AV → Bool} {l : List AV} (h : l.all p = true) {i : Nat} (hi : i < l.length) : p (l.getD i .dead) = true := by
  rw [List.getD_eq_getElem?_getD, List.getElem?_eq_getElem hi]
  exact List.all_eq_true.mp h _ (List.getElem_mem hi)
theorem R0.dr {a : AV} {v : Value} (h : R0 Z β γ T w P a v) (hd : d0 a = true) : DR Z w a v := by
  cases a with
  | sl o l => exact h.1
  | v x => exact h
  | ea cs => exact h
  | ifc t x => exact h
  | _ => exact absurd hd (by simp [d0])
theorem R1.dr {a : AV} {v : Value} (h : R1 Z β γ T w P a v) (hd : d1 a = true) : DR Z w a v := by
  cases a with
  | fn f c => obtain ⟨xs, rfl, h2, h3⟩ := h; exact .fn f c xs h2 fun i hi => (h3 i hi).dr (all_getD hd hi)
  | _ => simp only [R1] at h; exact R0.dr h hd
theorem R2.dr {a : AV} {v : Value} (h : R2 Z β γ T w P a v) (hd : d2 a = true) : DR Z w a v := by
  cases a with
  | agg cs => obtain ⟨xs, rfl, h2, h3⟩ := h; exact .agg cs xs h2 fun i hi => (h3 i hi).dr (all_getD hd hi)
  | _ => simp only [R2] at h; exact R1.dr h hd
theorem R3.dr {a : AV} {v : Value} (h : R3 Z β γ T w P a v) (hd : d3 a = true) : DR Z w a v := by
  cases a with
  | tup l => obtain ⟨xs, rfl, h2, h3⟩ := h; exact .tup l xs h2 fun i hi => (h3 i hi).dr (all_getD hd hi)
  | _ => simp only [R3] at h; exact R2.dr h hd
theorem d0_s0 {a : AV} (h : d0 a = true) : d0 (Ev.s0 a) = true := by cases a <;> first | exact h | rfl
theorem DR.s1 {a : AV} {v : Value} (h : DR Z w a v) : DR Z w (s1 a) v := by
  cases a with
  | fn f c =>
    obtain ⟨xs, rfl, hl, h⟩ := DR.fn_inv h
    refine .fn f _ xs (by simpa using hl) fun i hi => ?_
    have hi' : i < c.length := by simpa using hi
    rw [getD_map_lt hi']; exact (h i hi').s0
  | _ => simp only [Ev.s1]; exact h.s0
theorem DR.s2 {a : AV} {v : Value} (h : DR Z w a v) : DR Z w (s2 a) v := by
  cases a with
  | agg cs =>
    obtain ⟨xs, rfl, hl, h⟩ := DR.agg_inv h
    refine .agg _ xs (by simpa using hl) fun i hi => ?_
    have hi' : i < cs.length := by simpa using hi
    rw [getD_map_lt hi']; exact (h i hi').s1
  | _ => simp only [Ev.s2]; exact h.s1
theorem DR.s3 {a : AV} {v : Value} (h : DR Z w a v) : DR Z w (s3 a) v := by
  cases a with
  | tup l =>
    obtain ⟨xs, rfl, hl, h⟩ := DR.tup_inv h
    refine .tup _ xs (by simpa using hl) fun i hi => ?_
    have hi' : i < l.length := by simpa using hi
    rw [getD_map_lt hi']; exact (h i hi').s2
  | _ => simp only [Ev.s3]; exact h.s2
/-- The one cell of a value. -/
theorem R1.r2 {a : AV} {v : Value} (h : R1 Z β γ T w P a v) (ho : one a = true) : R2 Z β γ T w P a v := by
  cases a <;> first | exact h | exact absurd ho (by simp [one])
theorem R2.r1 {a : AV} {v : Value} (h : R2 Z β γ T w P a v) (ho : one a = true) : R1 Z β γ T w P a v := by
  cases a <;> first | exact h | exact absurd ho (by simp [one])
theorem R3.r2 {a : AV} {v : Value} (h : R3 Z β γ T w P a v) (ho : a ≠ .tup [] ∧ (∀ l, a ≠ .tup l)) : R2 Z β γ T w P a v := by
  cases a <;> first | exact h | exact absurd rfl (ho.2 _)
theorem one_cell {a : AV} {v : Value} (h : R1 Z β γ T w P a v) (ho : one a = true) : v.oneCell' = true := by
  cases a with
  | v x =>
    have h' : DR Z w (.v x) v := h
    obtain ⟨rfl, hp⟩ := DR.v_inv h'
    cases v <;> first | rfl | exact absurd hp (by simp [plainV])
  | sl o l => cases h.1 <;> rfl
  | ea cs => cases h; rfl
  | ptr id off => obtain ⟨b, a, _, rfl, _⟩ := h; rfl
  | ms id ver n => obtain ⟨b, A, C, _, _, rfl, _⟩ := h; rfl
  | ep id ver i off => obtain ⟨b, a, _, _, rfl, _⟩ := h; rfl
  | mp id => obtain ⟨b, r, _, rfl, _⟩ := h; rfl
  | mo id ver k a n => obtain ⟨b, A, C, _, _, rfl, _⟩ := h; rfl
  | ifc t x => cases (show DR Z w (.ifc t x) v from h); rfl
  | fn f c => obtain ⟨xs, rfl, _⟩ := h; rfl
  | agg cs => exact absurd ho (by simp [one])
  | tup l => exact absurd ho (by simp [one])
  | dead => exact absurd ho (by simp [one])
/-- The cells of a value, and the cells of what stands for it. -/
theorem R2.cells {a : AV} {v : Value} (h : R2 Z β γ T w P a v) (ho : a.cells.all one = true) : a.cells.length = v.cells.size ∧ ∀ j, j < a.cells.length → R1 Z β γ T w P (a.cells.getD j .dead) (v.cells.getD j undef) := by
  have key : one a = true → a.cells = [a] → v.cells = #[v] → R1 Z β γ T w P a v → a.cells.length = v.cells.size ∧ ∀ j, j < a.cells.length → R1 Z β γ T w P (a.cells.getD j .dead) (v.cells.getD j undef) := by
    intro _ h1 h2 h3
    rw [h1, h2]
    refine ⟨rfl, fun j hj => ?_⟩
    obtain rfl : j = 0 := by simpa using hj
    exact h3
  have vc : ∀ v : Value, v.oneCell' = true → v.cells = #[v] := by intro v hv; cases v <;> first | rfl | exact absurd hv (by simp [Value.oneCell'])
  cases a with
  | agg cs => obtain ⟨xs, rfl, h2, h3⟩ := h; exact ⟨h2, h3⟩
  | v x => exact key rfl rfl (vc _ (@one_cell P Z β γ T w (.v x) v h rfl)) h
  | sl o l => exact key rfl rfl (vc _ (@one_cell P Z β γ T w (.sl o l) v h rfl)) h
  | ea cs => exact key rfl rfl (vc _ (@one_cell P Z β γ T w (.ea cs) v h rfl)) h
  | ptr id off => exact key rfl rfl (vc _ (@one_cell P Z β γ T w (.ptr id off) v h rfl)) h
  | ms id ver n => exact key rfl rfl (vc _ (@one_cell P Z β γ T w (.ms id ver n) v h rfl)) h
  | ep id ver i off => exact key rfl rfl (vc _ (@one_cell P Z β γ T w (.ep id ver i off) v h rfl)) h
  | mp id => exact key rfl rfl (vc _ (@one_cell P Z β γ T w (.mp id) v h rfl)) h
  | mo id ver k a n => exact key rfl rfl (vc _ (@one_cell P Z β γ T w (.mo id ver k a n) v h rfl)) h
  | ifc t x => exact key rfl rfl (vc _ (@one_cell P Z β γ T w (.ifc t x) v h rfl)) h
  | fn f c => exact key rfl rfl (vc _ (@one_cell P Z β γ T w (.fn f c) v h rfl)) h
  | tup l => simp [AV.cells, one] at ho
  | dead => simp [AV.cells, one] at ho
theorem toAV0_r {x : Value} : R0 Z β γ T w P (toAV0 x) x := by
  unfold toAV0
  split
  case h_9 => 
    split
    · rename_i f a b h
      obtain ⟨h1, h2⟩ := h
      obtain rfl : a = #[] := Array.eq_empty_of_size_eq_zero h1
      obtain rfl : b = #[] := Array.eq_empty_of_size_eq_zero h2
      exact .fn f [] #[] rfl (fun i hi => absurd hi (by simp))
    · trivial
  case h_8 => exact ⟨.nil _ none 0 (fun _ => rfl), rfl⟩
  case h_10 => trivial
  all_goals exact .v _ rfl
theorem toAV0_fn {x : Value} {f : FuncId} {c : List AV} (e : toAV0 x = .fn f c) : c = [] := by
  unfold toAV0 at e
  split at e
  case h_9 => split at e <;> cases e; rfl
  all_goals cases e
theorem toAV0_agg {x : Value} {c : List AV} : toAV0 x ≠ .agg c ∧ toAV0 x ≠ .tup c := by
  unfold toAV0
  split
  case h_9 => split <;> exact ⟨by simp, by simp⟩
  all_goals exact ⟨by simp, by simp⟩
theorem toAV0_r1 {x : Value} : R1 Z β γ T w P (toAV0 x) x := by
  have h : R0 Z β γ T w P (toAV0 x) x := toAV0_r
  cases e : toAV0 x with
  | fn f c =>
    rw [e] at h
    obtain ⟨xs, rfl, hl, h⟩ := DR.fn_inv h
    have hc : c = [] := toAV0_fn e
    subst hc
    exact ⟨xs, rfl, hl, fun i hi => absurd hi (by simp)⟩
  | _ => rw [e] at h; exact h
theorem ifc_inv {t : TypeId} {x : AV} {v : Value} (h : DR Z w (.ifc t x) v) : ∃ u, v = .iface t u ∧ DR Z w x u := by
  cases h with
  | ifc t x u h => exact ⟨u, rfl, h⟩
theorem R0.t0 {a : AV} {v : Value} (h : R0 Z β γ T w P a v) : R0 Z β [] [] w P (Ev.t0 a) v := by
  cases a with
  | sl o l =>
    cases o with
    | own τ => exact ⟨h.1.tok, trivial⟩
    | _ => exact h
  | _ => exact h
theorem R1.t1 {a : AV} {v : Value} (h : R1 Z β γ T w P a v) : R1 Z β [] [] w P (Ev.t1 a) v := by
  cases a with
  | fn f c =>
    obtain ⟨xs, h1, h2, h3⟩ := h
    exact ⟨xs, h1, by simpa using h2, fun i hi => by
      have hi' : i < c.length := by simpa using hi
      rw [getD_map_lt hi']; exact (h3 i hi').t0⟩
  | sl o l => cases o <;> first | exact h | exact ⟨h.1.tok, trivial⟩
  | _ => exact h
theorem R2.t2 {a : AV} {v : Value} (h : R2 Z β γ T w P a v) : R2 Z β [] [] w P (Ev.t2 a) v := by
  cases a with
  | agg c =>
    obtain ⟨xs, h1, h2, h3⟩ := h
    exact ⟨xs, h1, by simpa using h2, fun i hi => by
      have hi' : i < c.length := by simpa using hi
      rw [getD_map_lt hi']; exact (h3 i hi').t1⟩
  | sl o l => cases o <;> first | exact h | exact ⟨h.1.tok, trivial⟩
  | fn f c => exact R1.t1 (show R1 Z β γ T w P (.fn f c) v from h)
  | _ => exact h
theorem R3.t3 {a : AV} {v : Value} (h : R3 Z β γ T w P a v) : R3 Z β [] [] w P (Ev.t3 a) v := by
  cases a with
  | tup c =>
    obtain ⟨xs, h1, h2, h3⟩ := h
    exact ⟨xs, h1, by simpa using h2, fun i hi => by
      have hi' : i < c.length := by simpa using hi
      rw [getD_map_lt hi']; exact (h3 i hi').t2⟩
  | sl o l => cases o <;> first | exact h | exact ⟨h.1.tok, trivial⟩
  | fn f c => exact R1.t1 (show R1 Z β γ T w P (.fn f c) v from h)
  | agg c => exact R2.t2 (show R2 Z β γ T w P (.agg c) v from h)
  | _ => exact h
theorem R0.s0 {a : AV} {v : Value} (h : R0 Z β γ T w P a v) : R0 Z β [] [] w P (Ev.s0 a) v := by
  cases a with
  | sl o l => exact ⟨h.1.tok, trivial⟩
  | _ => exact h
theorem R1.s1 {a : AV} {v : Value} (h : R1 Z β γ T w P a v) : R1 Z β [] [] w P (Ev.s1 a) v := by
  cases a with
  | fn f c =>
    obtain ⟨xs, h1, h2, h3⟩ := h
    exact ⟨xs, h1, by simpa using h2, fun i hi => by
      have hi' : i < c.length := by simpa using hi
      rw [getD_map_lt hi']; exact (h3 i hi').s0⟩
  | sl o l => exact R0.s0 (show R0 Z β γ T w P (.sl o l) v from h)
  | _ => exact h
theorem R2.s2 {a : AV} {v : Value} (h : R2 Z β γ T w P a v) : R2 Z β [] [] w P (Ev.s2 a) v := by
  cases a with
  | agg c =>
    obtain ⟨xs, h1, h2, h3⟩ := h
    exact ⟨xs, h1, by simpa using h2, fun i hi => by
      have hi' : i < c.length := by simpa using hi
      rw [getD_map_lt hi']; exact (h3 i hi').s1⟩
  | sl o l => exact R0.s0 (show R0 Z β γ T w P (.sl o l) v from h)
  | fn f c => exact R1.s1 (show R1 Z β γ T w P (.fn f c) v from h)
  | _ => exact h
theorem VX.chains (Z : Zs) (β : List Bk) (γ : List Value) (T : Toks) (w : World) : VX Z Z β β [] γ [] T w w :=
  ⟨.refl Z w, fun _ b h => ⟨b, h, Nat.le_refl _, fun _ => rfl⟩, Nat.zero_le _, fun τ e h => absurd h (Nat.not_lt_zero τ)⟩
theorem ME.ext {Z' : Zs} {w' : World} (E : ZExt Z Z' w w') : ∀ (l : List (Int × AV)) (m : List MapEntry), ME Z w l m → ME Z' w' l m
  | [], [], _ => trivial
  | p :: l, e :: m, h => ⟨⟨h.1.1, h.1.2.1.ext E, h.1.2.2⟩, ME.ext E l m h.2⟩
  | [], _ :: _, h => h
  | _ :: _, [], h => h
theorem VX.vars [TVm] {Z' : Zs} {β' : List Bk} {γ' : List Value} {T' : Toks} {w' : World} (X : VX Z Z' β β' γ γ' T T' w w') : VX Z Z' β β' (gT γ) (gT γ') (tT T) (tT T') w w' := by
  unfold gT tT
  by_cases h : TVm.tv = true
  · simp only [if_pos h]; exact X
  · simp only [if_neg h]; exact ⟨X.z, X.b, Nat.le_refl _, fun τ e h => absurd h (Nat.not_lt_zero τ)⟩
/-- A variable's value in the hand. -/
theorem VX.hand [TVm] (Z : Zs) (β : List Bk) (γ : List Value) (T : Toks) (w : World) : VX Z Z β β (gT γ) γ (tT T) T w w := by
  unfold gT tT
  by_cases h : TVm.tv = true
  · simp only [if_pos h]; exact .refl _ _ _ _ _
  · simp only [if_neg h]; exact .chains Z β γ T w
/-- An object is as it was, where its block is. -/
theorem Cont.ext [TVm] {Z' : Zs} {β' : List Bk} {γ' : List Value} {T' : Toks} {w' : World} (X : VX Z Z' β β' γ γ' T T' w w') {o : Ob} {b : Bk} (hb : w'.heap[b.g]? = w.heap[b.g]?) (h : Cont P Z β γ T w o b) : Cont P Z' β' γ' T' w' o b := by
  have X0 : VX Z Z' β β' [] [] [] [] w w' := ⟨X.z, X.b, Nat.le_refl _, fun τ e h => absurd h (Nat.not_lt_zero τ)⟩
  have XT := X.vars
  cases o with
  | var d cs =>
    obtain ⟨h1, h2, cur, e, h3, h4, h5⟩ := h
    exact ⟨h1, h2, cur, e, hb.trans h3, h4, fun j hj => (h5 j hj).ext XT⟩
  | row d ver k e l =>
    obtain ⟨h1, h2, h3, h4, h5, h6, h7, h8, cur, h9, h10, h11⟩ := h
    exact ⟨h1, h2, h3, h4, h5, h6, h7, h8, cur, hb.trans h9, h10, fun i j hi hj => (h11 i j hi hj).ext X0⟩
  | map es =>
    obtain ⟨h1, ens, clk, h2, h3⟩ := h
    exact ⟨h1, ens, clk, hb.trans h2, h3.ext X.z⟩
  | iter s pos => exact ⟨h.1, hb.trans h.2⟩
  | dead => trivial
theorem toAV_r {x : Value} : R3 Z β γ T w P (toAV x) x := by
  unfold toAV
  split
  · rename_i cs
    refine ⟨cs, rfl, by simp, fun i hi => ?_⟩
    have hi' : i < cs.size := by simpa using hi
    have e1 : (cs.toList.map toAV0).getD i .dead = toAV0 cs[i] := by simp [List.getD_eq_getElem?_getD, hi']
    have e2 : cs.getD i undef = cs[i] := by simp [Array.getD, hi']
    rw [e1, e2]
    exact toAV0_r1
  · rename_i cs
    split
    · rename_i h
      obtain rfl : cs = #[] := Array.eq_empty_of_size_eq_zero h
      exact ⟨#[], rfl, rfl, fun i hi => absurd hi (by simp)⟩
    · trivial
  · have h : R1 Z β γ T w P (toAV0 x) x := toAV0_r1
    have key : ∀ a : AV, a = toAV0 x → R1 Z β γ T w P a x → R3 Z β γ T w P a x := by
      intro a e h
      cases a with
      | agg cs => exact absurd e.symm (toAV0_agg (x := x) (c := cs)).1
      | tup l => exact absurd e.symm (toAV0_agg (x := x) (c := l)).2
      | _ => exact h
    exact key _ rfl h
end
end Go.Proofs.Ytplpmelpoajpdaa.Ev
namespace Go.Proofs.Ytplpmelpoajpdaa.Ev
open Go
set_option linter.unusedVariables false
set_option linter.unusedSimpArgs false
section
variable {P : Program} {Z : Zs} {β : List Bk} {γ : List Value} {T : Toks} {w : World}
theorem R3.v_inv {x v : Value} (h : R3 Z β γ T w P (.v x) v) : v = x ∧ plainV v = true := DR.v_inv (show DR Z w (.v x) v from h)
theorem R3.of_v {x : Value} (h : plainV x = true) : R3 Z β γ T w P (.v x) x := DR.v x h
theorem opd_r {fr : List AV} {a : Act} (F : FR P Z β γ T w fr a) (y : Operand) : R3 Z β γ T w P (opd fr y) (a.eval y) := by
  cases y with
  | tmp t =>
    by_cases ht : t < fr.length
    · exact F.tv t ht
    · have e : fr.getD t .dead = .dead := by simp [List.getD_eq_getElem?_getD, List.getElem?_eq_none (Nat.le_of_not_lt ht)]
      show R3 Z β γ T w P (fr.getD t .dead) _
      rw [e]; trivial
  | const x => exact toAV_r
  | global g => trivial
  | func f => exact ⟨#[], rfl, rfl, fun i hi => absurd hi (by simp)⟩
theorem intA_run {op : BinOp} {t : TypeId} {k : IntKind} {a b : Int} {r : Value} (h : intA op k a b = some r) : (binOp op t (.int k a) (.int k b)).run P w = .ok r w ∧ plainV r = true := by
  cases op <;> simp only [intA] at h <;> (try split at h) <;> simp only [Option.some.injEq, reduceCtorEq] at h <;> subst h <;>
    simp_all [binOp, Op.intArith, Op.intDiv, Op.intBits, Op.intCmp, plainV]
theorem shA_run {op : BinOp} {t : TypeId} {k k' : IntKind} {a b : Int} {r : Value} (h : shA op k a b = some r) (ho : op = .shl ∨ op = .shr) : (binOp op t (.int k a) (.int k' b)).run P w = .ok r w ∧ plainV r = true := by
  rcases ho with rfl | rfl <;> simp only [shA] at h <;> split at h <;> simp only [Option.some.injEq, reduceCtorEq] at h <;> subst h <;> refine ⟨?_, rfl⟩ <;>
    (rename_i hb; simp [binOp, Op.shift, hb])
theorem strA_run {op : BinOp} {t : TypeId} {a b : ByteArray} {r : Value} (h : strA op a b = some r) : (binOp op t (.string a) (.string b)).run P w = .ok r w ∧ plainV r = true := by
  cases op <;> simp only [strA] at h <;> (try split at h) <;> simp only [Option.some.injEq, reduceCtorEq] at h <;> subst h <;> simp_all [binOp, Op.stringOp, plainV]
theorem eqGuard_int {op : BinOp} {t : TypeId} {x y : Operand} {k : IntKind} {c : Int} {b : Value} : (eqGuard op t x y (.int k c) b).run P w = .ok () w := by
  unfold eqGuard; cases op <;> rfl
theorem eqGuard_str {op : BinOp} {t : TypeId} {x y : Operand} {c : ByteArray} {b : Value} : (eqGuard op t x y (.string c) b).run P w = .ok () w := by
  unfold eqGuard; cases op <;> rfl
theorem eqGuard_bool {op : BinOp} {t : TypeId} {x y : Operand} {c : Bool} {b : Value} : (eqGuard op t x y (.bool c) b).run P w = .ok () w := by
  unfold eqGuard; cases op <;> rfl
theorem run_sz {t : TypeId} {n : Nat} (h : tsz P t = some n) : (sizeOf t).run P w = .ok n w := by
  unfold tsz at h
  obtain ⟨i, hi, rfl⟩ := Option.map_eq_some_iff.1 h
  simp [sizeOf, typeInfo, hi]
theorem run_ag {t : TypeId} {b : Bool} (h : tagg P t = some b) : (isAgg t).run P w = .ok b w := by
  unfold tagg at h
  cases hu : P.underlying t with
  | none => rw [hu] at h; cases h
  | some d => cases d <;> rw [hu] at h <;> cases h <;> simp [isAgg, run_underlying hu]
theorem getD_take_drop {α : Type} {l : List α} {off n j : Nat} {d : α} (hj : j < n) : ((l.drop off).take n).getD j d = l.getD (off + j) d := by
  simp [List.getD_eq_getElem?_getD, List.getElem?_take, hj, List.getElem?_drop]
theorem R1.one3 {x : AV} {v : Value} (h : R1 Z β γ T w P x v) (ho : one x = true) : R3 Z β γ T w P x v := by
  cases x <;> first | exact h | exact absurd ho (by simp [one])
theorem ofC_r {ag : Bool} {cs : List AV} {x : AV} {xs : List Value} (h : ofC ag cs = some x) (hl : cs.length = xs.length) (hr : ∀ j, j < cs.length → R1 Z β γ T w P (cs.getD j .dead) (xs.getD j undef)) :
    (ag = true → R3 Z β γ T w P x (.agg xs.toArray)) ∧ (ag = false → ∃ u, xs = [u] ∧ cs = [x] ∧ R3 Z β γ T w P x u) := by
  constructor
  · rintro rfl
    simp only [ofC, Option.some.injEq] at h
    subst h
    exact ⟨xs.toArray, rfl, by simpa using hl, fun i hi => by
      have := hr i hi
      simpa [List.getD_eq_getElem?_getD, Array.getD_eq_getD_getElem?] using this⟩
  · rintro rfl
    match cs, xs, hl with
    | [y], [u], _ =>
      simp only [ofC] at h
      split at h
      · rename_i ho
        simp only [Option.some.injEq] at h
        subst h
        exact ⟨u, rfl, rfl, R1.one3 (hr 0 (by simp)) ho⟩
      · cases h
    | [], [], _ => simp [ofC] at h
    | _ :: _ :: _, _ :: _ :: _, _ => simp [ofC] at h
theorem part_run {t : TypeId} {n o : Nat} {ag : Bool} {cs : List AV} {xs : Array Value} {y : AV} (h1 : tsz P t = some n) (h2 : tagg P t = some ag) (hl : cs.length = xs.size) (hle : o + n ≤ cs.length) (hc : (ag || n == 1) = true)
    (hR : ∀ j, j < cs.length → R1 Z β γ T w P (cs.getD j .dead) (xs.getD j undef)) (hy : ofC ag ((cs.drop o).take n) = some y) : ∃ u, (part t xs o).run P w = .ok u w ∧ R3 Z β γ T w P y u := by
  have hk := ofC_r (xs := (xs.toList.drop o).take n) hy (by simp; omega) (fun j hj => by
    have hj' : j < n := by simp at hj; omega
    rw [getD_take_drop hj', getD_take_drop hj']
    have := hR (o + j) (by omega)
    simpa [List.getD_eq_getElem?_getD, Array.getD_eq_getD_getElem?] using this)
  cases ag with
  | true =>
    refine ⟨_, ?_, hk.1 rfl⟩
    simp only [part, Sem.run_bind, run_ag h2, Result.andThen_ok, if_true, run_sz h1, Sem.run_pure]
    congr 2
    apply Array.ext'
    simp [Array.toList_extract, List.extract_eq_take_drop]
  | false =>
    obtain ⟨u, hu, _, hr⟩ := hk.2 rfl
    refine ⟨u, ?_, hr⟩
    have hn : n = 1 := by simpa using hc
    subst hn
    have h0 : xs[o]? = some u := by
      have := congrArg (fun l => l[0]?) hu
      simpa [List.getElem?_take, List.getElem?_drop] using this
    simp [part, run_ag h2, h0]
theorem fs_run {rel : TypeId → AV → AV → Option Bool} {m : Nat} (hrel : ∀ t x y r a b, rel t x y = some r → R3 Z β γ T w P x a → R3 Z β γ T w P y b → (Op.equalIn m t a b).run P w = .ok r w) {xs ys : List AV} {us vs : Array Value}
    (hx : xs.length = us.size) (hy : ys.length = vs.size) (hX : ∀ j, j < xs.length → R1 Z β γ T w P (xs.getD j .dead) (us.getD j undef)) (hY : ∀ j, j < ys.length → R1 Z β γ T w P (ys.getD j .dead) (vs.getD j undef)) :
    ∀ (fs : List Field) (r : Bool), eqFs P rel fs xs ys = some r → (Op.eqFields m us vs fs).run P w = .ok r w
  | [], r, h => by
    simp only [eqFs, Option.some.injEq] at h
    subst h; rfl
  | f :: fs, r, h => by
    simp only [eqFs] at h
    split at h
    case h_2 => cases h
    rename_i n ag h1 h2
    split at h
    case isFalse => cases h
    rename_i hc
    obtain ⟨c1, c2, c3, c4⟩ := hc
    split at h
    case h_2 => cases h
    rename_i x y hx1 hy1
    split at h
    case h_2 => cases h
    rename_i p q hp hq
    simp only [Option.some.injEq] at h
    subst h
    obtain ⟨u, hu, hU⟩ := part_run h1 h2 hx c2 c4 hX hx1
    obtain ⟨v, hv, hV⟩ := part_run h1 h2 hy c3 c4 hY hy1
    have hr := hrel _ _ _ _ _ _ hp hU hV
    have ih := fs_run hrel hx hy hX hY fs q hq
    simp only [Op.eqFields, if_pos c1, Sem.run_bind, hu, hv, hr, Result.andThen_ok, Sem.run_ite]
    cases p with
    | true => simpa using ih
    | false => simp
/-- What two values that are held against each other may be. -/
def Shp (c : Bool) (x : AV) (a b : Value) : Prop :=
  (∃ p q, a = .bool p ∧ b = .bool q) ∨ (∃ k p q, a = .int k p ∧ b = .int k q) ∨ (∃ p q, a = .string p ∧ b = .string q) ∨ (isAgg' x = true ∧ ∃ p q, a = .agg p ∧ b = .agg q) ∨ (∃ p, a = .pointer p ∧ b = .pointer none) ∨
  (a = .nilFunc ∧ b = .nilFunc) ∨ (∃ f y z, a = .func f y z ∧ b = .nilFunc) ∨ (∃ p, a = .map p ∧ b = .map none) ∨ (a = .nilIface ∧ b = .nilIface ∧ c = true) ∨ (∃ t u, a = .iface t u ∧ b = .nilIface) ∨ (∃ A l n, a = .slice A l n ∧ b = .slice none 0 0)
theorem eqN_run : ∀ (n m : Nat) (c : Bool), n ≤ m → ∀ (t : TypeId) (x y : AV) (r : Bool) (a b : Value), eqN P c n t x y = some r → R3 Z β γ T w P x a → R3 Z β γ T w P y b → (Op.equalIn m t a b).run P w = .ok r w ∧ Shp c x a b
  | 0, m, c, _, t, x, y, r, a, b, h, _, _ => by cases h
  | n + 1, 0, c, hm, _, _, _, _, _, _, _, _, _ => by omega
  | n + 1, m + 1, c, hm, t, x, y, r, a, b, h, hx, hy => by
    simp only [eqN] at h
    split at h
    · rename_i hu
      split at h
      case h_2 => cases h
      obtain ⟨rfl, _⟩ := hx.v_inv
      obtain ⟨rfl, _⟩ := hy.v_inv
      simp only [Option.some.injEq] at h
      subst h
      exact ⟨run_equalIn_bool' w m t _ _ hu, .inl ⟨_, _, rfl, rfl⟩⟩
    · rename_i hu
      split at h
      case h_2 => cases h
      obtain ⟨rfl, _⟩ := hx.v_inv
      obtain ⟨rfl, _⟩ := hy.v_inv
      split at h
      case isFalse => cases h
      rename_i hk
      subst hk
      simp only [Option.some.injEq] at h
      subst h
      exact ⟨run_equalIn_int w m t _ _ _ _ hu, .inr (.inl ⟨_, _, _, rfl, rfl⟩)⟩
    · rename_i hu
      split at h
      case h_2 => cases h
      obtain ⟨rfl, _⟩ := hx.v_inv
      obtain ⟨rfl, _⟩ := hy.v_inv
      simp only [Option.some.injEq] at h
      subst h
      exact ⟨run_equalIn_string w m t _ _ hu, .inr (.inr (.inl ⟨_, _, rfl, rfl⟩))⟩
    · rename_i fs hu
      split at h
      case h_2 => cases h
      rename_i xs ys
      split at h
      case isFalse => cases h
      rename_i hs
      obtain ⟨us, rfl, hl, hX⟩ := hx
      obtain ⟨vs, rfl, hl', hY⟩ := hy
      have hf : P.fieldsOf t = fs := by simp [Program.fieldsOf, hu]
      refine ⟨?_, .inr (.inr (.inr (.inl ⟨rfl, _, _, rfl, rfl⟩)))⟩
      rw [run_equalIn_struct w m t us vs (by rw [hf]; exact hu) hs, hf]
      exact fs_run (fun t x y r a b h hx hy => (eqN_run n m false (by omega) t x y r a b h hx hy).1) hl hl' hX hY fs.toList r h
    · rename_i hu
      split at h
      · obtain ⟨rfl, _⟩ := hx.v_inv
        obtain ⟨rfl, _⟩ := hy.v_inv
        simp only [Option.some.injEq] at h
        subst h
        exact ⟨by simp [Op.equalIn, run_underlying hu], (.inr (.inr (.inr (.inr (.inl ⟨_, rfl, rfl⟩)))))⟩
      · obtain ⟨rfl, _⟩ := hy.v_inv
        obtain ⟨bk, ad, _, rfl, _⟩ := hx
        simp only [Option.some.injEq] at h
        subst h
        exact ⟨by simp [Op.equalIn, run_underlying hu], (.inr (.inr (.inr (.inr (.inl ⟨_, rfl, rfl⟩)))))⟩
      · cases h
    · rename_i hu
      split at h
      · obtain ⟨rfl, _⟩ := hx.v_inv
        obtain ⟨rfl, _⟩ := hy.v_inv
        simp only [Option.some.injEq] at h
        subst h
        exact ⟨by simp [Op.equalIn, run_underlying hu], (.inr (.inr (.inr (.inr (.inr (.inl ⟨rfl, rfl⟩))))))⟩
      · obtain ⟨rfl, _⟩ := hy.v_inv
        obtain ⟨xs, rfl, _⟩ := hx
        simp only [Option.some.injEq] at h
        subst h
        exact ⟨by simp [Op.equalIn, run_underlying hu], (.inr (.inr (.inr (.inr (.inr (.inr (.inl ⟨_, _, _, rfl, rfl⟩)))))))⟩
      · cases h
    · rename_i hu
      split at h
      · obtain ⟨rfl, _⟩ := hx.v_inv
        obtain ⟨rfl, _⟩ := hy.v_inv
        simp only [Option.some.injEq] at h
        subst h
        exact ⟨by simp [Op.equalIn, run_underlying hu], (.inr (.inr (.inr (.inr (.inr (.inr (.inr (.inl ⟨_, rfl, rfl⟩))))))))⟩
      · obtain ⟨rfl, _⟩ := hy.v_inv
        obtain ⟨bk, ad, _, rfl, _⟩ := hx
        simp only [Option.some.injEq] at h
        subst h
        exact ⟨by simp [Op.equalIn, run_underlying hu], (.inr (.inr (.inr (.inr (.inr (.inr (.inr (.inl ⟨_, rfl, rfl⟩))))))))⟩
      · cases h
    · rename_i hu
      split at h
      · obtain ⟨rfl, _⟩ := hx.v_inv
        obtain ⟨rfl, _⟩ := hy.v_inv
        split at h
        case isFalse => cases h
        simp only [Option.some.injEq] at h
        subst h
        exact ⟨by simp [Op.equalIn, run_underlying hu], (.inr (.inr (.inr (.inr (.inr (.inr (.inr (.inr (.inl ⟨rfl, rfl, by assumption⟩)))))))))⟩
      · obtain ⟨rfl, _⟩ := hy.v_inv
        obtain ⟨u, rfl, _⟩ := ifc_inv hx
        simp only [Option.some.injEq] at h
        subst h
        exact ⟨by simp [Op.equalIn, run_underlying hu], (.inr (.inr (.inr (.inr (.inr (.inr (.inr (.inr (.inr (.inl ⟨_, _, rfl, rfl⟩))))))))))⟩
      · cases h
    · rename_i hu
      split at h
      · have e1 := hx.2
        have e2 := hy.2
        simp only at e1 e2
        subst e1 e2
        simp only [Option.some.injEq] at h
        subst h
        exact ⟨by simp [Op.equalIn, run_underlying hu], (.inr (.inr (.inr (.inr (.inr (.inr (.inr (.inr (.inr (.inr ⟨_, _, _, rfl, rfl⟩))))))))))⟩
      · have e2 := hy.2
        simp only at e2
        subst e2
        rcases DR.sl_inv hx.1 with ⟨h1, _⟩ | ⟨b', p, c', k, xs, rfl, _⟩
        · cases h1
        · simp only [Option.some.injEq] at h
          subst h
          exact ⟨by simp [Op.equalIn, run_underlying hu], (.inr (.inr (.inr (.inr (.inr (.inr (.inr (.inr (.inr (.inr ⟨_, _, _, rfl, rfl⟩))))))))))⟩
      · have e2 := hy.2
        simp only at e2
        subst e2
        obtain ⟨a', n', c', e1⟩ := hx.2
        subst e1
        simp only [Option.some.injEq] at h
        subst h
        exact ⟨by simp [Op.equalIn, run_underlying hu], (.inr (.inr (.inr (.inr (.inr (.inr (.inr (.inr (.inr (.inr ⟨_, _, _, rfl, rfl⟩))))))))))⟩
      · cases h
    · cases h
theorem eqA_run {c : Bool} {t : TypeId} {x y : AV} {a b : Value} {r : Bool} (h : eqA P c t x y = some r) (hx : R3 Z β γ T w P x a) (hy : R3 Z β γ T w P y b) (op : BinOp) (ho : op = .eql ∨ op = .neq) (p q : Operand) (hpq : c = (isConstO p || isConstO q)) (hni : ∀ k m n, ¬ (a = .int k m ∧ b = .int k n)) (hns : ∀ k m, ¬ (a = .string k ∧ b = .string m)) :
    (do eqGuard op t p q a b; binOp op t a b : Sem Value).run P w = .ok (.bool (if op = .eql then r else !r)) w := by
  unfold eqA at h
  split at h
  · cases h
  rename_i hg
  obtain ⟨he, hs⟩ := eqN_run 10 10000 c (by decide) t x y r a b h hx hy
  have he' : (Op.equal t a b).run P w = .ok r w := he
  rcases hs with ⟨u, v, rfl, rfl⟩ | ⟨k, u, v, rfl, rfl⟩ | ⟨u, v, rfl, rfl⟩ | ⟨hagg, u, v, rfl, rfl⟩ | ⟨u, rfl, rfl⟩ | ⟨rfl, rfl⟩ | ⟨f, u, v, rfl, rfl⟩ | ⟨u, rfl, rfl⟩ | ⟨rfl, rfl, hc⟩ | ⟨u, v, rfl, rfl⟩ | ⟨A, l, n, rfl, rfl⟩
  · rcases ho with rfl | rfl <;> simp [eqGuard, binOp, he']
  · exact absurd ⟨rfl, rfl⟩ (hni k u v)
  · exact absurd ⟨rfl, rfl⟩ (hns u v)
  · have hm : P.eqGuardType P.depth t = false := by
      cases hq : P.eqGuardType P.depth t with
      | false => rfl
      | true => exact absurd ⟨hagg, hq⟩ hg
    have hgd := run_eqGuard_agg w op t p q u v hm
    rcases ho with rfl | rfl <;> simp [hgd, binOp, he']
  · rcases ho with rfl | rfl <;> simp [eqGuard, binOp, he']
  · rcases ho with rfl | rfl <;> simp [eqGuard, binOp, he']
  · rcases ho with rfl | rfl <;> simp [eqGuard, binOp, he']
  · rcases ho with rfl | rfl <;> simp [eqGuard, binOp, he']
  · rw [hc] at hpq
    have hgd : (eqGuard op t p q .nilIface .nilIface).run P w = .ok () w := by
      unfold eqGuard
      rcases ho with rfl | rfl <;> cases p <;> cases q <;> first | rfl | exact absurd hpq.symm (by simp [isConstO])
    rcases ho with rfl | rfl <;> simp [hgd, binOp, he']
  · rcases ho with rfl | rfl <;> simp [eqGuard, binOp, he']
  · rcases ho with rfl | rfl <;> simp [eqGuard, binOp, he']
theorem eqN_v {c : Bool} {n : Nat} {t : TypeId} {x y : AV} {r : Bool} {k : IntKind} {u v : Int} (h : eqN P c (n + 1) t x y = some r) (hx : R3 Z β γ T w P x (.int k u)) (hy : R3 Z β γ T w P y (.int k v)) : ∃ k1 k2 u v, x = .v (.int k1 u) ∧ y = .v (.int k2 v) := by
  simp only [eqN] at h
  split at h
  all_goals (try split at h)
  all_goals first
    | exact ⟨_, _, _, _, rfl, rfl⟩
    | (cases h; done)
    | (obtain ⟨hv, _⟩ := hx.v_inv; cases hv; done)
    | (obtain ⟨bk, ad, _, hv, _⟩ := hx; cases hv; done)
    | (obtain ⟨xs, hv, _⟩ := hx; cases hv; done)
    | (obtain ⟨u, hv, _⟩ := ifc_inv hx; cases hv; done)
    | (rcases DR.sl_inv hx.1 with ⟨_, _, _, h1, _⟩ | ⟨b', p', c', k', xs', h1, _⟩ <;> cases h1)
theorem eqN_s {c : Bool} {n : Nat} {t : TypeId} {x y : AV} {r : Bool} {u v : ByteArray} (h : eqN P c (n + 1) t x y = some r) (hx : R3 Z β γ T w P x (.string u)) (hy : R3 Z β γ T w P y (.string v)) : ∃ u v, x = .v (.string u) ∧ y = .v (.string v) := by
  simp only [eqN] at h
  split at h
  all_goals (try split at h)
  all_goals first
    | exact ⟨_, _, rfl, rfl⟩
    | (cases h; done)
    | (obtain ⟨hv, _⟩ := hx.v_inv; cases hv; done)
    | (obtain ⟨bk, ad, _, hv, _⟩ := hx; cases hv; done)
    | (obtain ⟨xs, hv, _⟩ := hx; cases hv; done)
    | (obtain ⟨u, hv, _⟩ := ifc_inv hx; cases hv; done)
    | (rcases DR.sl_inv hx.1 with ⟨_, _, _, h1, _⟩ | ⟨b', p', c', k', xs', h1, _⟩ <;> cases h1)
theorem eqA_int {c : Bool} {t : TypeId} {x y : AV} {r : Bool} {k : IntKind} {u v : Int} (h : eqA P c t x y = some r) (hx : R3 Z β γ T w P x (.int k u)) (hy : R3 Z β γ T w P y (.int k v)) (hn : ∀ (k : IntKind) (a : Int) (k' : IntKind) (b : Int), x = .v (.int k a) → y = .v (.int k' b) → False) : False := by
  unfold eqA at h
  split at h
  · cases h
  · obtain ⟨k1, k2, u, v, rfl, rfl⟩ := eqN_v h hx hy
    exact hn _ _ _ _ rfl rfl
theorem eqA_str {c : Bool} {t : TypeId} {x y : AV} {r : Bool} {u v : ByteArray} (h : eqA P c t x y = some r) (hx : R3 Z β γ T w P x (.string u)) (hy : R3 Z β γ T w P y (.string v)) (hn : ∀ (a b : ByteArray), x = .v (.string a) → y = .v (.string b) → False) : False := by
  unfold eqA at h
  split at h
  · cases h
  · obtain ⟨u, v, rfl, rfl⟩ := eqN_s h hx hy
    exact hn _ _ rfl rfl
theorem binA_run {c : Bool} {op : BinOp} {t : TypeId} {x y r : AV} {a b : Value} (h : binA P c op t x y = some r) (hx : R3 Z β γ T w P x a) (hy : R3 Z β γ T w P y b) (p q : Operand) (hpq : c = (isConstO p || isConstO q)) :
    ∃ v, (do eqGuard op t p q a b; binOp op t a b : Sem Value).run P w = .ok v w ∧ R3 Z β γ T w P r v := by
  unfold binA at h
  split at h
  · rename_i k u k' v
    obtain ⟨rfl, _⟩ := hx.v_inv
    obtain ⟨rfl, _⟩ := hy.v_inv
    have hg : (eqGuard op t p q (.int k u) (.int k' v)).run P w = .ok () w := eqGuard_int
    split at h
    · obtain ⟨v, hv, rfl⟩ := Option.map_eq_some_iff.1 h
      obtain ⟨h1, h2⟩ := shA_run (P := P) (w := w) (t := t) (k' := k') hv (.inl rfl)
      exact ⟨v, by simp [hg, h1], .of_v h2⟩
    · obtain ⟨v, hv, rfl⟩ := Option.map_eq_some_iff.1 h
      obtain ⟨h1, h2⟩ := shA_run (P := P) (w := w) (t := t) (k' := k') hv (.inr rfl)
      exact ⟨v, by simp [hg, h1], .of_v h2⟩
    · split at h
      · rename_i e
        subst e
        obtain ⟨v, hv, rfl⟩ := Option.map_eq_some_iff.1 h
        obtain ⟨h1, h2⟩ := intA_run (P := P) (w := w) (t := t) hv
        exact ⟨v, by simp [hg, h1], .of_v h2⟩
      · cases h
  · rename_i u v
    obtain ⟨rfl, _⟩ := hx.v_inv
    obtain ⟨rfl, _⟩ := hy.v_inv
    have hg : (eqGuard op t p q (.string u) (.string v)).run P w = .ok () w := eqGuard_str
    obtain ⟨v, hv, rfl⟩ := Option.map_eq_some_iff.1 h
    obtain ⟨h1, h2⟩ := strA_run (P := P) (w := w) (t := t) hv
    exact ⟨v, by simp [hg, h1], .of_v h2⟩
  · rename_i hn1 hn2
    have hni : ∀ x' y' : AV, x' = x → y' = y → ∀ k m n, ¬ (a = .int k m ∧ b = .int k n) := by
      rintro x' y' rfl rfl k m n ⟨rfl, rfl⟩
      obtain ⟨r1, hr⟩ : ∃ r1, eqA P c t x' y' = some r1 := by
        split at h
        · obtain ⟨v, hv, rfl⟩ := Option.map_eq_some_iff.1 h; exact ⟨v, hv⟩
        · obtain ⟨v, hv, rfl⟩ := Option.map_eq_some_iff.1 h; exact ⟨v, hv⟩
        · cases h
      exact eqA_int hr hx hy hn1
    have hns : ∀ x' y' : AV, x' = x → y' = y → ∀ k m, ¬ (a = .string k ∧ b = .string m) := by
      rintro x' y' rfl rfl k m ⟨rfl, rfl⟩
      obtain ⟨r1, hr⟩ : ∃ r1, eqA P c t x' y' = some r1 := by
        split at h
        · obtain ⟨v, hv, rfl⟩ := Option.map_eq_some_iff.1 h; exact ⟨v, hv⟩
        · obtain ⟨v, hv, rfl⟩ := Option.map_eq_some_iff.1 h; exact ⟨v, hv⟩
        · cases h
      exact eqA_str hr hx hy hn2
    split at h
    · obtain ⟨v, hv, rfl⟩ := Option.map_eq_some_iff.1 h
      exact ⟨_, eqA_run hv hx hy .eql (.inl rfl) p q hpq (hni x y rfl rfl) (hns x y rfl rfl), .of_v rfl⟩
    · obtain ⟨v, hv, rfl⟩ := Option.map_eq_some_iff.1 h
      exact ⟨_, eqA_run hv hx hy .neq (.inr rfl) p q hpq (hni x y rfl rfl) (hns x y rfl rfl), .of_v rfl⟩
    · cases h
theorem unA_run {op : UnOp} {x r : AV} {a : Value} (h : unA op x = some r) (hx : R3 Z β γ T w P x a) : ∃ v, (Op.unary op a).run P w = .ok v w ∧ R3 Z β γ T w P r v := by
  unfold unA at h
  split at h
  · obtain ⟨rfl, _⟩ := hx.v_inv
    simp only [Option.some.injEq] at h
    subst h
    exact ⟨_, rfl, .of_v rfl⟩
  · obtain ⟨rfl, _⟩ := hx.v_inv
    simp only [Option.some.injEq] at h
    subst h
    exact ⟨_, rfl, .of_v rfl⟩
  · cases h
theorem convA_run {s d : TypeId} {x r : AV} {a : Value} (h : convA P s d x = some r) (hs : (P.underlying s).isSome = true) (hx : R3 Z β γ T w P x a) : ∃ v, (convert s d a).run P w = .ok v w ∧ R3 Z β γ T w P r v := by
  unfold convA at h
  split at h
  · obtain ⟨rfl, _⟩ := hx.v_inv
    split at h
    · rename_i hu
      simp only [Option.some.injEq] at h
      subst h
      obtain ⟨us, hus⟩ := Option.isSome_iff_exists.1 hs
      exact ⟨_, by simp [convert, underlying, hu, hus, Conv.intToInt], .of_v rfl⟩
    · cases h
  · cases h
end
end Go.Proofs.Ytplpmelpoajpdaa.Ev
namespace Go.Proofs.Ytplpmelpoajpdaa.Ev
open Go
set_option linter.unusedSectionVars false
set_option linter.unusedVariables false
set_option linter.unusedSimpArgs false
section
variable [TVm] {P : Program} {w0 : World} {Z0 : Zs} {M0 : Nat → Prop} {Z : Zs} {β : List Bk} {γ : List Value} {S : Obs} {T : Toks} {w : World}
theorem run_zero {t : TypeId} {cs : List AV} (h : tzero P t = some cs) : ∃ z, (zeroValue t).run P w = .ok z w ∧ cs = z.cells.toList.map toAV0 := by
  unfold tzero at h
  obtain ⟨i, hi, h⟩ := Option.bind_eq_some_iff.1 h
  obtain ⟨z, hz, rfl⟩ := Option.map_eq_some_iff.1 h
  exact ⟨z, by simp [zeroValue, typeInfo, hi, hz], rfl⟩
theorem rowA_inv {id ver : Nat} {r : Bool × Nat × TypeId × List AV} (h : rowA S id ver = some r) : S[id]? = some (.row r.1 ver r.2.1 r.2.2.1 r.2.2.2) := by
  unfold rowA at h
  split at h
  · rename_i d v k e l hs
    split at h
    · rename_i hv
      subst hv
      simp only [Option.some.injEq] at h
      subst h
      exact hs
    · cases h
  · cases h
/-- What the cells at an address hold. -/
theorem rdc_r (E : EN P w0 Z0 M0 Z β γ S T w) {x : AV} {v : Value} {n : Nat} {cs : List AV} (hx : R3 Z β γ T w P x v) (h : rdc S x n = some cs) :
    ∃ b o, v = .pointer (some ⟨b, o, none⟩) ∧ ∃ xs : List Value, xs.length = n ∧ cs.length = n ∧ (∀ j u, xs[j]? = some u → w.cell? ⟨b, o + j, none⟩ = some u) ∧ ∀ j, j < n → R1 Z β γ T w P (cs.getD j .dead) (xs.getD j undef) := by
  cases x with
  | ea cs0 =>
    simp only [rdc] at h
    have hx' : DR Z w (.ea cs0) v := hx
    split at h
    · rename_i hn
      simp only [Option.some.injEq] at h
      subst h
      obtain ⟨b, p, xs, rfl, hz, hd⟩ := hx'.ea_inv
      refine ⟨b, p, rfl, (List.range n).map xs, by simp, by simp [Nat.min_eq_left hn], ?_, ?_⟩
      · intro j u hu
        rw [List.getElem?_map] at hu
        obtain ⟨i, hi, rfl⟩ := Option.map_eq_some_iff.1 hu
        obtain ⟨hi1, rfl⟩ := List.getElem?_eq_some_iff.1 hi
        simp only [List.length_range] at hi1
        simp only [List.getElem_range]
        exact (hz j (by omega)).2
      · intro j hj
        have h1 : ((cs0.take n).map s1).getD j .dead = s1 (cs0.getD j .dead) := by
          rw [getD_map_lt (by simp; omega)]
          simp [List.getD_eq_getElem?_getD, List.getElem?_take, hj]
        have h2 : ((List.range n).map xs).getD j undef = xs j := by simp [List.getD_eq_getElem?_getD, hj]
        rw [h1, h2]
        exact (hd j (by omega)).r1
    · cases h
  | ptr id off =>
    simp only [rdc] at h
    obtain ⟨b, ad, hb, rfl, had⟩ := hx
    split at h
    case h_2 => cases h
    rename_i dd c0 hob
    split at h
    case isFalse => cases h
    rename_i hn
    simp only [Option.some.injEq] at h
    subst h
    obtain ⟨b', hb', _, _, _, hv, _, cur, e, hh, hl, hc⟩ := E.ob _ _ hob rfl
    obtain rfl : b = b' := by rw [hb] at hb'; exact Option.some.inj hb'
    obtain rfl := had hv
    refine ⟨b.g, off, rfl, (cur.toList.drop off).take n, by simp; omega, by simp; omega, ?_, ?_⟩
    · intro j u hu
      rw [List.getElem?_take] at hu
      split at hu
      · rw [List.getElem?_drop] at hu
        rw [cell_of_row w b.g (off + j) cur e (0, 0) hh]
        simpa using hu
      · cases hu
    · intro j hj
      rw [getD_take_drop hj, getD_take_drop hj]
      have := (hc (off + j) (by omega)).ext (VX.hand Z β γ T w)
      simpa [List.getD_eq_getElem?_getD, Array.getD_eq_getD_getElem?] using this
  | ep id ver i off =>
    simp only [rdc] at h
    obtain ⟨b, ad, hb, _, rfl, had⟩ := hx
    split at h
    case h_2 => cases h
    rename_i x1 x2 x3 l hrow
    split at h
    case h_2 => cases h
    rename_i y hy
    split at h
    case isFalse => cases h
    rename_i hn
    simp only [Option.some.injEq] at h
    subst h
    have hE := E.ob _ _ (rowA_inv hrow) rfl
    simp only [Cont] at hE
    obtain ⟨b', hb', _, _, _, hv, hk, hk0, hsz, hlc, _, hcells, _, cur, hh, hcs, hc⟩ := hE
    obtain rfl : b = b' := by rw [hb] at hb'; exact Option.some.inj hb'
    obtain rfl := had hv
    obtain ⟨hi, hyi⟩ := List.getElem?_eq_some_iff.1 hy
    have hyk : y.cells.length = x2 := hcells y (List.mem_of_getElem? hy)
    have hg : l.getD i .dead = y := by simp [List.getD_eq_getElem?_getD, hy]
    have hik : i * x2 + x2 ≤ cur.size := by
      rw [hcs]
      have := Nat.mul_le_mul_right x2 (show i + 1 ≤ b.c from Nat.le_trans hi hlc)
      rw [Nat.add_mul] at this; omega
    refine ⟨b.g, i * b.k + off, rfl, (cur.toList.drop (i * b.k + off)).take n, ?_, by simp; omega, ?_, ?_⟩
    · rw [hk]; simp; omega
    · intro j u hu
      rw [List.getElem?_take] at hu
      split at hu
      · rw [List.getElem?_drop] at hu
        rw [cell_of_row w b.g (i * b.k + off + j) cur x3 (0, 0) hh]
        simpa using hu
      · cases hu
    · intro j hj
      rw [getD_take_drop hj, getD_take_drop hj]
      have := (hc i (off + j) hi (by omega)).ext (VX.chains Z β γ T w)
      rw [hg] at this
      rw [hk, Nat.add_assoc]
      simpa [List.getD_eq_getElem?_getD, Array.getD_eq_getD_getElem?] using this
  | _ => simp [rdc] at h
theorem R2.r3 {x : AV} {v : Value} (h : R2 Z β γ T w P x v) (hx : ∀ l, x ≠ .tup l) : R3 Z β γ T w P x v := by
  cases x <;> first | exact absurd rfl (hx _) | exact h
end
end Go.Proofs.Ytplpmelpoajpdaa.Ev
namespace Go.Proofs.Ytplpmelpoajpdaa.Ev
open Go
set_option linter.unusedSectionVars false
set_option linter.unusedVariables false
set_option linter.unusedSimpArgs false
section
variable [TVm] {P : Program} {w0 : World} {Z0 : Zs} {M0 : Nat → Prop} {Z : Zs} {β : List Bk} {γ : List Value} {S : Obs} {T : Toks} {w : World}
theorem load_run (E : EN P w0 Z0 M0 Z β γ S T w) {t : TypeId} {x y : AV} {v : Value} {ag : Bool} {n : Nat} {cs : List AV} (hx : R3 Z β γ T w P x v) (h1 : tagg P t = some ag) (h2 : tsz P t = some n)
    (hc : (ag || n == 1) = true) (hr : rdc S x n = some cs) (ho : ofC ag cs = some y) : ∃ u, (loadVar t <$> Instr.sureAddr v).run P w = .ok (loadVar t (match v with | .pointer (some a) => a | _ => ⟨0, 0, none⟩)) w ∧ (Instr.loadAt t v).run P w = .ok u w ∧ R3 Z β γ T w P y u := by
  obtain ⟨b, o, rfl, xs, hl, hcl, hcell, hR⟩ := rdc_r E hx hr
  have hk := ofC_r ho (by omega) (fun j hj => hR j (by omega))
  have hld : (loadCells ⟨b, o, none⟩ n).run P w = .ok xs.toArray w := by
    have := run_loadCells_list (P := P) w ⟨b, o, none⟩ xs (fun j u hu => by rw [Addr.add_lit]; exact hcell j u hu)
    rw [hl] at this; exact this
  cases ag with
  | true =>
    refine ⟨.agg xs.toArray, rfl, ?_, hk.1 rfl⟩
    simp [Instr.loadAt, Instr.sureAddr, loadVar, run_ag h1, run_sz h2, hld]
  | false =>
    obtain ⟨u, rfl, _, hu⟩ := hk.2 rfl
    refine ⟨u, rfl, ?_, hu⟩
    have h0 := hcell 0 u rfl
    simp only [Nat.add_zero] at h0
    simp [Instr.loadAt, Instr.sureAddr, loadVar, run_ag h1, h0]
theorem fld_inv {t : TypeId} {i o n : Nat} {ag : Bool} (h : fld P t i = some (o, n, ag)) : ∃ fs f, P.underlying t = some (.struct fs) ∧ fs[i]? = some f ∧ f.offset = o ∧ tsz P f.type = some n ∧ tagg P f.type = some ag := by
  unfold fld at h
  split at h
  · rename_i fs hu
    split at h
    · rename_i f hf
      split at h
      · rename_i n' a' h1 h2
        simp only [Option.some.injEq, Prod.mk.injEq] at h
        obtain ⟨rfl, rfl, rfl⟩ := h
        exact ⟨fs, f, hu, hf, rfl, h1, h2⟩
      · cases h
    · cases h
  · cases h
theorem arr_inv {t : TypeId} {n k : Nat} {ag : Bool} (h : arr P t = some (n, k, ag)) : ∃ e, P.underlying t = some (.array n e) ∧ tsz P e = some k ∧ tagg P e = some ag := by
  unfold arr at h
  split at h
  · rename_i n' e hu
    split at h
    · rename_i k' a' h1 h2
      simp only [Option.some.injEq, Prod.mk.injEq] at h
      obtain ⟨rfl, rfl, rfl⟩ := h
      exact ⟨e, hu, h1, h2⟩
    · cases h
  · cases h
theorem tel_inv {t e : TypeId} (h : tel P t = some e) : P.underlying t = some (.slice e) := by
  unfold tel at h
  split at h
  · rename_i e' hu; simp only [Option.some.injEq] at h; subst h; exact hu
  · cases h
theorem ea_drop {cs : List AV} {v : Value} {o : Nat} (h : DR Z w (.ea cs) v) (ho : o ≤ cs.length) : ∃ b p, v = .pointer (some ⟨b, p, none⟩) ∧ DR Z w (.ea (cs.drop o)) (.pointer (some ⟨b, p + o, none⟩)) := by
  obtain ⟨b, p, xs, rfl, hz, hd⟩ := h.ea_inv
  refine ⟨b, p, rfl, .ea _ b (p + o) (fun j => xs (o + j)) ?_ ?_⟩
  · intro j hj
    simp only [List.length_drop] at hj
    rw [Nat.add_assoc]
    exact hz (o + j) (by omega)
  · intro j hj
    simp only [List.length_drop] at hj
    have := hd (o + j) (by omega)
    simpa [List.getD_eq_getElem?_getD, List.getElem?_drop] using this
theorem fieldAddr_run {t : TypeId} {i o n : Nat} {ag : Bool} {x y : AV} {v : Value} (hx : R3 Z β γ T w P x v) (h : fld P t i = some (o, n, ag)) (hn : 0 < n)
    (hy : fdA o n x = some y) :
    ∃ u, (Instr.fieldAt t v i).run P w = .ok u w ∧ R3 Z β γ T w P y u := by
  obtain ⟨fs, f, hu, hf, rfl, h1, h2⟩ := fld_inv h
  have key0 : ∀ a, v = .pointer (some a) → (Instr.fieldAt t v i).run P w = .ok (.pointer (some (a.add f.offset))) w := by
    rintro a rfl
    simp [Instr.fieldAt, run_underlying hu, hf, Instr.sureAddr, fieldPlace, run_sz h1, show n ≠ 0 by omega]
  have key : ∀ b p, v = .pointer (some ⟨b, p, none⟩) → (Instr.fieldAt t v i).run P w = .ok (.pointer (some ⟨b, p + f.offset, none⟩)) w := by
    intro b p hv
    rw [key0 _ hv, Addr.add_lit]
  cases x with
  | ptr id off =>
    simp only [fdA, Option.some.injEq] at hy
    subst hy
    obtain ⟨b, a, hb, rfl, ha⟩ := hx
    exact ⟨_, key0 _ rfl, b, _, hb, rfl, fun e => by rw [ha e, Addr.add_lit]⟩
  | ep id ver j off =>
    simp only [fdA, Option.some.injEq] at hy
    subst hy
    obtain ⟨b, a, hb, hle, rfl, ha⟩ := hx
    exact ⟨_, key0 _ rfl, b, _, hb, hle, rfl, fun e => by rw [ha e, Addr.add_lit, Nat.add_assoc]⟩
  | ea cs =>
    simp only [fdA] at hy
    split at hy
    · rename_i hle
      simp only [Option.some.injEq] at hy
      subst hy
      obtain ⟨b, p, rfl, hd⟩ := ea_drop (o := f.offset) (show DR Z w (.ea cs) v from hx) (by omega)
      exact ⟨_, key _ _ rfl, hd⟩
    · cases hy
  | _ => simp [fdA] at hy
theorem field_run {t : TypeId} {i o n : Nat} {ag : Bool} {cs : List AV} {y : AV} {v : Value} (hx : R3 Z β γ T w P (.agg cs) v) (h : fld P t i = some (o, n, ag)) (hle : o + n ≤ cs.length) (hc : (ag || n == 1) = true)
    (hy : ofC ag ((cs.drop o).take n) = some y) : ∃ u, (Instr.field t v i).run P w = .ok u w ∧ R3 Z β γ T w P y u := by
  obtain ⟨fs, f, hu, hf, rfl, h1, h2⟩ := fld_inv h
  obtain ⟨xs, rfl, hl, hR⟩ := hx
  obtain ⟨u, hr, hR'⟩ := part_run h1 h2 hl hle hc hR hy
  exact ⟨u, by simp [Instr.field, run_underlying hu, hf, asAgg, hr], hR'⟩
theorem idxV_inv {x : AV} {i : Int} {v : Value} (h : idxV x = some i) (hx : R3 Z β γ T w P x v) : ∃ k, v = .int k i := by
  unfold idxV at h
  split at h
  · rename_i k j
    simp only [Option.some.injEq] at h
    subst h
    exact ⟨k, hx.v_inv.1⟩
  · cases h
theorem elA_run {t : TypeId} {x i y : AV} {v u : Value} (h : elA P t x i = some y) (hx : R3 Z β γ T w P x v) (hi : R3 Z β γ T w P i u) : ∃ r, (Instr.indexAt t v u).run P w = .ok r w ∧ R3 Z β γ T w P y r := by
  unfold elA at h
  split at h
  · cases h
  rename_i m hm
  obtain ⟨k, rfl⟩ := idxV_inv hm hi
  split at h
  case isFalse => cases h
  rename_i h0
  cases x with
  | sl o l =>
    simp only at h
    split at h
    case h_2 => cases h
    rename_i e he
    split at h
    case h_2 => cases h
    rename_i n z hn hz
    split at h
    case isFalse => cases h
    rename_i hcl
    simp only [Option.some.injEq] at h
    subst h
    have hd : DR Z w (.sl o l) v := hx.1
    obtain ⟨hlt, hz'⟩ := List.getElem?_eq_some_iff.1 hz
    rcases hd.sl_inv with ⟨rfl, _⟩ | ⟨b, p, c, k', xs, rfl, hc, hk, hzz, hdd⟩
    · simp at hlt
    have hg : l.getD m.toNat .dead = z := by simp [List.getD_eq_getElem?_getD, hz]
    have hkn : k' = n := by rw [← hk _ hlt, hg, hcl]
    subst hkn
    refine ⟨.pointer (some ⟨b, p + m.toNat * k', none⟩), ?_, ?_⟩
    · have hb : 0 ≤ m ∧ m < (l.length : Int) := ⟨h0, by omega⟩
      simp [Instr.indexAt, asIntOf, run_underlying (tel_inv he), run_sz hn, Addr.add_lit, hb]
    · refine DR.ea _ b _ (fun j => xs m.toNat j) (fun j hj => ?_) (fun j hj => ?_)
      · rw [Nat.add_assoc]; exact hzz m.toNat j hlt (by omega)
      · have := hdd m.toNat j hlt (by omega)
        rw [hg] at this; exact this
  | ptr id off =>
    simp only at h
    split at h
    case h_2 => cases h
    rename_i n kk ag ha
    split at h
    case isFalse => cases h
    rename_i hlt
    simp only [Option.some.injEq] at h
    subst h
    obtain ⟨e, hu, hs, _⟩ := arr_inv ha
    obtain ⟨b, a, hb, rfl, ha⟩ := hx
    refine ⟨.pointer (some (a.add (m.toNat * kk))), ?_, b, _, hb, rfl, fun e => by rw [ha e, Addr.add_lit]⟩
    have hb : 0 ≤ m ∧ m < (n : Int) := ⟨h0, hlt⟩
    simp [Instr.indexAt, asIntOf, run_underlying hu, Instr.sureAddr, run_sz hs, hb]
  | _ => simp at h
theorem ixA_run {t : TypeId} {x i y : AV} {v u : Value} (h : ixA P t x i = some y) (hx : R3 Z β γ T w P x v) (hi : R3 Z β γ T w P i u) : ∃ r, (Instr.index t v u).run P w = .ok r w ∧ R3 Z β γ T w P y r := by
  unfold ixA at h
  split at h
  · cases h
  rename_i m hm
  obtain ⟨k, rfl⟩ := idxV_inv hm hi
  split at h
  case isFalse => cases h
  rename_i h0
  split at h
  · rename_i cs
    split at h
    case h_2 => cases h
    rename_i n kk ag ha
    split at h
    case isFalse => cases h
    rename_i hc
    obtain ⟨hlt, hle, hag⟩ := hc
    obtain ⟨e, hu, hs, h2⟩ := arr_inv ha
    obtain ⟨xs, rfl, hl, hR⟩ := hx
    obtain ⟨r, hr, hR'⟩ := part_run hs h2 hl hle hag hR h
    have hb : 0 ≤ m ∧ m < (n : Int) := ⟨h0, hlt⟩
    exact ⟨r, by simp [Instr.index, asIntOf, run_underlying hu, run_sz hs, hb, hr], hR'⟩
  · rename_i s
    split at h
    case h_2 => cases h
    rename_i b hb
    split at h
    case isFalse => cases h
    rename_i hs
    simp only [Option.some.injEq] at h
    subst h
    obtain ⟨rfl, _⟩ := hx.v_inv
    have hu : P.underlying t = some .string := by
      unfold isStr at hs
      split at hs
      · assumption
      · cases hs
    refine ⟨_, ?_, .of_v rfl⟩
    simp [Instr.index, asIntOf, run_underlying hu, h0, hb]
  · cases h
theorem elM_run (E : EN P w0 Z0 M0 Z β γ S T w) {t : TypeId} {id ver n : Nat} {i y : AV} {v u : Value} (h : elM P t id ver n i S = some y) (hx : R3 Z β γ T w P (.ms id ver n) v) (hi : R3 Z β γ T w P i u) : ∃ r, (Instr.indexAt t v u).run P w = .ok r w ∧ R3 Z β γ T w P y r := by
  unfold elM at h
  split at h
  case h_2 => cases h
  rename_i m e x1 k x2 l hm he hrow
  split at h
  case isFalse => cases h
  rename_i hc
  obtain ⟨c1, c2, c3, c4⟩ := hc
  simp only [Option.some.injEq] at h
  subst h
  obtain ⟨k0, rfl⟩ := idxV_inv hm hi
  obtain ⟨b, A, C, hb, hle, rfl, hnc, hA, hcur⟩ := hx
  have hE := E.ob _ _ (rowA_inv hrow) rfl
  simp only [Cont] at hE
  obtain ⟨b', hb', _, _, _, hv, hk, hk0, hsz, hlc, _⟩ := hE
  obtain rfl : b = b' := by rw [hb] at hb'; exact Option.some.inj hb'
  obtain ⟨rfl, rfl⟩ := hcur hv
  refine ⟨.pointer (some ⟨b.g, m.toNat * k, none⟩), ?_, b, _, hb, Nat.le_of_eq hv, rfl, fun _ => by rw [hk, Nat.add_zero]⟩
  have hb2 : 0 ≤ m ∧ m < (n : Int) := ⟨c1, c2⟩
  simp [Instr.indexAt, asIntOf, run_underlying (tel_inv he), run_sz c4, Addr.add_lit, hb2]
end
end Go.Proofs.Ytplpmelpoajpdaa.Ev
namespace Go.Proofs.Ytplpmelpoajpdaa.Ev
open Go
set_option linter.unusedSectionVars false
set_option linter.unusedVariables false
set_option linter.unusedSimpArgs false
section
variable [TVm] {P : Program} {w0 : World} {Z0 : Zs} {M0 : Nat → Prop} {Z : Zs} {β : List Bk} {γ : List Value} {S : Obs} {T : Toks} {w : World}
theorem bndA_some {m d r : Nat} {x : AV} {v : Value} {code : BoundsCode} (h : bndA m (some x) d = some r) (hx : R3 Z β γ T w P x v) : (Instr.sliceBound v m code).run P w = .ok r w ∧ r ≤ m := by
  simp only [bndA] at h
  split at h
  · rename_i i hi
    split at h
    · rename_i hb
      simp only [Option.some.injEq] at h
      subst h
      obtain ⟨k, rfl⟩ := idxV_inv hi hx
      exact ⟨by simp [Instr.sliceBound, asIntOf, hb], by omega⟩
    · cases h
  · cases h
theorem uni_at {n : Nat} {l : List AV} (h : uni n l = true) {i : Nat} (hi : i < l.length) : (l.getD i .dead).cells.length = n := by
  have := List.all_eq_true.mp h (l[i]) (List.getElem_mem hi)
  rw [List.getD_eq_getElem?_getD, List.getElem?_eq_getElem hi]
  simpa using this
/-- A part of a slice. -/
theorem DR.cut {o o' : Tok} {l : List AV} {v : Value} (h : DR Z w (.sl o l) v) (a b n : Nat) (hab : a ≤ b) (hb : b ≤ l.length) (hu : (a == 0 || uni n l) = true) :
    ∃ A len c, v = .slice A len c ∧ b ≤ c ∧ len = l.length ∧ ∀ c', b - a ≤ c' → (A = none → c' = 0) → DR Z w (.sl o' ((l.take b).drop a)) (.slice (if a = 0 then A else A.map (·.add (a * n))) (b - a) c') := by
  rcases h.sl_inv with ⟨rfl, a0, c0, rfl, h0⟩ | ⟨b0, p, c, k, xs, rfl, hc, hk, hz, hd⟩
  · have hb0 : b = 0 := by simpa using hb
    subst hb0
    obtain rfl : a = 0 := by omega
    exact ⟨a0, 0, c0, rfl, Nat.zero_le _, rfl, fun c' h1 h2 => .nil _ _ _ h2⟩
  · refine ⟨some ⟨b0, p, none⟩, l.length, c, rfl, by omega, rfl, fun c' h1 h2 => ?_⟩
    have hlen : ((l.take b).drop a).length = b - a := by simp; omega
    have hkn : a ≠ 0 → b - a ≠ 0 → k = n := by
      intro ha hba
      have hu' : uni n l = true := by
        have : (a == 0) = false := by simpa using ha
        rw [this] at hu; simpa using hu
      rw [← hk 0 (by omega), uni_at hu' (by omega)]
    have hadd : (if a = 0 then some (⟨b0, p, none⟩ : Addr) else (some (⟨b0, p, none⟩ : Addr)).map (·.add (a * n))) = some ⟨b0, p + a * n, none⟩ := by
      split
      · rename_i h; subst h; simp
      · simp [Addr.add_lit]
    rw [hadd, ← hlen]
    have hget : ∀ i, i < ((l.take b).drop a).length → ((l.take b).drop a).getD i .dead = l.getD (a + i) .dead := by
      intro i hi
      have : a + i < b := by omega
      simp [List.getD_eq_getElem?_getD, List.getElem?_drop, List.getElem?_take, this]
    have hoff : ∀ i j, i < ((l.take b).drop a).length → p + a * n + (i * k + j) = p + ((a + i) * k + j) := by
      intro i j hi
      by_cases ha : a = 0
      · subst ha; simp
      · have := hkn ha (by omega)
        subst this
        rw [Nat.add_mul]; omega
    refine .sl _ _ b0 (p + a * n) c' k (fun i j => xs (a + i) j) (by omega) (fun i hi => ?_) (fun i j hi hj => ?_) (fun i j hi hj => ?_)
    · rw [hget i hi]; exact hk _ (by omega)
    · rw [hoff i j hi]; exact hz (a + i) j (by omega) hj
    · rw [hget i hi]; exact hd (a + i) j (by omega) hj
theorem slA_run {t : TypeId} {x y : AV} {v : Value} {lo hi mx : Option Operand} {fr : List AV} {a : Act} (F : FR P Z β γ T w fr a) (hx : R3 Z β γ T w P x v)
    (h : slA P t x (lo.map (opd fr)) (hi.map (opd fr)) (mx.map (opd fr)) = some y) : ∃ r, (Instr.sliceAt t v (lo.map a.eval) (hi.map a.eval) (mx.map a.eval)).run P w = .ok r w ∧ R3 Z β γ T w P y r := by
  unfold slA at h
  cases x with
  | sl o l =>
    simp only at h
    split at h
    case h_2 => cases h
    rename_i e he
    split at h
    case h_2 => cases h
    rename_i n hh hn hbh
    split at h
    case h_2 => cases h
    rename_i aa hba
    have hu := tel_inv he
    have hd0 : DR Z w (.sl o l) v := hx.1
    obtain ⟨A, len, cap, rfl, _⟩ : ∃ A len c, v = .slice A len c ∧ True := by
      rcases hd0.sl_inv with ⟨_, _, _, rfl, _⟩ | ⟨_, _, _, _, _, rfl, _⟩
      · exact ⟨_, _, _, rfl, trivial⟩
      · exact ⟨_, _, _, rfl, trivial⟩
    have hlen : len = l.length := by
      rcases hd0.sl_inv with ⟨rfl, _, _, h1, _⟩ | ⟨_, _, _, _, _, h1, _⟩
      · cases h1; rfl
      · cases h1; rfl
    subst hlen
    have hcap : l.length ≤ cap ∧ (A = none → cap = 0) := by
      rcases hd0.sl_inv with ⟨rfl, _, _, h1, h2⟩ | ⟨_, _, _, _, _, h1, hc, _⟩
      · cases h1; exact ⟨Nat.zero_le _, h2⟩
      · cases h1; exact ⟨hc, fun h => by cases h⟩
    have hhle : hh ≤ l.length := by
      cases hi with
      | none => simp [bndA] at hbh; omega
      | some q => exact (bndA_some (code := .index) hbh (opd_r F q)).2
    have hale : aa ≤ hh := by
      cases lo with
      | none => simp [bndA] at hba; omega
      | some q => exact (bndA_some (code := .index) hba (opd_r F q)).2
    have hHiN : hi = none → hh = l.length := by rintro rfl; simp [bndA] at hbh; omega
    have hHi : ∀ q, hi = some q → ∀ (m : Nat) (code : BoundsCode), hh ≤ m → (Instr.sliceBound (a.eval q) m code).run P w = .ok hh w := by
      rintro q rfl m code hm
      have h1 := opd_r F q
      simp only [Option.map_some, bndA] at hbh
      split at hbh
      · rename_i i hi'
        split at hbh
        · rename_i hb
          simp only [Option.some.injEq] at hbh
          subst hbh
          obtain ⟨k, e⟩ := idxV_inv hi' h1
          rw [e]
          have : 0 ≤ i ∧ i ≤ (m : Int) := ⟨hb.1, by omega⟩
          simp [Instr.sliceBound, asIntOf, this]
        · cases hbh
      · cases hbh
    have hLoN : lo = none → aa = 0 := by rintro rfl; simp [bndA] at hba; omega
    have hLo : ∀ q, lo = some q → ∀ (code : BoundsCode), (Instr.sliceBound (a.eval q) hh code).run P w = .ok aa w := by
      rintro q rfl code
      exact (bndA_some hba (opd_r F q)).1
    split at h
    · split at h
      case isFalse => cases h
      rename_i hmx _ huni
      simp only [Option.some.injEq] at h
      subst h
      have hmx' : mx = none := by cases mx <;> simp_all
      subst hmx'
      obtain ⟨A', len', c', e1, _, _, hcut⟩ := hd0.cut (o' := .no) aa hh n hale hhle huni
      cases e1
      refine ⟨.slice (if cap = aa then A else A.map (·.add (aa * n))) (hh - aa) (cap - aa), ?_, ?_⟩
      · have e2 : (Instr.sliceBounds true l.length cap (lo.map a.eval) (hi.map a.eval) none).run P w = .ok (aa, hh, cap) w := by
          cases lo with
          | none =>
            obtain rfl := hLoN rfl
            cases hi with
            | none => rw [hHiN rfl]; simp [Instr.sliceBounds]
            | some q => simp [Instr.sliceBounds, hHi q rfl cap _ (by omega)]
          | some q' =>
            cases hi with
            | none =>
              have h2 := hLo q' rfl
              rw [hHiN rfl] at h2 ⊢
              simp [Instr.sliceBounds, h2]
            | some q => simp [Instr.sliceBounds, hHi q rfl cap _ (by omega), hLo q' rfl]
        simp [Instr.sliceAt, Instr.slice, run_underlying hu, e2, run_sz hn]
      · refine ⟨?_, trivial⟩
        by_cases hca : cap = aa
        · subst hca
          have hh' : hh = cap := by omega
          subst hh'
          simp only [if_true, Nat.sub_self]
          have hnil : (l.take hh).drop hh = [] := by simp
          rw [hnil]
          exact .nil _ _ _ (fun _ => rfl)
        · rw [if_neg hca]
          have := hcut (cap - aa) (by omega) (fun h => by have := hcap.2 h; omega)
          by_cases ha0 : aa = 0
          · subst ha0
            have e : A.map (·.add (0 * n)) = A := by cases A <;> simp [Addr.add]
            rw [e]; simpa using this
          · rw [if_neg ha0] at this; exact this
    · rename_i m' hmx
      split at h
      case h_2 => cases h
      rename_i q1 m hq1 hm
      split at h
      case isFalse => cases h
      rename_i hmm
      obtain ⟨hmh, huni⟩ := hmm
      simp only [Option.some.injEq] at h
      subst h
      obtain ⟨mq, rfl, rfl⟩ : ∃ mq, mx = some mq ∧ m' = opd fr mq := by
        cases mx with
        | none => simp at hmx
        | some mq => exact ⟨mq, rfl, by simpa using hmx.symm⟩
      obtain ⟨hq, rfl⟩ : ∃ hq, hi = some hq := by cases hi <;> simp_all
      obtain ⟨k, em⟩ := idxV_inv hm (opd_r F mq)
      obtain ⟨A', len', c', e1, _, _, hcut⟩ := hd0.cut (o' := .full) aa hh n hale hhle huni
      cases e1
      subst hmh
      refine ⟨.slice (if hh = aa then A else A.map (·.add (aa * n))) (hh - aa) (hh - aa), ?_, ?_⟩
      · have e2 : (Instr.sliceBounds true l.length cap (lo.map a.eval) (some (a.eval hq)) (some (a.eval mq))).run P w = .ok (aa, hh, hh) w := by
          have h1 : (Instr.sliceBound (a.eval mq) cap .slice3Acap).run P w = .ok hh w := by
            rw [em]
            have : 0 ≤ (hh : Int) ∧ (hh : Int) ≤ (cap : Int) := ⟨by omega, by omega⟩
            simp [Instr.sliceBound, asIntOf, this]
          have h2 := hHi hq rfl hh .slice3B (Nat.le_refl _)
          cases lo with
          | none =>
            obtain rfl := hLoN rfl
            simp [Instr.sliceBounds, h1, h2]
          | some q' => simp [Instr.sliceBounds, h1, h2, hLo q' rfl]
        simp [Instr.sliceAt, Instr.slice, run_underlying hu, e2, run_sz hn]
      · have hlen : ((l.take hh).drop aa).length = hh - aa := by simp; omega
        refine ⟨?_, _, by rw [hlen]⟩
        by_cases hca : hh = aa
        · subst hca
          simp only [if_true, Nat.sub_self]
          have hnil : (l.take hh).drop hh = [] := by simp
          rw [hnil]
          exact .nil _ _ _ (fun _ => rfl)
        · rw [if_neg hca]
          have := hcut (hh - aa) (Nat.le_refl _) (fun h => by have := hcap.2 h; omega)
          by_cases ha0 : aa = 0
          · subst ha0
            have e : A.map (·.add (0 * n)) = A := by cases A <;> simp [Addr.add]
            rw [e]; simpa using this
          · rw [if_neg ha0] at this; exact this
  | ms id ver n =>
    simp only at h
    split at h
    case h_2 => cases h
    rename_i e he
    split at h
    case h_2 => cases h
    rename_i nn hh hn hbh
    split at h
    case h_3 => cases h
    case h_1 =>
      rename_i a0 hba
      split at h
      case h_2 => cases h
      rename_i kk hmx hkk
      simp only [Option.some.injEq] at h
      subst h
      rw [hn] at hkk
      obtain rfl := Option.some.inj hkk
      have hu := tel_inv he
      obtain ⟨b, A, C, hb, hle, rfl, hnc, hA, hcur⟩ := hx
      have hmx' : mx = none := by cases mx <;> simp_all
      subst hmx'
      have hhle : hh ≤ n := by
        cases hi with
        | none => simp [bndA] at hbh; omega
        | some q => exact (bndA_some (code := .index) hbh (opd_r F q)).2
      have hHiN : hi = none → hh = n := by rintro rfl; simp [bndA] at hbh; omega
      have hHi : ∀ q, hi = some q → ∀ (m : Nat) (code : BoundsCode), hh ≤ m → (Instr.sliceBound (a.eval q) m code).run P w = .ok hh w := by
        rintro q rfl m code hm
        have h1 := opd_r F q
        simp only [Option.map_some, bndA] at hbh
        split at hbh
        · rename_i i hi'
          split at hbh
          · rename_i hb
            simp only [Option.some.injEq] at hbh
            subst hbh
            obtain ⟨k, e⟩ := idxV_inv hi' h1
            rw [e]
            have : 0 ≤ i ∧ i ≤ (m : Int) := ⟨hb.1, by omega⟩
            simp [Instr.sliceBound, asIntOf, this]
          · cases hbh
        · cases hbh
      have hale : a0 + 1 ≤ hh := by
        cases lo with
        | none => simp [bndA] at hba
        | some q => exact (bndA_some (code := .index) hba (opd_r F q)).2
      have hLo : ∀ q, lo = some q → ∀ (code : BoundsCode), (Instr.sliceBound (a.eval q) hh code).run P w = .ok (a0 + 1) w := by
        rintro q rfl code
        exact (bndA_some hba (opd_r F q)).1
      obtain ⟨q', rfl⟩ : ∃ q', lo = some q' := by
        cases lo with
        | none => simp [bndA] at hba
        | some q => exact ⟨q, rfl⟩
      have e2 : (Instr.sliceBounds true n C (some (a.eval q')) (hi.map a.eval) none).run P w = .ok (a0 + 1, hh, C) w := by
        cases hi with
        | none =>
          have h2 := hLo q' rfl
          rw [hHiN rfl] at h2 ⊢
          simp [Instr.sliceBounds, h2]
        | some q => simp [Instr.sliceBounds, hHi q rfl C _ (by omega), hLo q' rfl]
      refine ⟨.slice (if C = a0 + 1 then A else A.map (·.add ((a0 + 1) * nn))) (hh - (a0 + 1)) (C - (a0 + 1)), ?_, b, _, C, hb, hle, rfl, hale, by omega, fun e => ?_⟩
      · simp [Instr.sliceAt, Instr.slice, run_underlying hu, e2, run_sz hn]
      · by_cases hC : C = a0 + 1
        · exact .inl (by omega)
        · rw [if_neg hC, (hcur e).1]
          exact .inr (by simp [Addr.add_lit])
    rename_i hba
    have hu := tel_inv he
    obtain ⟨b, A, C, hb, hle, rfl, hnc, hA, hcur⟩ := hx
    have hhle : hh ≤ n := by
      cases hi with
      | none => simp [bndA] at hbh; omega
      | some q => exact (bndA_some (code := .index) hbh (opd_r F q)).2
    have hHiN : hi = none → hh = n := by rintro rfl; simp [bndA] at hbh; omega
    have hHi : ∀ q, hi = some q → ∀ (m : Nat) (code : BoundsCode), hh ≤ m → (Instr.sliceBound (a.eval q) m code).run P w = .ok hh w := by
      rintro q rfl m code hm
      have h1 := opd_r F q
      simp only [Option.map_some, bndA] at hbh
      split at hbh
      · rename_i i hi'
        split at hbh
        · rename_i hb
          simp only [Option.some.injEq] at hbh
          subst hbh
          obtain ⟨k, e⟩ := idxV_inv hi' h1
          rw [e]
          have : 0 ≤ i ∧ i ≤ (m : Int) := ⟨hb.1, by omega⟩
          simp [Instr.sliceBound, asIntOf, this]
        · cases hbh
      · cases hbh
    have hLo : ∀ q, lo = some q → ∀ (code : BoundsCode), (Instr.sliceBound (a.eval q) hh code).run P w = .ok 0 w := by
      rintro q rfl code
      exact (bndA_some hba (opd_r F q)).1
    split at h
    · rename_i hmx
      simp only [Option.some.injEq] at h
      subst h
      have hmx' : mx = none := by cases mx <;> simp_all
      subst hmx'
      refine ⟨.slice A hh C, ?_, b, A, C, hb, hle, rfl, by omega, hA, hcur⟩
      have e2 : (Instr.sliceBounds true n C (lo.map a.eval) (hi.map a.eval) none).run P w = .ok (0, hh, C) w := by
        cases lo with
        | none =>
          cases hi with
          | none => rw [hHiN rfl]; simp [Instr.sliceBounds]
          | some q => simp [Instr.sliceBounds, hHi q rfl C _ (by omega)]
        | some q' =>
          cases hi with
          | none =>
            have h2 := hLo q' rfl
            rw [hHiN rfl] at h2 ⊢
            simp [Instr.sliceBounds, h2]
          | some q => simp [Instr.sliceBounds, hHi q rfl C _ (by omega), hLo q' rfl]
      have e3 : A.map (·.add (0 * nn)) = A := by cases A <;> simp [Addr.add]
      by_cases hC : C = 0
      · subst hC
        simp [Instr.sliceAt, Instr.slice, run_underlying hu, e2, run_sz hn]
      · simp [Instr.sliceAt, Instr.slice, run_underlying hu, e2, run_sz hn, hC, Addr.add]
    · rename_i m' hmx
      split at h
      case h_2 => cases h
      rename_i q1 hq1 hm
      split at h
      case isFalse => cases h
      rename_i hh0
      subst hh0
      simp only [Option.some.injEq] at h
      subst h
      obtain ⟨mq, rfl, rfl⟩ : ∃ mq, mx = some mq ∧ m' = opd fr mq := by
        cases mx with
        | none => simp at hmx
        | some mq => exact ⟨mq, rfl, by simpa using hmx.symm⟩
      obtain ⟨hq, rfl⟩ : ∃ hq, hi = some hq := by cases hi <;> simp_all
      obtain ⟨k, em⟩ := idxV_inv hm (opd_r F mq)
      refine ⟨.slice A 0 0, ?_, .nil _ A 0 (fun _ => rfl), A, rfl⟩
      have e2 : (Instr.sliceBounds true n C (lo.map a.eval) (some (a.eval hq)) (some (a.eval mq))).run P w = .ok (0, 0, 0) w := by
        have h1 : (Instr.sliceBound (a.eval mq) C .slice3Acap).run P w = .ok 0 w := by
          rw [em]
          simp [Instr.sliceBound, asIntOf]
        have h2 := hHi hq rfl 0 .slice3B (Nat.le_refl _)
        cases lo with
        | none => simp [Instr.sliceBounds, h1, h2]
        | some q' => simp [Instr.sliceBounds, h1, h2, hLo q' rfl]
      simp [Instr.sliceAt, Instr.slice, run_underlying hu, e2, run_sz hn]
  | _ => simp at h
end
end Go.Proofs.Ytplpmelpoajpdaa.Ev
namespace Go.Proofs.Ytplpmelpoajpdaa.Ev
open Go
set_option linter.unusedSectionVars false
set_option linter.unusedVariables false
set_option linter.unusedSimpArgs false
theorem set_run {α : Type} : ∀ (vs l : List α) (o k : Nat), o + k + vs.length ≤ l.length → (vs.zipIdx k).foldl (fun l p => l.set (o + p.2) p.1) l = l.take (o + k) ++ (vs ++ l.drop (o + k + vs.length))
  | [], l, o, k, h => by simp
  | v :: vs, l, o, k, h => by
    simp only [List.length_cons] at h
    rw [List.zipIdx_cons, List.foldl_cons, set_run vs _ o (k + 1) (by simp; omega)]
    have e1 : (l.set (o + k) v).take (o + (k + 1)) = l.take (o + k) ++ [v] := by
      rw [show o + (k + 1) = o + k + 1 from by omega, List.take_add_one, List.getElem?_set_self (by omega), List.take_set_of_le (Nat.le_refl _)]
      rfl
    have e2 : (l.set (o + k) v).drop (o + (k + 1) + vs.length) = l.drop (o + k + (vs.length + 1)) := by
      rw [List.drop_set_of_lt (by omega)]; congr 1; omega
    rw [e1, e2]
    simp
theorem put_run (cells vs : Array Value) (o : Nat) (h : o + vs.size ≤ cells.size) : (vs.zipIdx.foldl (fun cs (p : Value × Nat) => cs.setIfInBounds (o + p.2) p.1) cells).toList = cells.toList.take o ++ (vs.toList ++ cells.toList.drop (o + vs.size)) := by
  have h1 : ∀ (l : List (Value × Nat)) (cs : Array Value), (l.foldl (fun cs (p : Value × Nat) => cs.setIfInBounds (o + p.2) p.1) cs).toList = l.foldl (fun l p => l.set (o + p.2) p.1) cs.toList := by
    intro l
    induction l with
    | nil => intro cs; rfl
    | cons p l ih => intro cs; rw [List.foldl_cons, List.foldl_cons, ih]; simp
  rw [← Array.foldl_toList, Array.toList_zipIdx, h1, set_run vs.toList cells.toList o 0 (by simpa using h)]
  simp
section
variable [TVm] {P : Program} {Z : Zs} {β : List Bk} {γ : List Value} {S : Obs} {T : Toks} {w : World}
/-- Cells, one by one. -/
def RL (P : Program) (Z : Zs) (β : List Bk) (γ : List Value) (T : Toks) (w : World) (cs : List AV) (ys : List Value) : Prop := cs.length = ys.length ∧ ∀ j, j < cs.length → R1 Z β γ T w P (cs.getD j .dead) (ys.getD j undef)
theorem RL.splice {cs ds : List AV} {ys vs : List Value} (h : RL P Z β γ T w cs ys) (k : RL P Z β γ T w ds vs) {o : Nat} (ho : o + ds.length ≤ cs.length) : RL P Z β γ T w (splice cs o ds) (ys.take o ++ (vs ++ ys.drop (o + vs.length))) := by
  have hl := h.1; have hk := k.1
  refine ⟨by simp [Ev.splice]; omega, fun j hj => ?_⟩
  have hj' : j < cs.length := by simp [Ev.splice] at hj; omega
  unfold Ev.splice
  by_cases h1 : j < o
  · have e1 : (cs.take o ++ (ds ++ cs.drop (o + ds.length))).getD j .dead = cs.getD j .dead := by
      rw [List.getD_eq_getElem?_getD, List.getElem?_append_left (by simp; omega), List.getElem?_take, if_pos h1, List.getD_eq_getElem?_getD]
    have e2 : (ys.take o ++ (vs ++ ys.drop (o + vs.length))).getD j undef = ys.getD j undef := by
      rw [List.getD_eq_getElem?_getD, List.getElem?_append_left (by simp; omega), List.getElem?_take, if_pos h1, List.getD_eq_getElem?_getD]
    rw [e1, e2]; exact h.2 j hj'
  · by_cases h2 : j < o + ds.length
    · have e1 : (cs.take o ++ (ds ++ cs.drop (o + ds.length))).getD j .dead = ds.getD (j - o) .dead := by
        rw [List.getD_eq_getElem?_getD, List.getElem?_append_right (by simp; omega), List.getElem?_append_left (by simp; omega), List.getD_eq_getElem?_getD]
        simp; congr 2; omega
      have e2 : (ys.take o ++ (vs ++ ys.drop (o + vs.length))).getD j undef = vs.getD (j - o) undef := by
        rw [List.getD_eq_getElem?_getD, List.getElem?_append_right (by simp; omega), List.getElem?_append_left (by simp; omega), List.getD_eq_getElem?_getD]
        simp; congr 2; omega
      rw [e1, e2]; exact k.2 _ (by omega)
    · have e1 : (cs.take o ++ (ds ++ cs.drop (o + ds.length))).getD j .dead = cs.getD j .dead := by
        rw [List.getD_eq_getElem?_getD, List.getElem?_append_right (by simp; omega), List.getElem?_append_right (by simp; omega), List.getElem?_drop, List.getD_eq_getElem?_getD]
        congr 2; simp; omega
      have e2 : (ys.take o ++ (vs ++ ys.drop (o + vs.length))).getD j undef = ys.getD j undef := by
        rw [List.getD_eq_getElem?_getD, List.getElem?_append_right (by simp; omega), List.getElem?_append_right (by simp; omega), List.getElem?_drop, List.getD_eq_getElem?_getD]
        congr 2; simp; omega
      rw [e1, e2]; exact h.2 j hj'
theorem R3.not_tup {a : AV} {v : Value} (h : R3 Z β γ T w P a v) (ho : a.cells.all one = true) : R2 Z β γ T w P a v := by
  cases a <;> first | exact h | (simp [AV.cells, one] at ho)
theorem R3.rl {a : AV} {v : Value} (h : R3 Z β γ T w P a v) (ho : a.cells.all one = true) : RL P Z β γ T w a.cells v.cells.toList := by
  obtain ⟨h1, h2⟩ := (h.not_tup ho).cells ho
  exact ⟨by simpa using h1, fun j hj => by
    have := h2 j hj
    simpa [List.getD_eq_getElem?_getD, Array.getD_eq_getD_getElem?] using this⟩
theorem fill_r {fr : List AV} {a : Act} (F : FR P Z β γ T w fr a) (pl pl' : Nat → Option (Nat × Nat)) (hp : ∀ i r, pl i = some r → pl' i = some r) : ∀ (ps : List (Nat × Operand)) (cs cs' : List AV) (ys : Array Value),
    fillA pl cs (ps.map fun p => (p.1, opd fr p.2)) = some cs' → RL P Z β γ T w cs ys.toList → ∃ ys', Instr.fill pl' ys (ps.map fun p => (p.1, a.eval p.2)) = some ys' ∧ RL P Z β γ T w cs' ys'.toList
  | [], cs, cs', ys, h, k => by
    simp only [List.map_nil, fillA, Option.some.injEq] at h
    subst h
    exact ⟨ys, rfl, k⟩
  | (i, x) :: ps, cs, cs', ys, h, k => by
    simp only [List.map_cons, fillA] at h
    split at h
    · cases h
    rename_i off n hpl
    split at h
    case isFalse => cases h
    rename_i hc
    obtain ⟨h1, h2, h3⟩ := hc
    have hx := (opd_r F x).rl h3
    have hsz : (a.eval x).cells.size = n := by have := hx.1; simp at this; omega
    have hys : ys.size = cs.length := by have := k.1; simp at this; omega
    have hput := put_run ys (a.eval x).cells off (by omega)
    obtain ⟨ys', h4, h5⟩ := fill_r F pl pl' hp ps _ cs' ((a.eval x).cells.zipIdx.foldl (fun cs (p : Value × Nat) => cs.setIfInBounds (off + p.2) p.1) ys) h (by
      rw [hput, ← Array.length_toList]
      exact k.splice hx (by omega))
    refine ⟨ys', ?_, h5⟩
    simp only [List.map_cons, Instr.fill, hp _ _ hpl, hsz, ne_eq, not_true_eq_false, decide_false, Bool.false_or]
    rw [if_neg (by simp; omega)]
    exact h4
theorem mapM_run {α β' : Type} (f : α → Sem β') (g : α → β') : ∀ (l : List α), (∀ x ∈ l, ∀ w, (f x).run P w = .ok (g x) w) → ∀ w, (l.mapM f).run P w = .ok (l.map g) w
  | [], _, w => by simp
  | x :: l, h, w => by
    rw [List.mapM_cons]
    simp [h x (by simp) w, mapM_run f g l (fun y hy => h y (by simp [hy])) w]
theorem amapM_run {α β' : Type} (f : α → Sem β') (g : α → β') (l : Array α) (h : ∀ x ∈ l.toList, ∀ w, (f x).run P w = .ok (g x) w) (w : World) : (l.mapM f).run P w = .ok (l.map g) w := by
  have h1 := mapM_run (P := P) f g l.toList h w
  rw [← Array.toList_mapM] at h1
  simp only [Sem.run_map] at h1
  cases hr : (l.mapM f).run P w with
  | ok r w' =>
    rw [hr] at h1
    simp only [Result.andThen_ok, Result.ok.injEq] at h1
    obtain ⟨h2, rfl⟩ := h1
    congr 1
    apply Array.ext'
    simpa using h2
  | halt x w' => rw [hr] at h1; cases h1
theorem build_run {t : TypeId} {ps : Array (Nat × Operand)} {z cs : List AV} {fr : List AV} {a : Act} (F : FR P Z β γ T w fr a) (hz : tzero P t = some z) (hb : bok P t = true)
    (h : fillA (places P t) z (ps.toList.map fun p => (p.1, opd fr p.2)) = some cs) : ∃ r, (Instr.build t (ps.map fun (i, x) => (i, a.eval x))).run P w = .ok r w ∧ R3 Z β γ T w P (.agg cs) r := by
  obtain ⟨z0, hz0, rfl⟩ := run_zero (w := w) hz
  have hzl : RL P Z β γ T w (z0.cells.toList.map toAV0) z0.cells.toList := ⟨by simp, fun j hj => by
    have hj' : j < z0.cells.size := by simpa using hj
    have e1 : (z0.cells.toList.map toAV0).getD j .dead = toAV0 z0.cells[j] := by simp [List.getD_eq_getElem?_getD, hj']
    have e2 : z0.cells.toList.getD j undef = z0.cells[j] := by simp [List.getD_eq_getElem?_getD, hj']
    rw [e1, e2]; exact toAV0_r1⟩
  have fin : ∀ ys' : Array Value, RL P Z β γ T w cs ys'.toList → R3 Z β γ T w P (.agg cs) (.agg ys') := fun ys' k => ⟨ys', rfl, by simpa using k.1, fun i hi => by
    have := k.2 i hi
    simpa [List.getD_eq_getElem?_getD, Array.getD_eq_getD_getElem?] using this⟩
  have hmap : (ps.map fun (p : Nat × Operand) => (p.1, a.eval p.2)).toList = ps.toList.map fun p => (p.1, a.eval p.2) := by simp
  unfold bok at hb
  cases hu : P.underlying t with
  | none => rw [hu] at hb; cases hb
  | some d =>
    rw [hu] at hb
    cases d with
    | struct fs =>
      simp only at hb
      have hm : ∀ w', (fs.mapM fun f => do pure (f.offset, ← sizeOf f.type) : Sem (Array (Nat × Nat))).run P w' = .ok (fs.map fun f => (f.offset, (tsz P f.type).getD 0)) w' := fun w' => amapM_run _ _ fs (fun f hf w'' => by
        have := List.all_eq_true.mp hb f hf
        simp only [Bool.and_eq_true] at this
        obtain ⟨n, hn⟩ := Option.isSome_iff_exists.1 this.1
        simp [run_sz hn, hn]) w'
      obtain ⟨ys', h4, h5⟩ := fill_r F (places P t) ((fs.map fun f => (f.offset, (tsz P f.type).getD 0))[·]?) (fun i r hr => by
        unfold places at hr
        cases hfl : fld P t i with
        | none =>
          rw [hfl] at hr
          simp only [arr, hu] at hr
          cases hr
        | some q =>
          obtain ⟨o, n, ag⟩ := q
          rw [hfl] at hr
          simp only [Option.some.injEq] at hr
          subst hr
          obtain ⟨fs', f, hu', hf, rfl, hn, _⟩ := fld_inv hfl
          rw [hu] at hu'
          obtain rfl : fs = fs' := by injection hu' with e; injection e
          simp [hf, hn]) ps.toList _ cs z0.cells h hzl
      refine ⟨.agg ys', ?_, fin ys' h5⟩
      simp only [Instr.build, Sem.run_bind, hz0, Result.andThen_ok, run_underlying hu, hm]
      rw [hmap, h4]; rfl
    | array n e =>
      simp only [Bool.and_eq_true] at hb
      obtain ⟨k, hk⟩ := Option.isSome_iff_exists.1 hb.1
      obtain ⟨ys', h4, h5⟩ := fill_r F (places P t) (fun i => some (i * k, k)) (fun i r hr => by
        unfold places at hr
        cases hfl : fld P t i with
        | some q =>
          obtain ⟨o, n, ag⟩ := q
          obtain ⟨fs', f, hu', _⟩ := fld_inv hfl
          rw [hu] at hu'; cases hu'
        | none =>
          rw [hfl] at hr
          simp only at hr
          split at hr
          · rename_i n' k' ag ha
            simp only [Option.some.injEq] at hr
            subst hr
            obtain ⟨e', hu', hs, _⟩ := arr_inv ha
            rw [hu] at hu'
            injection hu' with e1
            injection e1 with e2 e3
            subst e3
            rw [hk] at hs
            simp only [Option.some.injEq] at hs
            subst hs
            rfl
          · cases hr) ps.toList _ cs z0.cells h hzl
      refine ⟨.agg ys', ?_, fin ys' h5⟩
      simp only [Instr.build, Sem.run_bind, hz0, Result.andThen_ok, run_underlying hu, run_sz hk]
      rw [hmap, h4]; rfl
    | _ => simp at hb
end
end Go.Proofs.Ytplpmelpoajpdaa.Ev
