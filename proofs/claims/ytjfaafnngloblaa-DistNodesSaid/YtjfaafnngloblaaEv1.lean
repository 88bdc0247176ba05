/- Go functions run on values alone: slices are lists, structs are rows of values; local memory is a list of objects. Definitions. No condition. -/
import Derived.Orders
import Derived.Below
import Derived.Laws.AppendOwn
namespace Go.Proofs.Ytjfaafnngloblaa.Ev
open Go
set_option linter.unusedVariables false
set_option linter.unusedSimpArgs false
/-- Who may append to a slice: nobody; it is nil; it has no room behind it; the chain of that number. -/
inductive Tok where
  | no | nil | full
  | own (n : Nat)
  deriving DecidableEq, Inhabited
/-- A value: plain; a struct's cells; several results; a slice as a list; the address of cells that nobody writes; a place in an object; a function; nothing known. -/
inductive AV where
  | v (x : Value)
  | agg (cs : List AV)
  | tup (l : List AV)
  | sl (o : Tok) (l : List AV)
  | ea (cs : List AV)
  | ptr (id off : Nat)
  | fn (f : FuncId) (cap : List AV)
  | dead
  deriving Inhabited
/-- An object: its cells; d: they hold no address of an object. -/
structure Ob where
  d : Bool
  cs : List AV
  deriving Inhabited
abbrev Obs := List Ob
abbrev Toks := List (Option TypeId)
structure St where
  fr : List AV
  S : Obs
  T : Toks
  deriving Inhabited
def AV.cells : AV → List AV
  | .agg cs => cs
  | x => [x]
def plainV : Value → Bool
  | .bool _ => true
  | .int _ _ => true
  | .string _ => true
  | .pointer none => true
  | .nilFunc => true
  | .nilIface => true
  | .map none => true
  | _ => false
def toAV0 : Value → AV
  | .bool b => .v (.bool b)
  | .int k n => .v (.int k n)
  | .string s => .v (.string s)
  | .pointer none => .v (.pointer none)
  | .nilFunc => .v .nilFunc
  | .nilIface => .v .nilIface
  | .map none => .v (.map none)
  | .slice none 0 0 => .sl .nil []
  | .func (.func f) a b => if a.size = 0 ∧ b.size = 0 then .fn f [] else .dead
  | _ => .dead
def toAV : Value → AV
  | .agg cs => .agg (cs.toList.map toAV0)
  | .tuple cs => if cs.size = 0 then .tup [] else .dead
  | x => toAV0 x
def opd (fr : List AV) : Operand → AV
  | .tmp t => fr.getD t .dead
  | .const x => toAV x
  | .global _ => .dead
  | .func f => .fn f []
/-- Without the right to append. -/
def s0 : AV → AV
  | .sl _ l => .sl .no l
  | x => x
def s1 : AV → AV
  | .fn f c => .fn f (c.map s0)
  | x => s0 x
def s2 : AV → AV
  | .agg cs => .agg (cs.map s1)
  | x => s1 x
def s3 : AV → AV
  | .tup l => .tup (l.map s2)
  | x => s2 x
/-- No address of an object. -/
def d0 : AV → Bool
  | .v _ => true
  | .sl _ _ => true
  | .ea _ => true
  | _ => false
def d1 : AV → Bool
  | .fn _ c => c.all d0
  | x => d0 x
def d2 : AV → Bool
  | .agg cs => cs.all d1
  | x => d1 x
def d3 : AV → Bool
  | .tup l => l.all d2
  | x => d2 x
/-- The value of one cell. -/
def one : AV → Bool
  | .v _ => true
  | .sl _ _ => true
  | .ea _ => true
  | .ptr _ _ => true
  | .fn _ _ => true
  | _ => false
/-- What a function may have caught: one cell, and no function. -/
def capOk : AV → Bool
  | .fn _ _ => false
  | x => one x
/-- Addresses below n alone. -/
def p0 (n : Nat) : AV → Bool
  | .ptr id _ => decide (id < n)
  | _ => true
def p1 (n : Nat) : AV → Bool
  | .fn _ c => c.all (p0 n)
  | x => p0 n x
def p2 (n : Nat) : AV → Bool
  | .agg cs => cs.all (p1 n)
  | x => p1 n x
def p3 (n : Nat) : AV → Bool
  | .tup l => l.all (p2 n)
  | x => p2 n x
def tsz (P : Program) (t : TypeId) : Option Nat := (P.info? t).map (·.size)
def tby (P : Program) (t : TypeId) : Option Nat := (P.info? t).map (·.bytes)
def tagg (P : Program) (t : TypeId) : Option Bool := match P.underlying t with
  | some (.struct _) => some true
  | some (.array _ _) => some true
  | some _ => some false
  | none => none
def tzero (P : Program) (t : TypeId) : Option (List AV) := (P.info? t).bind fun i => i.zero.map fun z => z.cells.toList.map toAV0
def tel (P : Program) (t : TypeId) : Option TypeId := match P.underlying t with
  | some (.slice e) => some e
  | _ => none
/-- A field: its place, its size, whether it is a struct or an array. -/
def fld (P : Program) (t : TypeId) (i : Nat) : Option (Nat × Nat × Bool) := match P.underlying t with
  | some (.struct fs) => match fs[i]? with
    | some f => match tsz P f.type, tagg P f.type with
      | some n, some a => some (f.offset, n, a)
      | _, _ => none
    | none => none
  | _ => none
/-- An array: how many, and an element's size, and whether that is a struct or an array. -/
def arr (P : Program) (t : TypeId) : Option (Nat × Nat × Bool) := match P.underlying t with
  | some (.array n e) => match tsz P e, tagg P e with
    | some k, some a => some (n, k, a)
    | _, _ => none
  | _ => none
def splice (l : List AV) (o : Nat) (m : List AV) : List AV := l.take o ++ (m ++ l.drop (o + m.length))
/-- Each element has n cells. -/
def uni (n : Nat) (l : List AV) : Bool := l.all fun e => e.cells.length == n
def rdc (S : Obs) : AV → Nat → Option (List AV)
  | .ea cs, n => if n ≤ cs.length then some ((cs.take n).map s1) else none
  | .ptr id off, n => match S[id]? with
    | some ob => if off + n ≤ ob.cs.length then some ((ob.cs.drop off).take n) else none
    | none => none
  | _, _ => none
def ofC : Bool → List AV → Option AV
  | true, cs => some (.agg cs)
  | false, [x] => if one x = true then some x else none
  | false, _ => none
def wrc (S : Obs) (a : AV) (cs : List AV) : Option Obs := match a with
  | .ptr id off => match S[id]? with
    | some ob => if off + cs.length ≤ ob.cs.length ∧ (cs.all one && (!ob.d || cs.all d1)) = true then some (S.set id ⟨ob.d, splice ob.cs off cs⟩) else none
    | none => none
  | _ => none
def intA (op : BinOp) (k : IntKind) (a b : Int) : Option Value := match op with
  | .add => some (.int k (k.wrap (a + b)))
  | .sub => some (.int k (k.wrap (a - b)))
  | .mul => some (.int k (k.wrap (a * b)))
  | .quo => if b = 0 then none else some (.int k (k.wrap (a.tdiv b)))
  | .rem => if b = 0 then none else some (.int k (a.tmod b))
  | .and => some (.int k (k.wrap (BitVec.ofInt k.bits a &&& BitVec.ofInt k.bits b).toNat))
  | .or => some (.int k (k.wrap (BitVec.ofInt k.bits a ||| BitVec.ofInt k.bits b).toNat))
  | .xor => some (.int k (k.wrap (BitVec.ofInt k.bits a ^^^ BitVec.ofInt k.bits b).toNat))
  | .andNot => some (.int k (k.wrap (BitVec.ofInt k.bits a &&& ~~~BitVec.ofInt k.bits b).toNat))
  | .eql => some (.bool (a == b))
  | .neq => some (.bool (a != b))
  | .lss => some (.bool (decide (a < b)))
  | .leq => some (.bool (decide (a ≤ b)))
  | .gtr => some (.bool (decide (a > b)))
  | .geq => some (.bool (decide (a ≥ b)))
  | _ => none
def shA (op : BinOp) (k : IntKind) (a b : Int) : Option Value :=
  if b < 0 then none else match op with
  | .shl => some (.int k (k.wrap (a * 2 ^ (min b.toNat k.bits))))
  | .shr => some (.int k (a.fdiv (2 ^ (min b.toNat k.bits))))
  | _ => none
def strA (op : BinOp) (a b : ByteArray) : Option Value := match op with
  | .add => if ((a.size + b.size : Nat) : Int) > IntKind.i64.max then none else some (.string (a ++ b))
  | .eql => some (.bool (a.toList == b.toList))
  | .neq => some (.bool (!(a.toList == b.toList)))
  | .lss => some (.bool (Op.bytesLess a.toList b.toList))
  | .leq => some (.bool (Op.bytesLess a.toList b.toList || a.toList == b.toList))
  | .gtr => some (.bool (!(Op.bytesLess a.toList b.toList || a.toList == b.toList)))
  | .geq => some (.bool (!Op.bytesLess a.toList b.toList))
  | _ => none
/-- Are two plain values of one kind the same? -/
def eqV : Value → Value → Option Bool
  | .bool a, .bool b => some (a == b)
  | _, _ => none
def eqA (P : Program) (t : TypeId) (x y : AV) : Option Bool := match P.underlying t with
  | some .bool => match x, y with
    | .v (.bool a), .v (.bool b) => some (a == b)
    | _, _ => none
  | _ => none
def binA (P : Program) (op : BinOp) (t : TypeId) (x y : AV) : Option AV :=
  match x, y with
  | .v (.int k a), .v (.int k' b) => match op with
    | .shl => (shA .shl k a b).map .v
    | .shr => (shA .shr k a b).map .v
    | op => if k = k' then (intA op k a b).map .v else none
  | .v (.string a), .v (.string b) => (strA op a b).map .v
  | x, y => match op with
    | .eql => (eqA P t x y).map fun b => .v (.bool b)
    | .neq => (eqA P t x y).map fun b => .v (.bool (!b))
    | _ => none
def unA (op : UnOp) (x : AV) : Option AV := match op, x with
  | .neg, .v (.int k n) => some (.v (.int k (k.wrap (0 - n))))
  | .not, .v (.bool b) => some (.v (.bool !b))
  | _, _ => none
def convA (P : Program) (s d : TypeId) (x : AV) : Option AV := match x with
  | .v (.int _ n) => match P.underlying d with
    | some (.int k) => some (.v (.int k (k.wrap n)))
    | _ => none
  | _ => none
/-- The parts of a struct laid into its cells. -/
def fillA (place : Nat → Option (Nat × Nat)) (cells : List AV) : List (Nat × AV) → Option (List AV)
  | [] => some cells
  | (i, x) :: rest => match place i with
    | none => none
    | some (off, n) => if x.cells.length = n ∧ off + n ≤ cells.length ∧ x.cells.all one = true then fillA place (splice cells off x.cells) rest else none
def places (P : Program) (t : TypeId) (i : Nat) : Option (Nat × Nat) := match fld P t i with
  | some (o, n, _) => some (o, n)
  | none => match arr P t with
    | some (_, k, _) => some (i * k, k)
    | none => none
/-- A struct or an array whose parts' sizes are known. -/
def bok (P : Program) (t : TypeId) : Bool := match P.underlying t with
  | some (.struct fs) => fs.toList.all fun f => (tsz P f.type).isSome && (tagg P f.type).isSome
  | some (.array _ e) => (tsz P e).isSome && (tagg P e).isSome
  | _ => false
def isStr (P : Program) (t : TypeId) : Bool := match P.underlying t with
  | some .string => true
  | _ => false
def idxV : AV → Option Int
  | .v (.int _ i) => some i
  | _ => none
def elA (P : Program) (t : TypeId) (x i : AV) : Option AV := match idxV i with
  | none => none
  | some i => if 0 ≤ i then (match x with
    | .sl _ l => match tel P t with
      | some e => match tsz P e, l[i.toNat]? with
        | some n, some y => if y.cells.length = n then some (.ea y.cells) else none
        | _, _ => none
      | none => none
    | .ptr id off => match arr P t with
      | some (n, k, _) => if i < n then some (.ptr id (off + i.toNat * k)) else none
      | none => none
    | _ => none) else none
def ixA (P : Program) (t : TypeId) (x i : AV) : Option AV := match idxV i with
  | none => none
  | some i => if 0 ≤ i then (match x with
    | .agg cs => match arr P t with
      | some (n, k, a) => if i < n ∧ i.toNat * k + k ≤ cs.length ∧ (a || k == 1) = true then ofC a ((cs.drop (i.toNat * k)).take k) else none
      | none => none
    | .v (.string s) => match s[i.toNat]? with
      | some b => if isStr P t = true then some (.v (.int .u8 b.toNat)) else none
      | none => none
    | _ => none) else none
/-- A bound of a slice expression: from 0 to m. -/
def bndA (m : Nat) : Option AV → Nat → Option Nat
  | none, d => some d
  | some x, _ => match idxV x with
    | some i => if 0 ≤ i ∧ i ≤ m then some i.toNat else none
    | none => none
def slA (P : Program) (t : TypeId) (x : AV) (lo hi mx : Option AV) : Option AV := match x with
  | .sl _ l => match tel P t with
    | some e => match tsz P e, bndA l.length hi l.length with
      | some n, some h => match bndA h lo 0 with
        | some a => match mx with
          | none => if (a == 0 || uni n l) = true then some (.sl .no ((l.take h).drop a)) else none
          | some m => match hi, idxV m with
            | some _, some m => if m = h ∧ (a == 0 || uni n l) = true then some (.sl .full ((l.take h).drop a)) else none
            | _, _ => none
        | none => none
      | _, _ => none
    | none => none
  | _ => none
def appA (P : Program) (t : TypeId) (s x : AV) (T : Toks) : Option (AV × Toks) := match s, x with
  | .sl o l, .sl _ m => match tel P t with
    | some e => match tsz P e, tby P e, tzero P e with
      | some n, some b, some z =>
        if 0 < n ∧ z.length = n ∧ uni n m = true ∧ (m.all d2) = true ∧ (l.length + m.length) * b ≤ 140737488355328 ∧ l.length + m.length ≤ maxLen then
          match o with
          | .no => none
          | .nil => if l.length = 0 then some (.sl (.own T.length) m, T ++ [some e]) else none
          | .full => if uni n l = true then some (.sl (.own T.length) (l ++ m), T ++ [some e]) else none
          | .own k => if T[k]? = some (some e) then some (.sl (.own T.length) (l ++ m), T.set k none ++ [some e]) else none
        else none
      | _, _, _ => none
    | none => none
  | _, _ => none
def mmA (mx : Bool) : List AV → Option AV
  | [.v (.int k a), .v (.int k' b)] => if k = k' then some (.v (.int k (if mx then (if b > a then b else a) else (if b < a then b else a)))) else none
  | _ => none
def fdA (o n : Nat) : AV → Option AV
  | .ptr id off => some (.ptr id (off + o))
  | .ea cs => if o + n ≤ cs.length then some (.ea (cs.drop o)) else none
  | _ => none
def nt : AV → Bool
  | .tup _ => false
  | _ => true
/-- An operation that has to do with values alone. -/
def coreQ (P : Program) (o : Oper) (e : Operand → AV) : Option AV :=
  match o.op with
  | .move x => some (e x)
  | .assign x => some (e x)
  | .pick c a b => match e c with
    | .v (.bool t) => some (if t = true then e a else e b)
    | _ => none
  | .build t ps => match tzero P t with
    | some z => if bok P t = true then (fillA (places P t) z (ps.toList.map fun p => (p.1, e p.2))).map .agg else none
    | none => none
  | .buildSlice t n ps => match tel P t with
    | some el => match tsz P el, tagg P el, tzero P el with
      | some k, some a, some z =>
        if n * k ≤ 16777216 ∧ (ps.toList.all fun p => decide (p.1 < n) && ((e p.2).cells.length == k && ((e p.2).cells.all one && d2 (e p.2)))) = true ∧ (a || k == 1) = true ∧ 0 < k ∧ z.length = k ∧ (z.all d1 && z.all one) = true then
          some (.sl .full (ps.toList.foldl (fun l p => l.set p.1 (s2 (e p.2))) (List.replicate n (if a = true then .agg z else z.getD 0 .dead)))) else none
      | _, _, _ => none
    | none => none
  | .nilCheck x => match e x with
    | .ptr id off => some (.ptr id off)
    | .ea cs => some (.ea cs)
    | .fn f c => some (.fn f c)
    | _ => none
  | .binOp op t x y _ => binA P op t (e x) (e y)
  | .unOp op _ x => unA op (e x)
  | .convert s d x => if (P.underlying s).isSome = true then convA P s d (e x) else none
  | .fieldAddr t x i => match fld P t i with
    | some (o, n, _) => if 0 < n then fdA o n (e x) else none
    | none => none
  | .field t x i => match fld P t i with
    | some (o, n, a) => match e x with
      | .agg cs => if o + n ≤ cs.length ∧ (a || n == 1) = true then ofC a ((cs.drop o).take n) else none
      | _ => none
    | none => none
  | .indexAddr t x i => elA P t (e x) (e i)
  | .index t x i => ixA P t (e x) (e i)
  | .slice t x lo hi mx => slA P t (e x) (lo.map e) (hi.map e) (mx.map e)
  | .makeFunc (.func f) first cap => if first.size = 0 ∧ (cap.toList.all fun c => capOk (e c)) = true then some (.fn f (cap.toList.map e)) else none
  | .extract x i => match e x with
    | .tup l => match l[i]? with
      | some y => if nt y = true then some y else none
      | none => none
    | _ => none
  | .call c => match c.callee, c.args.toList with
    | .builtin .len, [x] => match c.argTypes.toList with
      | [t] => match P.underlying t, e x with
        | some .string, .v (.string s) => some (.v (.int .i64 s.size))
        | some (.slice _), .sl _ l => some (.v (.int .i64 l.length))
        | _, _ => none
      | _ => none
    | .builtin .min, [x, y] => mmA false [e x, e y]
    | .builtin .max, [x, y] => mmA true [e x, e y]
    | _, _ => none
  | _ => none
/-- An append: what, to what, of which type. -/
def isApp (o : Oper) : Option (Operand × Operand × TypeId) := match o.op with
  | .call ⟨.builtin .append, args, tys⟩ => match args.toList, tys.toList with
    | [s, x], [t, t'] => if t = t' then some (s, x, t) else none
    | _, _ => none
  | _ => none
/-- An operation that is no call of a function. -/
def core (P : Program) (o : Oper) (e : Operand → AV) (S : Obs) (T : Toks) : Option (AV × Obs × Toks) :=
  match o.op with
  | .alloc t => match tzero P t with
    | some cs => some (.ptr S.length 0, S ++ [⟨false, cs⟩], T)
    | none => none
  | .box t x => if (e x).cells.all one = true then some (.ptr S.length 0, S ++ [⟨false, (e x).cells⟩], T) else none
  | .load t a => match tagg P t, tsz P t with
    | some ag, some n => if (ag || n == 1) = true then (match rdc S (e a) n with
      | some cs => (ofC ag cs).map fun x => (x, S, T)
      | none => none) else none
    | _, _ => none
  | .store t a x => match tsz P t with
    | some n => if (e x).cells.length = n then (wrc S (e a) (e x).cells).map fun S' => (.tup [], S', T) else none
    | none => none
  | _ => match isApp o with
    | some (s, x, t) => (appA P t (e s) (e x) T).map fun r => (r.1, S, r.2)
    | none => (coreQ P o e).map fun r => (r, S, T)
def put (fr : List AV) (d : Option Tmp) (x : AV) : List AV := match d with
  | some d => fr.set d x
  | none => fr
abbrev CallF := FuncId → List AV → Obs → Toks → Option (AV × Obs × Toks)
/-- A call of a function: where no argument bears an object's address the callee has no objects. -/
def evCall (cf : CallF) (f : FuncId) (args : List AV) (S : Obs) (T : Toks) : Option (AV × Obs × Toks) :=
  if args.all d2 = true then (match cf f (args.map s2) [] [] with
    | some (r, _, _) => if d3 r = true then some (s3 r, S, T) else none
    | none => none)
  else cf f args S T
def isCall (o : Oper) : Option (Operand × List Operand) := match o.op with
  | .call ⟨.value f, args, _⟩ => some (f, args.toList)
  | _ => none
def run1 (P : Program) (cf : CallF) (o : Oper) (s : St) : Option (AV × Obs × Toks) :=
  match isCall o with
  | some (f, args) => match opd s.fr f with
    | .fn g cap => if cap.all capOk = true then evCall cf g (args.map (opd s.fr) ++ cap) s.S s.T else none
    | _ => none
  | none => core P o (opd s.fr) s.S s.T
/-- Is an operation wanted? (none: not known) -/
def wantA (ops : Array Oper) (o : Oper) (fr : List AV) : Option Bool := match o.guard with
  | none => some true
  | some (j, want) => match ops[j]? with
    | some g => match g.dst with
      | some t => match fr.getD t .dead with
        | .v (.bool b) => some (b == want)
        | .tup [] => some false
        | _ => none
      | none => none
    | none => none
/-- What an operation gives, and what becomes of objects and chains. -/
def exO (P : Program) (cf : CallF) (ops : Array Oper) (o : Oper) (s : St) : Option (AV × Obs × Toks) := match wantA ops o s.fr with
  | some b => if b = true then run1 P cf o s else some (.tup [], s.S, s.T)
  | none => none
def evG (P : Program) (cf : CallF) (ops : Array Oper) (o : Oper) (s : St) : Option St := (exO P cf ops o s).map fun r => ⟨put s.fr o.dst r.1, r.2.1, r.2.2⟩
def evOps (P : Program) (cf : CallF) (ops : Array Oper) : List Oper → St → Option St
  | [], s => some s
  | o :: rest, s => match evG P cf ops o s with
    | some s' => evOps P cf ops rest s'
    | none => none
/-- What an operation has to do with the objects: nothing; it reads one; it makes one; it has to do with chains; all. -/
inductive Cls where
  | quiet
  | reads (id : Nat)
  | makes (n : Nat)
  | chain
  | all
  deriving DecidableEq
def cls (ops : Array Oper) (o : Oper) (s : St) : Cls :=
  match wantA ops o s.fr with
  | some true => (match isCall o with
    | some (f, args) => match opd s.fr f with
      | .fn _ cap => if (args.map (opd s.fr) ++ cap).all d2 = true then .quiet else .all
      | _ => .all
    | none => match o.op with
      | .load _ a => match opd s.fr a with
        | .ptr id _ => .reads id
        | _ => .quiet
      | .alloc _ => .makes s.S.length
      | .box _ _ => .makes s.S.length
      | .store _ _ _ => .all
      | _ => match isApp o with
        | some _ => .chain
        | none => .quiet)
  | _ => .quiet
/-- May two operations change places? -/
def compat : Cls → Cls → Bool
  | .quiet, _ => true
  | _, .quiet => true
  | .reads _, .reads _ => true
  | .reads id, .makes n => decide (id < n)
  | .makes n, .reads id => decide (id < n)
  | .reads _, .chain => true
  | .chain, .reads _ => true
  | .makes _, .chain => true
  | .chain, .makes _ => true
  | _, _ => false
def opTmps (l : List Operand) : List Tmp := l.filterMap fun x => match x with
  | .tmp t => some t
  | _ => none
/-- The temporaries that an operation looks at. -/
def looks (ops : Array Oper) (o : Oper) : List Tmp := opTmps o.op.operands.toList ++ (match o.guard with
  | some (j, _) => match ops[j]? with
    | some g => g.dst.toList
    | none => []
  | none => [])
def apart (ops : Array Oper) (p q : Oper) : Bool :=
  (match p.dst with
    | some d => !(looks ops q).contains d && q.dst != some d
    | none => true) &&
  (match q.dst with
    | some d => !(looks ops p).contains d
    | none => true)
/-- A list, each once (m: who was there). -/
def nubM : Nat → List Nat → List Nat
  | _, [] => []
  | m, a :: l => if m.testBit a then nubM m l else a :: nubM (m ||| (1 <<< a)) l
/-- What an operation waits for, directly or not. -/
def depsOf (ops : Array Oper) : Nat → List (List Nat) → List Oper → List (List Nat)
  | _, acc, [] => acc
  | i, acc, o :: rest => depsOf ops (i + 1) (acc ++ [nubM 0 ((o.after.toList.filterMap fun e => if Region.binds .any e then some e.on else none).flatMap fun j => j :: acc.getD j [])]) rest
/-- A region that draws its order, walked in the order of the text: any two operations of which none waits for the other may change places. -/
def evD (P : Program) (cf : CallF) (ops : Array Oper) (deps : List (List Nat)) : List Nat → St → Option (St × List (Nat × Cls))
  | [], s => some (s, [])
  | i :: rest, s => match ops[i]? with
    | none => none
    | some o => match evG P cf ops o s with
      | none => none
      | some s' => match evD P cf ops deps rest s' with
        | none => none
        | some (sf, log) =>
          if (log.all fun q => (deps.getD q.1 []).contains i || (compat (cls ops o s) q.2 && apart ops o (ops.getD q.1 default))) = true then some (sf, (i, cls ops o s) :: log) else none
/-- Each operation waits for earlier ones alone. -/
def fwd (ops : Array Oper) : Bool := (List.range ops.size).all fun i => match ops[i]? with
  | some o => o.after.all fun e => !Region.binds .any e || decide (e.on < i)
  | none => true
inductive Ex where
  | normal
  | exit (id : Nat)
  | ret
  deriving DecidableEq, Inhabited
def evR (P : Program) (cf : CallF) (ops : Array Oper) (draw : Bool) (s : St) : Option St :=
  if draw then (match evD P cf ops (depsOf ops 0 [] ops.toList) (List.range ops.size) s with
    | some r => if (P.follows .mixedOrders && fwd ops) = true then some r.1 else none
    | none => none)
  else evOps P cf ops ops.toList s
def iter (f : St → Option (Ex × St)) : Nat → St → Option (Ex × St)
  | 0, _ => none
  | n + 1, s => match f s with
    | some (.normal, s') => iter f n s'
    | r => r
def evC (P : Program) (cf : CallF) (k : Nat) : Code → St → Option (Ex × St)
  | .skip, s => some (.normal, s)
  | .label _, s => some (.normal, s)
  | .region _ ops draw, s => (evR P cf ops draw s).map fun s' => (.normal, s')
  | .seq a b, s => match evC P cf k a s with
    | some (.normal, s') => evC P cf k b s'
    | r => r
  | .cond c a b, s => match opd s.fr c with
    | .v (.bool t) => if t = true then evC P cf k a s else evC P cf k b s
    | _ => none
  | .block id c, s => match evC P cf k c s with
    | some (.exit i, s') => if i = id then some (.normal, s') else some (.exit i, s')
    | r => r
  | .loop c, s => iter (evC P cf k c) k s
  | .scope c, s => evC P cf k c s
  | .exit id, s => some (.exit id, s)
  | .ret, s => some (.ret, s)
  | _, _ => none
def resA (P : Program) (s : St) : ResultVar → Option AV
  | .tmp t => some (s.fr.getD t .dead)
  | .cell t ty => match tagg P ty, tsz P ty with
    | some ag, some n => if (ag || n == 1) = true then (match rdc s.S (s.fr.getD t .dead) n with
      | some cs => ofC ag cs
      | none => none) else none
    | _, _ => none
def resL (P : Program) (s : St) : List ResultVar → Option (List AV)
  | [] => some []
  | r :: rest => match resA P s r, resL P s rest with
    | some x, some l => if nt x = true then some (x :: l) else none
    | _, _ => none
def okOb (n : Nat) (o : Ob) : Bool := o.d || o.cs.all (p1 n)
/-- What is left behind a call: no object of its own, where none can be reached. -/
def fin (S0 : Obs) (r : AV) (S : Obs) (T : Toks) : AV × Obs × Toks :=
  if (p3 S0.length r && (S.take S0.length).all (okOb S0.length)) = true then (r, S.take S0.length, T) else (r, S, T)
def evFn (P : Program) (cf : CallF) (k : Nat) (fn : Func) (args : List AV) (S : Obs) (T : Toks) : Option (AV × Obs × Toks) :=
  match fn.body with
  | none => none
  | some c => match evC P cf k c ⟨args ++ List.replicate (fn.ntmps - args.length) (.tup []), S, T⟩ with
    | some (x, s) => if x = .normal ∨ x = .ret then (match resL P s fn.results.toList with
      | some [r] => some (fin S r s.S s.T)
      | some l => some (fin S (.tup l) s.S s.T)
      | none => none) else none
    | none => none
/-- A function of the program's own text. -/
def fun? (P : Program) (f : FuncId) : Option Func := match P.funcs[f]? with
  | some fn => if fn.name = "runtime.NumGoroutine" then none else some fn
  | none => none
/-- Functions that are known otherwise. -/
abbrev Prims := FuncId → Option (List AV → Option AV)
def evF (P : Program) (X : Prims) : Nat → CallF
  | 0, _, _, _, _ => none
  | k + 1, f, args, S, T => match X f with
    | some g => if args.all d2 = true then (g (args.map s2)).map fun r => (s3 r, S, T) else none
    | none => match fun? P f with
      | some fn => evFn P (evF P X k) k fn args S T
      | none => none
end Go.Proofs.Ytjfaafnngloblaa.Ev
