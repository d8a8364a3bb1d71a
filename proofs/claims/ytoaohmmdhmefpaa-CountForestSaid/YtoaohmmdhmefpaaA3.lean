/- Ax, part 3: the operations on abstract values and heaps. -/
import Derived.Test.YtoaohmmdhmefpaaA2
import Derived.DeepKeys3
namespace Go.Ax
open Go.RowKit

/-- Whatever. -/
abbrev und : Value := .tuple #[.tuple #[]]

/-- What is known of a type: what it is, its zero value, its cells, its bytes. -/
def tinfo (P : Program) (t : TypeId) : Option (TypeDesc × Value × Nat × Nat) :=
  match P.underlying t, P.info? t with
  | some d, some i => match i.zero with
    | some z => some (d, z, i.size, i.bytes)
    | none => none
  | _, _ => none

def isAggD : TypeDesc → Bool
  | .struct _ | .array _ _ => true
  | _ => false

/-- A value without addresses, by its shape alone. -/
def plainV : Value → Bool
  | .bool _ | .int _ _ | .string _ | .pointer none | .slice none 0 0 | .map none | .nilFunc | .nilIface => true
  | _ => false

def constV (v : Value) : Value :=
  match v with
  | .agg cs => if cs.toList.all plainV then v else und
  | v => if plainV v then v else und

def evalO (t : Nat → Value) : Operand → Value
  | .tmp s => t s
  | .const v => constV v
  | .global _ => und
  | .func f => .func (.func f) #[] #[]

def okVal : Value → Bool
  | .tuple _ => false
  | _ => true

def aload (P : Program) (h : Heap) (t : TypeId) (v : Value) : Option Value :=
  match v with
  | .pointer (some ⟨i, off, none⟩) =>
    match getRow h i with
    | some (c, _) =>
      match tinfo P t with
      | some (d, _, sz, _) => if isAggD d then (if off + sz ≤ c.length then some (.agg ((c.drop off).take sz).toArray) else none) else c[off]?
      | none => none
    | none => none
  | _ => none

def astore (P : Program) (h : Heap) (t : TypeId) (p v : Value) : Option Heap :=
  match p with
  | .pointer (some ⟨i, off, none⟩) =>
    match getRow h i with
    | some (c, m) =>
      match tinfo P t with
      | some (_, _, sz, _) =>
        if m ≠ .ro ∧ okVal v = true ∧ (cellsOf v).length = sz ∧ (cellsOf v).all okCell = true ∧ off + sz ≤ c.length then
          some (h.set i (.row (writeL c off (cellsOf v)) m)) else none
      | none => none
    | none => none
  | _ => none

def part_ (P : Program) (t : TypeId) (cs : Array Value) (off : Nat) : Option Value :=
  match tinfo P t with
  | some (d, _, sz, _) => if isAggD d then some (.agg (cs.extract off (off + sz))) else cs[off]?
  | none => none

def fillA (place : Nat → Option (Nat × Nat)) (cells : List Value) : List (Nat × Value) → Option (List Value)
  | [] => some cells
  | (i, v) :: rest =>
    match place i with
    | some (off, size) =>
      if okVal v = true ∧ (cellsOf v).length = size ∧ off + size ≤ cells.length then fillA place (writeL cells off (cellsOf v)) rest else none
    | none => none

def newRowA (h : Heap) (c : List Value) (m : Md) : Value × Heap := (.pointer (some ⟨h.length, 0, none⟩), h ++ [.row c m])

def intOp (op : BinOp) (k : IntKind) (a b : Int) : Option Value :=
  match op with
  | .add => some (.int k (k.wrap (a + b)))
  | .sub => some (.int k (k.wrap (a - b)))
  | .mul => some (.int k (k.wrap (a * b)))
  | .quo => if b = 0 then none else some (.int k (k.wrap (a.tdiv b)))
  | .rem => if b = 0 then none else some (.int k (a.tmod b))
  | .and => some (.int k (k.wrap (BitVec.ofInt k.bits a &&& BitVec.ofInt k.bits b).toNat))
  | .or => some (.int k (k.wrap (BitVec.ofInt k.bits a ||| BitVec.ofInt k.bits b).toNat))
  | .xor => some (.int k (k.wrap (BitVec.ofInt k.bits a ^^^ BitVec.ofInt k.bits b).toNat))
  | .andNot => some (.int k (k.wrap (BitVec.ofInt k.bits a &&& ~~~BitVec.ofInt k.bits b).toNat))
  | .eql => some (.bool (a == b))
  | .neq => some (.bool (a != b))
  | .lss => some (.bool (a < b))
  | .leq => some (.bool (a ≤ b))
  | .gtr => some (.bool (a > b))
  | .geq => some (.bool (a ≥ b))
  | _ => none

def strOp (op : BinOp) (x y : ByteArray) : Option Value :=
  match op with
  | .add => if ((x.size + y.size : Nat) : Int) > IntKind.i64.max then none else some (.string (x ++ y))
  | .eql => some (.bool (x.toList == y.toList))
  | .neq => some (.bool !(x.toList == y.toList))
  | .lss => some (.bool (Op.bytesLess x.toList y.toList))
  | .leq => some (.bool (Op.bytesLess x.toList y.toList || x.toList == y.toList))
  | .gtr => some (.bool !(Op.bytesLess x.toList y.toList || x.toList == y.toList))
  | .geq => some (.bool !(Op.bytesLess x.toList y.toList))
  | _ => none

def isNilV : Value → Option Bool
  | .pointer none | .slice none 0 0 | .map none | .nilFunc => some true
  | .pointer (some _) | .slice (some _) _ _ | .map (some _) | .func _ _ _ => some false
  | _ => none

/-- A value of several parts, all of them numbers, texts, bools: what they are. -/
def aggLits (P : Program) (t : TypeId) (v : Value) : Option (List Lit) :=
  match v with
  | .agg cs => if P.keyTypeAt 40 t = true ∧ P.tiled 40 t = true ∧ (Value.agg cs).formed P t = true then P.keyLits 41 t cs.toList else none
  | _ => none

def cellEq : Value → Value → Bool
  | .bool a, .bool b => a == b
  | .int k a, .int k' b => k == k' && a == b
  | .string a, .string b => a.data.toList == b.data.toList
  | _, _ => false
def cellsEq : List Value → List Value → Bool
  | [], [] => true
  | x :: xs, y :: ys => cellEq x y && cellsEq xs ys
  | _, _ => false

/-- '==' of two values that are no numbers and no texts: bools; whatever against nil. -/
def eqlA (P : Program) (t : TypeId) (x y : Value) : Option Bool :=
  match x, y with
  | .bool a, .bool b => match tinfo P t with
    | some (.bool, _) => some (a == b)
    | _ => none
  | .agg xs, .agg ys =>
    if P.eqGuardType P.depth t = false then
      match aggLits P t (.agg xs), aggLits P t (.agg ys) with
      | some _, some _ => some (cellsEq xs.toList ys.toList)
      | _, _ => none
    else none
  | x, y => match tinfo P t with
    | some (.pointer _, _) => match x, y with
      | .pointer none, .pointer b => some b.isNone
      | .pointer (some _), .pointer none => some false
      | _, _ => none
    | some (.slice _, _) => match x, y with
      | .slice none 0 0, .slice b _ _ => some b.isNone
      | .slice (some _) _ _, .slice none 0 0 => some false
      | _, _ => none
    | some (.map _ _, _) => match x, y with
      | .map none, .map b => some b.isNone
      | .map (some _), .map none => some false
      | _, _ => none
    | some (.func _ _ _, _) => match x, y with
      | .nilFunc, .nilFunc => some true
      | .nilFunc, .func (.func _) _ _ => some false
      | .func (.func _) _ _, .nilFunc => some false
      | _, _ => none
    | _ => none

def binA (P : Program) (op : BinOp) (t : TypeId) (x y : Value) : Option Value :=
  match x, y with
  | .int k a, .int k' b =>
    match op with
    | .shl => if b < 0 then none else some (.int k (k.wrap (a * 2 ^ min b.toNat k.bits)))
    | .shr => if b < 0 then none else some (.int k (a.fdiv (2 ^ min b.toNat k.bits)))
    | op => if k = k' then intOp op k a b else none
  | .string a, .string b => strOp op a b
  | x, y => match op with
    | .eql => (eqlA P t x y).map .bool
    | .neq => (eqlA P t x y).map fun b => .bool !b
    | _ => none

def unA (op : UnOp) (x : Value) : Option Value :=
  match op, x with
  | .neg, .int k n => some (.int k (k.wrap (0 - n)))
  | .xor, .int k n => some (.int k (k.wrap (BitVec.ofInt k.bits (if k.signed then -1 else k.max) ^^^ BitVec.ofInt k.bits n).toNat))
  | .not, .bool b => some (.bool !b)
  | _, _ => none

/-- So many times the cells of one element. -/
def repA (z : List Value) (n : Nat) : List Value := (List.replicate n z).flatten

def bytesV (s : ByteArray) : List Value := s.data.toList.map fun b => .int .u8 b.toNat

def bytesOfV : List Value → Option (List UInt8)
  | [] => some []
  | .int .u8 n :: rest => (bytesOfV rest).map (UInt8.ofNat n.toNat :: ·)
  | _ :: _ => none

/-- How many cells an appended source gives, and which. -/
def srcA (h : Heap) (size : Nat) (x : Value) : Option (Nat × List Value) :=
  match x with
  | .slice none 0 0 => some (0, [])
  | .slice (some ⟨i, off, none⟩) n _ =>
    match getRow h i with
    | some (c, _) => if off + n * size ≤ c.length then some (n, (c.drop off).take (n * size)) else none
    | none => none
  | .string s => if size = 1 then some (s.size, bytesV s) else none
  | .func (.yield 2) _ _ => some (0, [])
  | .func (.yield 0) _ es => if es.toList.all (fun e => (cellsOf e).length == size) = true then some (es.size, es.toList.flatMap cellsOf) else none
  | _ => none

/-- A slice's type, or the texts'. -/
def isSrcT (P : Program) (t : TypeId) : Bool :=
  match tinfo P t with
  | some (.slice _, _) => true
  | some (.string, _) => true
  | _ => false

def appendA (P : Program) (h : Heap) (st xt : TypeId) (s x : Value) : Option (Value × Heap) :=
  match tinfo P st with
  | some (.slice e, _) =>
    match tinfo P e with
    | some (_, z, size, bytes) =>
      if size = 0 ∨ z.cells.size ≠ size then none else
      if isSrcT P xt = false then none else
      match srcA h size x with
      | none => none
      | some (n, vs) =>
        match s with
        | .slice none 0 0 =>
          if n = 0 then some (.slice none 0 0, h)
          else if n * bytes ≤ 140737488355328 ∧ n ≤ 9223372036854775807 then some (.slice (some ⟨h.length, 0, none⟩) n n, h ++ [.row vs (.grown size)]) else none
        | .slice (some ⟨i, off, none⟩) len cap =>
          if n = 0 then (if len ≤ cap then some (s, h) else none) else
          match getRow h i with
          | none => none
          | some (c, m) =>
            if len + n ≤ cap then
              (if m ≠ .ro ∧ vs.all okCell = true ∧ off + (len + n) * size ≤ c.length then
                some (.slice (some ⟨i, off, none⟩) (len + n) cap, h.set i (.row (writeL c (off + len * size) vs) m)) else none)
            else if off + len * size ≤ c.length ∧ len ≤ cap ∧ vs.all okCell = true ∧ (len + n) * bytes ≤ 140737488355328 ∧ len + n ≤ 9223372036854775807 ∧ (m.openSize = none ∨ m.openSize = some size) then
              some (.slice (some ⟨h.length, 0, none⟩) (len + n) (len + n),
                (if m = .grown size ∧ off + cap * size = c.length then h.set i .dead else h) ++ [.row ((c.drop off).take (len * size) ++ vs) (.grown size)])
            else none
        | _ => none
    | none => none
  | _ => none

def copyA (P : Program) (h : Heap) (dt : TypeId) (d x : Value) : Option (Value × Heap) :=
  match tinfo P dt with
  | some (.slice e, _) =>
    match tinfo P e with
    | some (_, _, size, _) =>
      match srcA h size x, d with
      | some (n, vs), .slice none 0 0 => some (.int .i64 0, h)
      | some (n, vs), .slice (some ⟨i, off, none⟩) len cap =>
        match getRow h i with
        | none => none
        | some (c, m) =>
          if m ≠ .ro ∧ (vs.take (min n len * size)).all okCell = true ∧ off + min n len * size ≤ c.length ∧ len ≤ cap ∧ 0 < cap ∧ vs.length = n * size then
            some (.int .i64 (min n len : Nat), h.set i (.row (writeL c off (vs.take (min n len * size))) m)) else none
      | _, _ => none
    | none => none
  | _ => none

def clearA (P : Program) (h : Heap) (t : TypeId) (x : Value) : Option Heap :=
  match tinfo P t, x with
  | some (.slice _, _), .slice none 0 0 => some h
  | some (.slice e, _), .slice (some ⟨i, off, none⟩) n cap =>
    if n = 0 then (if n ≤ cap then some h else none) else
    match tinfo P e, getRow h i with
    | some (_, z, size, _), some (c, m) =>
      if m ≠ .ro ∧ n ≤ cap ∧ 0 < size ∧ z.cells.size = size ∧ okVal (constV z) = true ∧ (repA (cellsOf (constV z)) n).all okCell = true ∧ off + n * size ≤ c.length then
        some (h.set i (.row (writeL c off (repA (cellsOf (constV z)) n)) m)) else none
    | _, _ => none
  | _, _ => none

def lenA (P : Program) (h : Heap) (t : TypeId) (x : Value) : Option Value :=
  match tinfo P t, x with
  | some (.string, _), .string s => some (.int .i64 s.size)
  | some (.array n _, _), _ => some (.int .i64 n)
  | some (.slice _, _), .slice _ n _ => some (.int .i64 n)
  | some (.map _ _, _), .map none => some (.int .i64 0)
  | some (.map _ _, _), .map (some i) => (getMap h i).map fun es => .int .i64 es.length
  | _, _ => none

def scalarD : TypeDesc → Bool
  | .bool | .int _ | .string => true
  | _ => false

/-- Are two keys the same? -/
def sameK (P : Program) (kt : TypeId) (d : TypeDesc) (k x : Value) : Option Bool :=
  if scalarD d = true then Instr.sameNow d k x else
  match aggLits P kt k, aggLits P kt x with
  | some _, some _ => some (cellsEq (cellsOf k) (cellsOf x))
  | _, _ => none

def afind (P : Program) (kt : TypeId) (d : TypeDesc) (k : Value) : List (Value × Value) → Nat → Option (Option (Nat × Value))
  | [], _ => some none
  | x :: es, i =>
    match sameK P kt d k x.1 with
    | some true => some (some (i, x.2))
    | some false => afind P kt d k es (i + 1)
    | none => none

/-- A key that may be asked for. -/
def keyOk (P : Program) (kt : TypeId) (d : TypeDesc) (k : Value) : Prop :=
  ground k = true ∧ (scalarD d = true ∨ (isAggD d = true ∧ (aggLits P kt k).isSome = true))
instance (P : Program) (kt : TypeId) (d : TypeDesc) (k : Value) : Decidable (keyOk P kt d k) := by unfold keyOk; infer_instance

def lookupA (P : Program) (h : Heap) (t : TypeId) (m k : Value) (ok : Bool) : Option Value :=
  match tinfo P t with
  | some (.map kt et, _) =>
    match tinfo P kt, tinfo P et with
    | some (kd, _), some (_, z, _) =>
      if keyOk P kt kd k then
        match (match m with | .map none => some [] | .map (some i) => getMap h i | _ => none) with
        | none => none
        | some es =>
          match afind P kt kd k es 0 with
          | some (some (_, v)) => some (if ok then .tuple #[v, .bool true] else v)
          | some none => some (if ok then .tuple #[constV z, .bool false] else constV z)
          | none => none
      else none
    | _, _ => none
  | _ => none

def updateA (P : Program) (h : Heap) (t : TypeId) (m k v : Value) : Option Heap :=
  match tinfo P t with
  | some (.map kt _, _) =>
    match tinfo P kt with
    | some (kd, _) =>
      if keyOk P kt kd k then
        match m with
        | .map (some i) =>
          match getMap h i with
          | none => none
          | some es =>
            match afind P kt kd k es 0 with
            | some (some (j, _)) => some (h.set i (.map (es.set j (k, v))))
            | some none => some (h.set i (.map (es ++ [(k, v)])))
            | none => none
        | _ => none
      else none
    | none => none
  | _ => none

def asNat : Option Value → Nat → Option Nat
  | none, d => some d
  | some (.int _ n), _ => if 0 ≤ n then some n.toNat else none
  | _, _ => none

def sliceA (P : Program) (h : Heap) (t : TypeId) (x : Value) (lo hi mx : Option Value) : Option Value :=
  match tinfo P t, x with
  | some (.string, _), .string s =>
    match asNat lo 0, asNat hi s.size, mx with
    | some l, some hh, none => if l ≤ hh ∧ hh ≤ s.size then some (.string (s.extract l hh)) else none
    | _, _, _ => none
  | some (.slice e, _), .slice a len cap =>
    match tinfo P e, asNat lo 0, asNat hi len, asNat mx cap with
    | some (_, _, size, _), some l, some hh, some m =>
      if l ≤ hh ∧ hh ≤ m ∧ m ≤ cap ∧ len ≤ cap ∧ (mx.isSome → hi.isSome) then
        match a with
        | none => some (.slice none 0 0)
        | some ⟨i, off, none⟩ => match getRow h i with
          | some (_, md) => if md.openSize = none ∨ (0 < size ∧ md.openSize = some size) then some (.slice (some ⟨i, off + l * size, none⟩) (hh - l) (m - l)) else none
          | none => none
        | _ => none
      else none
    | _, _, _, _ => none
  | some (.array n e, _), .pointer (some ⟨i, off, none⟩) =>
    match tinfo P e, asNat lo 0, asNat hi n, asNat mx n with
    | some (_, _, size, _), some l, some hh, some m =>
      if l ≤ hh ∧ hh ≤ m ∧ m ≤ n ∧ (mx.isSome → hi.isSome) then some (.slice (some ⟨i, off + l * size, none⟩) (hh - l) (m - l)) else none
    | _, _, _, _ => none
  | _, _ => none

def makeSliceA (P : Program) (h : Heap) (t : TypeId) (l c : Value) : Option (Value × Heap) :=
  match tinfo P t, l, c with
  | some (.slice e, _), .int _ l, .int _ c =>
    match tinfo P e with
    | some (_, z, size, bytes) =>
      if 0 ≤ l ∧ l ≤ c ∧ c ≤ 9223372036854775807 ∧ (bytes : Int) * c ≤ 281474976710656 ∧ 0 < size ∧ z.cells.size = size ∧ okVal (constV z) = true then
        some (.slice (some ⟨h.length, 0, none⟩) l.toNat c.toNat, h ++ [.row (repA (cellsOf (constV z)) c.toNat) .exact]) else none
    | none => none
  | _, _, _ => none

/-- Where the parts of a literal lie. -/
def placesA (P : Program) (fields : List Field) : Nat → Option (Nat × Nat) := fun i =>
  match fields[i]? with
  | some f => match tinfo P f.type with
    | some (_, _, sz, _) => some (f.offset, sz)
    | none => none
  | none => none

def convA (P : Program) (h : Heap) (src dst : TypeId) (x : Value) : Option (Value × Heap) :=
  match tinfo P src, tinfo P dst, x with
  | some _, some (.int k, _), .int _ n => some (.int k (k.wrap n), h)
  | some _, some (.string, _), .string s => some (.string s, h)
  | some _, some (.slice e, _), .string s =>
    match tinfo P e with
    | some (.int .u8, _) => some (.slice (some ⟨h.length, 0, none⟩) s.size s.size, h ++ [.row (bytesV s) (.grown 1)])
    | _ => none
  | some (.slice e, _), some (.string, _), .slice none 0 0 =>
    match tinfo P e with
    | some (.int .u8, _) => some (.string .empty, h)
    | _ => none
  | some (.slice e, _), some (.string, _), .slice (some ⟨i, off, none⟩) len _ =>
    match tinfo P e, getRow h i with
    | some (.int .u8, _), some (c, _) =>
      if off + len ≤ c.length then (bytesOfV ((c.drop off).take len)).map fun l => (.string ⟨l.toArray⟩, h) else none
    | _, _ => none
  | _, _, _ => none

def minmaxA (mx : Bool) : List Value → Option Value
  | .int k x :: rest => rest.foldlM (fun v y => match v, y with
    | .int k x, .int _ y => some (.int k (if mx then (if y > x then y else x) else (if y < x then y else x)))
    | _, _ => none) (.int k x)
  | _ => none

/-- A call of a function of the language's own. -/
def abuiltin (P : Program) (t : Nat → Value) (h : Heap) (c : Callee) (args : List Operand) (tys : List TypeId) : Option (Value × Heap) :=
  match c with
  | .builtin .len => match args, tys with
    | [x], [ty] => (lenA P h ty (evalO t x)).map (·, h)
    | _, _ => none
  | .builtin .append => match args, tys with
    | [s, x], [st, xt] => appendA P h st xt (evalO t s) (evalO t x)
    | _, _ => none
  | .builtin .copy => match args, tys with
    | [d, x], [dt, _] => copyA P h dt (evalO t d) (evalO t x)
    | _, _ => none
  | .builtin .max => (minmaxA true (args.map (evalO t))).map (·, h)
  | .builtin .min => (minmaxA false (args.map (evalO t))).map (·, h)
  | .builtin .clear => match args, tys with
    | [x], [ty] => (clearA P h ty (evalO t x)).map (undef, ·)
    | _, _ => none
  | _ => none

/-- An operation that calls nothing. -/
def aop0 (P : Program) (t : Nat → Value) (h : Heap) (o : Op) : Option (Value × Heap) :=
  match o with
  | .move x | .assign x => some (evalO t x, h)
  | .pick c a b => match evalO t c with
    | .bool true => some (evalO t a, h)
    | .bool false => some (evalO t b, h)
    | _ => none
  | .alloc e => match tinfo P e with
    | some (_, z, _, _) => if okVal (constV z) = true then some (newRowA h (cellsOf (constV z)) .exact) else none
    | none => none
  | .box _ x => if okVal (evalO t x) = true then some (newRowA h (cellsOf (evalO t x)) .exact) else none
  | .build ty ps => match tinfo P ty with
    | some (.struct fields, z, _, _) =>
      if okVal (constV z) = true ∧ fields.toList.all (fun f => (tinfo P f.type).isSome) = true then
        (fillA (placesA P fields.toList) (cellsOf (constV z)) (ps.toList.map fun (i, x) => (i, evalO t x))).map fun cs => (.agg cs.toArray, h) else none
    | some (.array _ e, z, _, _) => match tinfo P e with
      | some (_, _, sz, _) => if okVal (constV z) = true then
          (fillA (fun i => some (i * sz, sz)) (cellsOf (constV z)) (ps.toList.map fun (i, x) => (i, evalO t x))).map fun cs => (.agg cs.toArray, h) else none
      | none => none
    | _ => none
  | .buildSlice ty len ps => match tinfo P ty with
    | some (.slice e, _) => match tinfo P e with
      | some (_, z, sz, _) =>
        if len * sz ≤ 16777216 ∧ okVal (constV z) = true ∧ z.cells.size = sz ∧ 0 < sz then
          (fillA (fun i => some (i * sz, sz)) (repA (cellsOf (constV z)) len) (ps.toList.map fun (i, x) => (i, evalO t x))).map fun cs =>
            (.slice (some ⟨h.length, 0, none⟩) len len, h ++ [.row cs .exact]) else none
      | none => none
    | _ => none
  | .load ty a => (aload P h ty (evalO t a)).map (·, h)
  | .store ty a x => (astore P h ty (evalO t a) (evalO t x)).map (undef, ·)
  | .nilCheck x => match evalO t x with
    | .pointer (some a) => some (.pointer (some a), h)
    | .func (.func f) a b => some (.func (.func f) a b, h)
    | _ => none
  | .binOp op ty x y _ => (binA P op ty (evalO t x) (evalO t y)).map (·, h)
  | .unOp op _ x => (unA op (evalO t x)).map (·, h)
  | .convert s d x => convA P h s d (evalO t x)
  | .makeFunc fn xs cs => if realFn fn = true then some (.func fn (xs.map (evalO t)) (cs.map (evalO t)), h) else none
  | .makeMap _ none => some (.map (some h.length), h ++ [.map []])
  | .makeSlice ty l c => makeSliceA P h ty (evalO t l) (evalO t c)
  | .slice ty x lo hi mx => (sliceA P h ty (evalO t x) (lo.map (evalO t)) (hi.map (evalO t)) (mx.map (evalO t))).map (·, h)
  | .fieldAddr s x f => match tinfo P s, evalO t x with
    | some (.struct fields, _), .pointer (some ⟨i, off, none⟩) => match fields[f]? with
      | some fl => match tinfo P fl.type with
        | some (_, _, sz, _) => if sz = 0 then none else some (.pointer (some ⟨i, off + fl.offset, none⟩), h)
        | none => none
      | none => none
    | _, _ => none
  | .field s x f => match tinfo P s, evalO t x with
    | some (.struct fields, _), .agg cs => match fields[f]? with
      | some fl => (part_ P fl.type cs fl.offset).map (·, h)
      | none => none
    | _, _ => none
  | .indexAddr ty x ix => match tinfo P ty, evalO t x, evalO t ix with
    | some (.array len e, _), .pointer (some ⟨i, off, none⟩), .int _ n => match tinfo P e with
      | some (_, _, sz, _) => if 0 ≤ n ∧ n < len then some (.pointer (some ⟨i, off + n.toNat * sz, none⟩), h) else none
      | none => none
    | some (.slice e, _), .slice (some ⟨i, off, none⟩) len _, .int _ n => match tinfo P e with
      | some (_, _, sz, _) => if 0 ≤ n ∧ n < len then some (.pointer (some ⟨i, off + n.toNat * sz, none⟩), h) else none
      | none => none
    | _, _, _ => none
  | .index ty x ix => match tinfo P ty, evalO t x, evalO t ix with
    | some (.array len e, _), .agg cs, .int _ n => match tinfo P e with
      | some (_, _, sz, _) => if 0 ≤ n ∧ n < len then (part_ P e cs (n.toNat * sz)).map (·, h) else none
      | none => none
    | some (.string, _), .string s, .int _ n => if 0 ≤ n then (s[n.toNat]?).map fun b => (.int .u8 b.toNat, h) else none
    | _, _, _ => none
  | .lookup ty m k ok => (lookupA P h ty (evalO t m) (evalO t k) ok).map (·, h)
  | .mapUpdate ty m k v | .insert ty m k v => (updateA P h ty (evalO t m) (evalO t k) (evalO t v)).map (undef, ·)
  | .extract x i => match evalO t x with
    | .tuple vs => if 2 ≤ vs.size then (vs[i]?).map (·, h) else none
    | _ => none
  | .makeInterface ty x => match tinfo P ty with
    | some (.interface _, _) => none
    | some _ => some (.iface ty (evalO t x), h)
    | none => none
  | .call c => abuiltin P t h c.callee c.args.toList c.argTypes.toList
  | _ => none

/-- Of frozen cells: what is loaded; a piece; an element; a part. -/
def litLoad (agg : Bool) (sz : Nat) (cs : List Value) : Option Value :=
  if agg then (if sz ≤ cs.length then some (.agg (cs.take sz).toArray) else none) else cs[0]?
def plitSub (off sz : Nat) (cs : List Value) : Option Value :=
  if off + sz ≤ cs.length then some (plit ((cs.drop off).take sz)) else none
def litIx (sz n : Nat) (es : List Value) : Option Value :=
  match es[n]? with
  | some e => if (cellsOf e).length = sz then some (plit (cellsOf e)) else none
  | none => none
def litSlice (es : List Value) (lo hi : Option Value) : Option Value :=
  match asNat lo 0, asNat hi es.length with
  | some l, some m => if l ≤ m ∧ m ≤ es.length then some (lit ((es.drop l).take (m - l))) else none
  | _, _ => none
def isLit : Value → Option (List Value)
  | .func (.yield 0) _ es => some es.toList
  | _ => none
def isPlit : Value → Option (List Value)
  | .func (.yield 1) _ cs => some cs.toList
  | _ => none
def isEmp : Value → Bool
  | .func (.yield 2) _ _ => true
  | _ => false
/-- Against nil. -/
def nilS : List Value → Value → Bool
  | _ :: _, .slice none 0 0 => true
  | _, _ => false
def nilP : Value → Bool
  | .pointer none => true
  | _ => false
def nilE : Value → Bool
  | .slice none 0 0 => true
  | _ => false
def nilT (P : Program) (t : TypeId) (x y : Value) : Bool :=
  match tinfo P t with
  | some (.slice _, _) => match isLit x with
    | some es => nilS es y
    | none => isEmp x && nilE y
  | some (.pointer _, _) => match isPlit x with
    | some _ => nilP y
    | none => false
  | _ => false

/-- What an operation yields of frozen things, whatever the heap. -/
def lop (P : Program) (t : Nat → Value) (o : Op) : Option Value :=
  match o with
  | .load ty a => match isPlit (evalO t a), tinfo P ty with
    | some cs, some (d, _, sz, _) => litLoad (isAggD d) sz cs
    | _, _ => none
  | .nilCheck x => (isPlit (evalO t x)).map plit
  | .fieldAddr s x f => match isPlit (evalO t x), tinfo P s with
    | some cs, some (.struct fields, _) => match fields[f]? with
      | some fl => match tinfo P fl.type with
        | some (_, _, sz, _) => if sz = 0 then none else plitSub fl.offset sz cs
        | none => none
      | none => none
    | _, _ => none
  | .indexAddr ty x ix => match tinfo P ty, evalO t ix with
    | some (.slice e, _), .int _ n => match tinfo P e, isLit (evalO t x) with
      | some (_, _, sz, _), some es => if 0 ≤ n then litIx sz n.toNat es else none
      | _, _ => none
    | some (.array len e, _), .int _ n => match tinfo P e, isPlit (evalO t x) with
      | some (_, _, sz, _), some cs => if 0 ≤ n ∧ n < len then plitSub (n.toNat * sz) sz cs else none
      | _, _ => none
    | _, _ => none
  | .slice ty x lo hi none => match tinfo P ty, isLit (evalO t x) with
    | some (.slice e, _), some es => match tinfo P e with
      | some (_, _, sz, _) => if es.all (fun e => (cellsOf e).length == sz) = true then litSlice es (lo.map (evalO t)) (hi.map (evalO t)) else none
      | none => none
    | _, _ => none
  | .convert s d x => match tinfo P s, tinfo P d, isLit (evalO t x) with
    | some (.slice e, _), some (.string, _), some es => match tinfo P e with
      | some (.int .u8, _) => (bytesOfV es).map fun l => .string ⟨l.toArray⟩
      | _ => none
    | _, _, _ => none
  | .binOp .eql ty x y _ => if nilT P ty (evalO t x) (evalO t y) = true then some (.bool false) else none
  | .binOp .neq ty x y _ => if nilT P ty (evalO t x) (evalO t y) = true then some (.bool true) else none
  | .call ⟨.builtin .len, args, tys⟩ => match args.toList, tys.toList with
    | [x], [ty] => match tinfo P ty, isLit (evalO t x) with
      | some (.slice _, _), some es => some (.int .i64 es.length)
      | some (.slice _, _), none => if isEmp (evalO t x) = true then some (.int .i64 0) else none
      | _, _ => none
    | _, _ => none
  | _ => none

def aop (P : Program) (t : Nat → Value) (h : Heap) (o : Op) : Option (Value × Heap) :=
  match lop P t o with
  | some v => some (v, h)
  | none => aop0 P t h o

end Go.Ax
