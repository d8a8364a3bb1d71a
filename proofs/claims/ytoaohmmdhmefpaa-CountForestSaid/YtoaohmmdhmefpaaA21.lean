/- Ax, part 21: one small word for each operation, in which types are told by what is needed of them. -/
import Derived.Test.YtoaohmmdhmefpaaA20
namespace Go.Ax
open Go.RowKit

/-- An operation's value, if it has one. -/
def oW (o : Option Value) (K : Value → Prop) : Prop := ∃ v, o = some v ∧ K v
/-- .. and heap. -/
def hW (o : Option (Value × Heap)) (K : Value → Heap → Prop) : Prop := ∃ v h, o = some (v, h) ∧ K v h
/-- A heap. -/
def sW (o : Option Heap) (K : Heap → Prop) : Prop := ∃ h, o = some h ∧ K h
/-- A fork. -/
def bW (c : Value) (A B : Prop) : Prop := ∃ p, c = .bool p ∧ (p = true → A) ∧ (p = false → B)

def ldW (agg : Bool) (sz : Nat) (h : Heap) (a : Value) : Option Value :=
  match a with
  | .func (.yield 1) _ cs => litLoad agg sz cs.toList
  | .pointer (some ⟨i, off, none⟩) => match getRow h i with
    | some (c, _) => if agg then (if off + sz ≤ c.length then some (.agg ((c.drop off).take sz).toArray) else none) else c[off]?
    | none => none
  | _ => none
def stW (sz : Nat) (h : Heap) (p v : Value) : Option Heap :=
  match p with
  | .pointer (some ⟨i, off, none⟩) => match getRow h i with
    | some (c, m) => if m ≠ .ro ∧ okVal v = true ∧ (cellsOf v).length = sz ∧ (cellsOf v).all okCell = true ∧ off + sz ≤ c.length then
        some (h.set i (.row (writeL c off (cellsOf v)) m)) else none
    | none => none
  | _ => none
def partW (agg : Bool) (off sz : Nat) (cs : Array Value) : Option Value := if agg then some (.agg (cs.extract off (off + sz))) else cs[off]?
def fldW (agg : Bool) (off sz : Nat) (x : Value) : Option Value :=
  match x with
  | .agg cs => partW agg off sz cs
  | _ => none
def faW (off sz : Nat) (x : Value) : Option Value :=
  match x with
  | .func (.yield 1) _ cs => plitSub off sz cs.toList
  | .pointer (some ⟨i, o, none⟩) => some (.pointer (some ⟨i, o + off, none⟩))
  | _ => none
def iaS (sz : Nat) (x ix : Value) : Option Value :=
  match x, ix with
  | .func (.yield 0) _ es, .int _ n => if 0 ≤ n then litIx sz n.toNat es.toList else none
  | .slice (some ⟨i, off, none⟩) len _, .int _ n => if 0 ≤ n ∧ n < len then some (.pointer (some ⟨i, off + n.toNat * sz, none⟩)) else none
  | _, _ => none
def iaA (len sz : Nat) (x ix : Value) : Option Value :=
  match x, ix with
  | .func (.yield 1) _ cs, .int _ n => if 0 ≤ n ∧ n < len then plitSub (n.toNat * sz) sz cs.toList else none
  | .pointer (some ⟨i, off, none⟩), .int _ n => if 0 ≤ n ∧ n < len then some (.pointer (some ⟨i, off + n.toNat * sz, none⟩)) else none
  | _, _ => none
def ixA (agg : Bool) (len sz : Nat) (x ix : Value) : Option Value :=
  match x, ix with
  | .agg cs, .int _ n => if 0 ≤ n ∧ n < len then partW agg (n.toNat * sz) sz cs else none
  | _, _ => none
def ixS (x ix : Value) : Option Value :=
  match x, ix with
  | .string s, .int _ n => if 0 ≤ n then (s[n.toNat]?).map fun b => .int .u8 b.toNat else none
  | _, _ => none
def slStr (x : Value) (lo hi : Option Value) : Option Value :=
  match x with
  | .string s => match asNat lo 0, asNat hi s.size with
    | some l, some m => if l ≤ m ∧ m ≤ s.size then some (.string (s.extract l m)) else none
    | _, _ => none
  | _ => none
def slS (sz : Nat) (h : Heap) (x : Value) (lo hi mx : Option Value) : Option Value :=
  match x with
  | .func (.yield 0) _ es => match mx with
    | none => if es.toList.all (fun e => (cellsOf e).length == sz) = true then litSlice es.toList lo hi else none
    | some _ => none
  | .slice a len cap => match asNat lo 0, asNat hi len, asNat mx cap with
    | some l, some m, some c =>
      if l ≤ m ∧ m ≤ c ∧ c ≤ cap ∧ len ≤ cap ∧ (mx.isSome → hi.isSome) then
        match a with
        | none => some (.slice none 0 0)
        | some ⟨i, off, none⟩ => match getRow h i with
          | some (_, md) => if md.openSize = none ∨ (0 < sz ∧ md.openSize = some sz) then some (.slice (some ⟨i, off + l * sz, none⟩) (m - l) (c - l)) else none
          | none => none
        | _ => none
      else none
    | _, _, _ => none
  | _ => none
def slA (n sz : Nat) (x : Value) (lo hi mx : Option Value) : Option Value :=
  match x with
  | .pointer (some ⟨i, off, none⟩) => match asNat lo 0, asNat hi n, asNat mx n with
    | some l, some m, some c => if l ≤ m ∧ m ≤ c ∧ c ≤ n ∧ (mx.isSome → hi.isSome) then some (.slice (some ⟨i, off + l * sz, none⟩) (m - l) (c - l)) else none
    | _, _, _ => none
  | _ => none
def lenStr (x : Value) : Option Value :=
  match x with
  | .string s => some (.int .i64 s.size)
  | _ => none
def lenS (x : Value) : Option Value :=
  match x with
  | .func (.yield 0) _ es => some (.int .i64 es.size)
  | .func (.yield 2) _ _ => some (.int .i64 0)
  | .slice _ n _ => some (.int .i64 n)
  | _ => none
def lenM (h : Heap) (x : Value) : Option Value :=
  match x with
  | .map none => some (.int .i64 0)
  | .map (some i) => (getMap h i).map fun es => .int .i64 es.length
  | _ => none
/-- Numbers and texts. -/
def binN (op : BinOp) (x y : Value) : Option Value :=
  match x, y with
  | .int k a, .int k' b =>
    match op with
    | .shl => if b < 0 then none else some (.int k (k.wrap (a * 2 ^ min b.toNat k.bits)))
    | .shr => if b < 0 then none else some (.int k (a.fdiv (2 ^ min b.toNat k.bits)))
    | op => if k = k' then intOp op k a b else none
  | .string a, .string b => strOp op a b
  | _, _ => none
def eqB (x y : Value) : Option Value :=
  match x, y with
  | .bool a, .bool b => some (.bool (a == b))
  | _, _ => none
def neB (x y : Value) : Option Value :=
  match x, y with
  | .bool a, .bool b => some (.bool !(a == b))
  | _, _ => none
/-- A slice, a pointer, a map, a function against nil. -/
def nilS_ (x y : Value) : Option Bool :=
  match x, y with
  | .func (.yield 0) _ es, .slice none 0 0 => if es.size = 0 then none else some false
  | .func (.yield 2) _ _, .slice none 0 0 => some false
  | .slice none 0 0, .slice none 0 0 => some true
  | .slice (some _) _ _, .slice none 0 0 => some false
  | _, _ => none
def nilP_ (x y : Value) : Option Bool :=
  match x, y with
  | .func (.yield 1) _ _, .pointer none => some false
  | .pointer none, .pointer none => some true
  | .pointer (some _), .pointer none => some false
  | _, _ => none
def nilM_ (x y : Value) : Option Bool :=
  match x, y with
  | .map none, .map none => some true
  | .map (some _), .map none => some false
  | _, _ => none
def nilF_ (x y : Value) : Option Bool :=
  match x, y with
  | .nilFunc, .nilFunc => some true
  | .func (.func _) _ _, .nilFunc => some false
  | _, _ => none
def eqW (o : Option Bool) : Option Value := o.map .bool
def neW (o : Option Bool) : Option Value := o.map fun b => .bool !b

def fillL : List Value → List (Nat × Nat × Value) → Option (List Value)
  | cells, [] => some cells
  | cells, (off, sz, v) :: rest => if okVal v = true ∧ (cellsOf v).length = sz ∧ off + sz ≤ cells.length then fillL (writeL cells off (cellsOf v)) rest else none
def placeL (place : Nat → Option (Nat × Nat)) : List (Nat × Value) → Option (List (Nat × Nat × Value))
  | [] => some []
  | (i, v) :: r => match place i with
    | some (o, s) => match placeL place r with
      | some q => some ((o, s, v) :: q)
      | none => none
    | none => none
theorem placeL_eq {place : Nat → Option (Nat × Nat)} : ∀ {ps : List (Nat × Value)} {qs : List (Nat × Nat × Value)} {cells : List Value}, placeL place ps = some qs → fillA place cells ps = fillL cells qs
  | [], qs, cells, e => by cases e; rfl
  | (i, v) :: r, qs, cells, e => by
    simp only [placeL] at e
    split at e
    · rename_i o s hp
      split at e
      · rename_i q hq
        cases e
        simp only [fillA, hp, fillL]
        split
        · exact placeL_eq hq
        · rfl
      · cases e
    · cases e
def bldW (z : List Value) (qs : List (Nat × Nat × Value)) : Option Value := (fillL z qs).map fun cs => .agg cs.toArray
def bslW (h : Heap) (len : Nat) (z : List Value) (qs : List (Nat × Nat × Value)) : Option (Value × Heap) :=
  (fillL z qs).map fun cs => (.slice (some ⟨h.length, 0, none⟩) len len, h ++ [.row cs .exact])
def boxA (h : Heap) (v : Value) : Option (Value × Heap) := if okVal v = true then some (newRowA h (cellsOf v) .exact) else none
def nilCheckA : Value → Option Value
  | .pointer (some a) => some (.pointer (some a))
  | .func (.func f) a b => some (.func (.func f) a b)
  | .func (.yield 1) _ cs => some (plit cs.toList)
  | _ => none
def extractA (x : Value) (i : Nat) : Option Value :=
  match x with
  | .tuple vs => if 2 ≤ vs.size then vs[i]? else none
  | _ => none
def pickA (c a b : Value) : Option Value :=
  match c with
  | .bool true => some a
  | .bool false => some b
  | _ => none
def mksW (z : List Value) (bytes : Nat) (h : Heap) (l c : Value) : Option (Value × Heap) :=
  match l, c with
  | .int _ l, .int _ c =>
    if 0 ≤ l ∧ l ≤ c ∧ c ≤ 9223372036854775807 ∧ (bytes : Int) * c ≤ 281474976710656 then
      some (.slice (some ⟨h.length, 0, none⟩) l.toNat c.toNat, h ++ [.row (repA z c.toNat) .exact]) else none
  | _, _ => none
def apW (size bytes : Nat) (h : Heap) (s x : Value) : Option (Value × Heap) :=
  match srcA h size x with
  | none => none
  | some (n, vs) =>
    match s with
    | .slice none 0 0 =>
      if n = 0 then some (.slice none 0 0, h)
      else if n * bytes ≤ 140737488355328 ∧ n ≤ 9223372036854775807 then some (.slice (some ⟨h.length, 0, none⟩) n n, h ++ [.row vs (.grown size)]) else none
    | .slice (some ⟨i, off, none⟩) len cap =>
      if n = 0 then (if len ≤ cap then some (s, h) else none) else
      match getRow h i with
      | none => none
      | some (c, m) =>
        if len + n ≤ cap then
          (if m ≠ .ro ∧ vs.all okCell = true ∧ off + (len + n) * size ≤ c.length then
            some (.slice (some ⟨i, off, none⟩) (len + n) cap, h.set i (.row (writeL c (off + len * size) vs) m)) else none)
        else if off + len * size ≤ c.length ∧ len ≤ cap ∧ vs.all okCell = true ∧ (len + n) * bytes ≤ 140737488355328 ∧ len + n ≤ 9223372036854775807 ∧ (m.openSize = none ∨ m.openSize = some size) then
          some (.slice (some ⟨h.length, 0, none⟩) (len + n) (len + n),
            (if m = .grown size ∧ off + cap * size = c.length then h.set i .dead else h) ++ [.row ((c.drop off).take (len * size) ++ vs) (.grown size)])
        else none
    | _ => none
def cpW (size : Nat) (h : Heap) (d x : Value) : Option (Value × Heap) :=
  match srcA h size x, d with
  | some (_, _), .slice none 0 0 => some (.int .i64 0, h)
  | some (n, vs), .slice (some ⟨i, off, none⟩) len cap =>
    match getRow h i with
    | none => none
    | some (c, m) =>
      if m ≠ .ro ∧ (vs.take (min n len * size)).all okCell = true ∧ off + min n len * size ≤ c.length ∧ len ≤ cap ∧ 0 < cap ∧ vs.length = n * size then
        some (.int .i64 (min n len : Nat), h.set i (.row (writeL c off (vs.take (min n len * size))) m)) else none
  | _, _ => none
def clrW (z : List Value) (size : Nat) (h : Heap) (x : Value) : Option Heap :=
  match x with
  | .slice none 0 0 => some h
  | .slice (some ⟨i, off, none⟩) n cap =>
    if n = 0 then (if n ≤ cap then some h else none) else
    match getRow h i with
    | some (c, m) => if m ≠ .ro ∧ n ≤ cap ∧ (repA z n).all okCell = true ∧ off + n * size ≤ c.length then some (h.set i (.row (writeL c off (repA z n)) m)) else none
    | none => none
  | _ => none
/-- Maps whose keys are scalars. -/
def findS (d : TypeDesc) (k : Value) : List (Value × Value) → Nat → Option (Option (Nat × Value))
  | [], _ => some none
  | x :: es, i =>
    match Instr.sameNow d k x.1 with
    | some true => some (some (i, x.2))
    | some false => findS d k es (i + 1)
    | none => none
def mapEs (h : Heap) (m : Value) : Option (List (Value × Value)) :=
  match m with
  | .map none => some []
  | .map (some i) => getMap h i
  | _ => none
def lkS (d : TypeDesc) (z : Value) (ok : Bool) (h : Heap) (m k : Value) : Option Value :=
  if ground k = true then
    match mapEs h m with
    | none => none
    | some es => match findS d k es 0 with
      | some (some (_, v)) => some (if ok then .tuple #[v, .bool true] else v)
      | some none => some (if ok then .tuple #[z, .bool false] else z)
      | none => none
  else none
def upS (d : TypeDesc) (h : Heap) (m k v : Value) : Option Heap :=
  if ground k = true then
    match m with
    | .map (some i) => match getMap h i with
      | none => none
      | some es => match findS d k es 0 with
        | some (some (j, _)) => some (h.set i (.map (es.set j (k, v))))
        | some none => some (h.set i (.map (es ++ [(k, v)])))
        | none => none
    | _ => none
  else none
def cvI (k : IntKind) (x : Value) : Option Value :=
  match x with
  | .int _ n => some (.int k (k.wrap n))
  | _ => none
def cvSS (x : Value) : Option Value :=
  match x with
  | .string s => some (.string s)
  | _ => none
def cvSB (h : Heap) (x : Value) : Option (Value × Heap) :=
  match x with
  | .string s => some (.slice (some ⟨h.length, 0, none⟩) s.size s.size, h ++ [.row (bytesV s) (.grown 1)])
  | _ => none
def cvBS (h : Heap) (x : Value) : Option Value :=
  match x with
  | .func (.yield 0) _ es => (bytesOfV es.toList).map fun l => .string ⟨l.toArray⟩
  | .slice none 0 0 => some (.string .empty)
  | .slice (some ⟨i, off, none⟩) len _ => match getRow h i with
    | some (c, _) => if off + len ≤ c.length then (bytesOfV ((c.drop off).take len)).map fun l => .string ⟨l.toArray⟩ else none
    | none => none
  | _ => none

/-- A literal's parts, told by where they lie. -/
def buildR (P : Program) (ty : TypeId) (ps : List (Nat × Value)) : Option (List Value × List (Nat × Nat × Value)) :=
  match tinfo P ty with
  | some (.struct fields, z, _, _) => if okVal (constV z) = true ∧ fields.toList.all (fun f => (tinfo P f.type).isSome) = true then
      (match placeL (placesA P fields.toList) ps with
        | some qs => some (cellsOf (constV z), qs)
        | none => none) else none
  | some (.array _ e, z, _, _) => match tinfo P e with
    | some (_, _, sz, _) => if okVal (constV z) = true then (match placeL (fun i => some (i * sz, sz)) ps with
        | some qs => some (cellsOf (constV z), qs)
        | none => none) else none
    | none => none
  | _ => none
def buildSliceR (P : Program) (ty : TypeId) (len : Nat) (ps : List (Nat × Value)) : Option (List Value × List (Nat × Nat × Value)) :=
  match tinfo P ty with
  | some (.slice e, _) => match tinfo P e with
    | some (_, z, sz, _) => if len * sz ≤ 16777216 ∧ okVal (constV z) = true ∧ z.cells.size = sz ∧ 0 < sz then
        (match placeL (fun i => some (i * sz, sz)) ps with
          | some qs => some (repA (cellsOf (constV z)) len, qs)
          | none => none) else none
    | none => none
  | _ => none

abbrev evL_ (l : TL) (x : Operand) : Value := evalO (tsOf l) x

/-- An operation that calls nothing. -/
def opW (P : Program) (l : TL) (h : Heap) (o : Op) (K : Value → Heap → Prop) : Prop :=
  match o with
  | .move x | .assign x => K (evalO (tsOf l) x) h
  | .pick c a b => oW (pickA (evalO (tsOf l) c) (evalO (tsOf l) a) (evalO (tsOf l) b)) fun v => K v h
  | .alloc e => match tinfo P e with
    | some (_, z, _, _) => match okVal (constV z) with
      | true => K (.pointer (some ⟨h.length, 0, none⟩)) (h ++ [.row (cellsOf (constV z)) .exact])
      | false => False
    | none => False
  | .box _ x => hW (boxA h (evalO (tsOf l) x)) K
  | .build ty ps => match buildR P ty (ps.toList.map fun p => (p.1, evalO (tsOf l) p.2)) with
    | some (z, qs) => oW (bldW z qs) fun v => K v h
    | none => False
  | .buildSlice ty len ps => match buildSliceR P ty len (ps.toList.map fun p => (p.1, evalO (tsOf l) p.2)) with
    | some (z, qs) => hW (bslW h len z qs) K
    | none => False
  | .load ty a => match tinfo P ty with
    | some (d, _, sz, _) => oW (ldW (isAggD d) sz h (evalO (tsOf l) a)) fun v => K v h
    | none => False
  | .store ty a x => match tinfo P ty with
    | some (_, _, sz, _) => sW (stW sz h (evalO (tsOf l) a) (evalO (tsOf l) x)) fun h' => K undef h'
    | none => False
  | .nilCheck x => oW (nilCheckA (evalO (tsOf l) x)) fun v => K v h
  | .binOp op ty x y _ => match tinfo P ty with
    | some (d, _) => match d with
      | .int _ | .string => oW (binN op (evalO (tsOf l) x) (evalO (tsOf l) y)) fun v => K v h
      | .bool => match op with
        | .eql => oW (eqB (evalO (tsOf l) x) (evalO (tsOf l) y)) fun v => K v h
        | .neq => oW (neB (evalO (tsOf l) x) (evalO (tsOf l) y)) fun v => K v h
        | _ => False
      | .slice _ => match op with
        | .eql => oW (eqW (nilS_ (evalO (tsOf l) x) (evalO (tsOf l) y))) fun v => K v h
        | .neq => oW (neW (nilS_ (evalO (tsOf l) x) (evalO (tsOf l) y))) fun v => K v h
        | _ => False
      | .pointer _ => match op with
        | .eql => oW (eqW (nilP_ (evalO (tsOf l) x) (evalO (tsOf l) y))) fun v => K v h
        | .neq => oW (neW (nilP_ (evalO (tsOf l) x) (evalO (tsOf l) y))) fun v => K v h
        | _ => False
      | .map _ _ => match op with
        | .eql => oW (eqW (nilM_ (evalO (tsOf l) x) (evalO (tsOf l) y))) fun v => K v h
        | .neq => oW (neW (nilM_ (evalO (tsOf l) x) (evalO (tsOf l) y))) fun v => K v h
        | _ => False
      | .func _ _ _ => match op with
        | .eql => oW (eqW (nilF_ (evalO (tsOf l) x) (evalO (tsOf l) y))) fun v => K v h
        | .neq => oW (neW (nilF_ (evalO (tsOf l) x) (evalO (tsOf l) y))) fun v => K v h
        | _ => False
      | _ => oW (binA P op ty (evalO (tsOf l) x) (evalO (tsOf l) y)) fun v => K v h
    | none => False
  | .unOp op _ x => oW (unA op (evalO (tsOf l) x)) fun v => K v h
  | .convert s d x => match tinfo P s, tinfo P d with
    | some (sd, _), some (dd, _) => match sd, dd with
      | .string, .string => oW (cvSS (evalO (tsOf l) x)) fun v => K v h
      | .string, .slice e => match tinfo P e with
        | some (.int .u8, _) => hW (cvSB h (evalO (tsOf l) x)) K
        | _ => False
      | .slice e, .string => match tinfo P e with
        | some (.int .u8, _) => oW (cvBS h (evalO (tsOf l) x)) fun v => K v h
        | _ => False
      | .int _, .int k => oW (cvI k (evalO (tsOf l) x)) fun v => K v h
      | _, _ => False
    | _, _ => False
  | .makeFunc fn xs cs => match realFn fn with
    | true => K (.func fn (xs.toList.map (evalO (tsOf l))).toArray (cs.toList.map (evalO (tsOf l))).toArray) h
    | false => False
  | .makeMap _ none => K (.map (some h.length)) (h ++ [.map []])
  | .makeSlice ty a c => match tinfo P ty with
    | some (.slice e, _) => match tinfo P e with
      | some (_, z, size, bytes) => if 0 < size ∧ z.cells.size = size ∧ okVal (constV z) = true then hW (mksW (cellsOf (constV z)) bytes h (evalO (tsOf l) a) (evalO (tsOf l) c)) K else False
      | none => False
    | _ => False
  | .slice ty x lo hi mx => match tinfo P ty with
    | some (d, _) => match d with
      | .string => match mx with
        | none => oW (slStr (evalO (tsOf l) x) (lo.map (evalO (tsOf l))) (hi.map (evalO (tsOf l)))) fun v => K v h
        | some _ => False
      | .slice e => match tinfo P e with
        | some (_, _, sz, _) => oW (slS sz h (evalO (tsOf l) x) (lo.map (evalO (tsOf l))) (hi.map (evalO (tsOf l))) (mx.map (evalO (tsOf l)))) fun v => K v h
        | none => False
      | .array n e => match tinfo P e with
        | some (_, _, sz, _) => oW (slA n sz (evalO (tsOf l) x) (lo.map (evalO (tsOf l))) (hi.map (evalO (tsOf l))) (mx.map (evalO (tsOf l)))) fun v => K v h
        | none => False
      | _ => False
    | none => False
  | .fieldAddr s x f => match tinfo P s with
    | some (.struct fields, _) => match fields[f]? with
      | some fl => match tinfo P fl.type with
        | some (_, _, sz, _) => if sz = 0 then False else oW (faW fl.offset sz (evalO (tsOf l) x)) fun v => K v h
        | none => False
      | none => False
    | _ => False
  | .field s x f => match tinfo P s with
    | some (.struct fields, _) => match fields[f]? with
      | some fl => match tinfo P fl.type with
        | some (d, _, sz, _) => oW (fldW (isAggD d) fl.offset sz (evalO (tsOf l) x)) fun v => K v h
        | none => False
      | none => False
    | _ => False
  | .indexAddr ty x ix => match tinfo P ty with
    | some (.slice e, _) => match tinfo P e with
      | some (_, _, sz, _) => oW (iaS sz (evalO (tsOf l) x) (evalO (tsOf l) ix)) fun v => K v h
      | none => False
    | some (.array len e, _) => match tinfo P e with
      | some (_, _, sz, _) => oW (iaA len sz (evalO (tsOf l) x) (evalO (tsOf l) ix)) fun v => K v h
      | none => False
    | _ => False
  | .index ty x ix => match tinfo P ty with
    | some (.array len e, _) => match tinfo P e with
      | some (d, _, sz, _) => oW (ixA (isAggD d) len sz (evalO (tsOf l) x) (evalO (tsOf l) ix)) fun v => K v h
      | none => False
    | some (.string, _) => oW (ixS (evalO (tsOf l) x) (evalO (tsOf l) ix)) fun v => K v h
    | _ => False
  | .lookup ty m k ok => match tinfo P ty with
    | some (.map kt et, _) => match tinfo P kt, tinfo P et with
      | some (kd, _), some (_, z, _) => match scalarD kd with
        | true => oW (lkS kd (constV z) ok h (evalO (tsOf l) m) (evalO (tsOf l) k)) fun v => K v h
        | false => oW (lookupA P h ty (evalO (tsOf l) m) (evalO (tsOf l) k) ok) fun v => K v h
      | _, _ => False
    | _ => False
  | .mapUpdate ty m k v | .insert ty m k v => match tinfo P ty with
    | some (.map kt _, _) => match tinfo P kt with
      | some (kd, _) => match scalarD kd with
        | true => sW (upS kd h (evalO (tsOf l) m) (evalO (tsOf l) k) (evalO (tsOf l) v)) fun h' => K undef h'
        | false => sW (updateA P h ty (evalO (tsOf l) m) (evalO (tsOf l) k) (evalO (tsOf l) v)) fun h' => K undef h'
      | none => False
    | _ => False
  | .extract x i => oW (extractA (evalO (tsOf l) x) i) fun v => K v h
  | .makeInterface ty x => match tinfo P ty with
    | some (.interface _, _) => False
    | some _ => K (.iface ty (evalO (tsOf l) x)) h
    | none => False
  | .call c => match c.callee with
    | .builtin .len => match c.args.toList, c.argTypes.toList with
      | [x], [ty] => match tinfo P ty with
        | some (.string, _) => oW (lenStr (evalO (tsOf l) x)) fun v => K v h
        | some (.array n _, _) => K (.int .i64 n) h
        | some (.slice _, _) => oW (lenS (evalO (tsOf l) x)) fun v => K v h
        | some (.map _ _, _) => oW (lenM h (evalO (tsOf l) x)) fun v => K v h
        | _ => False
      | _, _ => False
    | .builtin .append => match c.args.toList, c.argTypes.toList with
      | [s, x], [st, xt] => match tinfo P st with
        | some (.slice e, _) => match tinfo P e with
          | some (_, z, size, bytes) => if (size = 0 ∨ z.cells.size ≠ size) ∨ isSrcT P xt = false then False else hW (apW size bytes h (evalO (tsOf l) s) (evalO (tsOf l) x)) K
          | none => False
        | _ => False
      | _, _ => False
    | .builtin .copy => match c.args.toList, c.argTypes.toList with
      | [d, x], [dt, _] => match tinfo P dt with
        | some (.slice e, _) => match tinfo P e with
          | some (_, _, size, _) => hW (cpW size h (evalO (tsOf l) d) (evalO (tsOf l) x)) K
          | none => False
        | _ => False
      | _, _ => False
    | .builtin .max => oW (minmaxA true (c.args.toList.map (evalO (tsOf l)))) fun v => K v h
    | .builtin .min => oW (minmaxA false (c.args.toList.map (evalO (tsOf l)))) fun v => K v h
    | .builtin .clear => match c.args.toList, c.argTypes.toList with
      | [x], [ty] => match tinfo P ty with
        | some (.slice e, _) => match tinfo P e with
          | some (_, z, size, _) => if 0 < size ∧ z.cells.size = size ∧ okVal (constV z) = true then sW (clrW (cellsOf (constV z)) size h (evalO (tsOf l) x)) fun h' => K undef h' else False
          | none => False
        | _ => False
      | _, _ => False
    | _ => False
  | _ => False

section
variable {P : Program} {t : Nat → Value} {h : Heap} {o : Op} {r : Value × Heap} {v : Value}

theorem aop_l (e : lop P t o = some v) : aop P t h o = some (v, h) := by unfold aop; rw [e]
theorem aop_0 (e : lop P t o = none) (k : aop0 P t h o = some r) : aop P t h o = some r := by unfold aop; rw [e]; exact k

theorem isPlit_not {x : Value} (hx : ∀ f cs, x ≠ .func (.yield 1) f cs) : isPlit x = none := by
  unfold isPlit; split
  · exact absurd rfl (hx _ _)
  · rfl
theorem isLit_not {x : Value} (hx : ∀ f cs, x ≠ .func (.yield 0) f cs) : isLit x = none := by
  unfold isLit; split
  · exact absurd rfl (hx _ _)
  · rfl

theorem ld_ok {ty : TypeId} {a : Operand} {d : TypeDesc} {z : Value} {sz b : Nat} (ht : tinfo P ty = some (d, z, sz, b)) (e : ldW (isAggD d) sz h (evalO t a) = some v) : aop P t h (.load ty a) = some (v, h) := by
  unfold ldW at e
  split at e
  · rename_i f cs hx
    exact aop_l (by simp only [lop, hx, isPlit, ht, e])
  · rename_i i off hx
    refine aop_0 (by simp [lop, hx, isPlit]) ?_
    split at e
    · rename_i c m hr
      simp only [aop0, hx, aload, hr, ht, e, Option.map_some]
    · cases e
  · cases e

theorem st_ok {ty : TypeId} {a x : Operand} {d : TypeDesc} {z : Value} {sz b : Nat} {h' : Heap} (ht : tinfo P ty = some (d, z, sz, b)) (e : stW sz h (evalO t a) (evalO t x) = some h') : aop P t h (.store ty a x) = some (undef, h') := by
  unfold stW at e
  split at e
  · rename_i i off hx
    split at e
    · rename_i c m hr
      exact aop_0 rfl (by simp only [aop0, hx, astore, hr, ht, e, Option.map_some])
    · cases e
  · cases e

theorem part_eq {d : TypeDesc} {z : Value} {sz b off : Nat} {ty : TypeId} {cs : Array Value} (ht : tinfo P ty = some (d, z, sz, b)) : part_ P ty cs off = partW (isAggD d) off sz cs := by
  simp only [part_, ht, partW]

theorem fld_ok {s : TypeId} {x : Operand} {f : Nat} {fields : Array Field} {q : Value × Nat × Nat} (h1 : tinfo P s = some (.struct fields, q)) {fl : Field} (h2 : fields[f]? = some fl) {d : TypeDesc} {z : Value} {sz b : Nat} (h3 : tinfo P fl.type = some (d, z, sz, b))
    (e : fldW (isAggD d) fl.offset sz (evalO t x) = some v) : aop P t h (.field s x f) = some (v, h) := by
  unfold fldW at e
  split at e
  · rename_i cs hx
    exact aop_0 rfl (by simp only [aop0, h1, hx, h2, part_eq h3, e, Option.map_some])
  · cases e

theorem fa_ok {s : TypeId} {x : Operand} {f : Nat} {fields : Array Field} {q : Value × Nat × Nat} (h1 : tinfo P s = some (.struct fields, q)) {fl : Field} (h2 : fields[f]? = some fl) {d : TypeDesc} {z : Value} {sz b : Nat} (h3 : tinfo P fl.type = some (d, z, sz, b)) (h4 : ¬ sz = 0)
    (e : faW fl.offset sz (evalO t x) = some v) : aop P t h (.fieldAddr s x f) = some (v, h) := by
  unfold faW at e
  split at e
  · rename_i f0 cs hx
    exact aop_l (by simp only [lop, hx, isPlit, h1, h2, h3, if_neg h4, e])
  · rename_i i o hx
    refine aop_0 (by simp [lop, hx, isPlit]) ?_
    cases e
    simp only [aop0, h1, hx, h2, h3, if_neg h4]
  · cases e

theorem iaS_ok {ty e : TypeId} {x ix : Operand} {q : Value × Nat × Nat} (h1 : tinfo P ty = some (.slice e, q)) {d : TypeDesc} {z : Value} {sz b : Nat} (h3 : tinfo P e = some (d, z, sz, b))
    (k : iaS sz (evalO t x) (evalO t ix) = some v) : aop P t h (.indexAddr ty x ix) = some (v, h) := by
  unfold iaS at k
  split at k
  · rename_i f0 es _ n hx hi
    exact aop_l (by simp only [lop, hx, hi, isLit, h1, h3, k])
  · rename_i i off len _ _ n hx hi
    refine aop_0 (by simp [lop, hx, hi, isLit, h1, h3]) ?_
    split at k
    · rename_i hc; cases k; simp only [aop0, h1, hx, hi, h3, if_pos hc]
    · cases k
  · cases k

theorem iaA_ok {ty e : TypeId} {len : Nat} {x ix : Operand} {q : Value × Nat × Nat} (h1 : tinfo P ty = some (.array len e, q)) {d : TypeDesc} {z : Value} {sz b : Nat} (h3 : tinfo P e = some (d, z, sz, b))
    (k : iaA len sz (evalO t x) (evalO t ix) = some v) : aop P t h (.indexAddr ty x ix) = some (v, h) := by
  unfold iaA at k
  split at k
  · rename_i f0 es _ n hx hi
    exact aop_l (by simp only [lop, hx, hi, isPlit, h1, h3, k])
  · rename_i i off _ n hx hi
    refine aop_0 (by simp [lop, hx, hi, isPlit, h1, h3]) ?_
    split at k
    · rename_i hc; cases k; simp only [aop0, h1, hx, hi, h3, if_pos hc]
    · cases k
  · cases k

theorem ixA_ok {ty e : TypeId} {len : Nat} {x ix : Operand} {q : Value × Nat × Nat} (h1 : tinfo P ty = some (.array len e, q)) {d : TypeDesc} {z : Value} {sz b : Nat} (h3 : tinfo P e = some (d, z, sz, b))
    (k : ixA (isAggD d) len sz (evalO t x) (evalO t ix) = some v) : aop P t h (.index ty x ix) = some (v, h) := by
  unfold ixA at k
  split at k
  · rename_i cs _ n hx hi
    split at k
    · rename_i hc; exact aop_0 rfl (by simp only [aop0, h1, hx, hi, h3, if_pos hc, part_eq h3, k, Option.map_some])
    · cases k
  · cases k

theorem ixS_ok {ty : TypeId} {x ix : Operand} {q : Value × Nat × Nat} (h1 : tinfo P ty = some (.string, q)) (k : ixS (evalO t x) (evalO t ix) = some v) : aop P t h (.index ty x ix) = some (v, h) := by
  unfold ixS at k
  split at k
  · rename_i s _ n hx hi
    split at k
    · rename_i hc
      obtain ⟨b, hb, rfl⟩ := Option.map_eq_some_iff.1 k
      exact aop_0 rfl (by simp only [aop0, h1, hx, hi, if_pos hc, hb, Option.map_some])
    · cases k
  · cases k

theorem slStr_ok {ty : TypeId} {x : Operand} {lo hi : Option Operand} {q : Value × Nat × Nat} (h1 : tinfo P ty = some (.string, q)) (k : slStr (evalO t x) (lo.map (evalO t)) (hi.map (evalO t)) = some v) :
    aop P t h (.slice ty x lo hi none) = some (v, h) := by
  unfold slStr at k
  split at k
  · rename_i s hx
    split at k
    · rename_i l m hl hm
      split at k
      · rename_i hc; cases k
        exact aop_0 (by simp [lop, h1]) (by simp only [aop0, sliceA, h1, hx, hl, hm, Option.map_none, if_pos hc, Option.map_some])
      · cases k
    · cases k
  · cases k

theorem slS_ok {ty e : TypeId} {x : Operand} {lo hi mx : Option Operand} {q : Value × Nat × Nat} (h1 : tinfo P ty = some (.slice e, q)) {d : TypeDesc} {z : Value} {sz b : Nat} (h3 : tinfo P e = some (d, z, sz, b))
    (k : slS sz h (evalO t x) (lo.map (evalO t)) (hi.map (evalO t)) (mx.map (evalO t)) = some v) : aop P t h (.slice ty x lo hi mx) = some (v, h) := by
  unfold slS at k
  split at k
  · rename_i f0 es hx
    cases mx with
    | some m => cases k
    | none =>
      simp only [Option.map_none] at k
      split at k
      · rename_i hall
        exact aop_l (by simp only [lop, hx, isLit, h1, h3, if_pos hall, k])
      · cases k
  · rename_i a len cap hx
    refine aop_0 (by cases mx <;> simp [lop, hx, isLit]) ?_
    split at k
    · rename_i l m c hl hm hc
      split at k
      · rename_i hcc
        split at k
        · cases k; simp only [aop0, sliceA, h1, hx, h3, hl, hm, hc, if_pos hcc, Option.map_some]
        · rename_i i off
          split at k
          · rename_i c0 md hr
            split at k
            · rename_i hmd; cases k; simp only [aop0, sliceA, h1, hx, h3, hl, hm, hc, if_pos hcc, hr, if_pos hmd, Option.map_some]
            · cases k
          · cases k
        · cases k
      · cases k
    · cases k
  · cases k

theorem slA_ok {ty e : TypeId} {n : Nat} {x : Operand} {lo hi mx : Option Operand} {q : Value × Nat × Nat} (h1 : tinfo P ty = some (.array n e, q)) {d : TypeDesc} {z : Value} {sz b : Nat} (h3 : tinfo P e = some (d, z, sz, b))
    (k : slA n sz (evalO t x) (lo.map (evalO t)) (hi.map (evalO t)) (mx.map (evalO t)) = some v) : aop P t h (.slice ty x lo hi mx) = some (v, h) := by
  unfold slA at k
  split at k
  · rename_i i off hx
    refine aop_0 (by cases mx <;> simp [lop, h1]) ?_
    split at k
    · rename_i l m c hl hm hc
      split at k
      · rename_i hcc; cases k; simp only [aop0, sliceA, h1, hx, h3, hl, hm, hc, if_pos hcc, Option.map_some]
      · cases k
    · cases k
  · cases k

theorem binN_ok {op : BinOp} {ty : TypeId} {x y : Operand} {yt : TypeId} {d : TypeDesc} {q : Value × Nat × Nat} (ht : tinfo P ty = some (d, q)) (hd : (∃ k, d = .int k) ∨ d = .string)
    (k : binN op (evalO t x) (evalO t y) = some v) : aop P t h (.binOp op ty x y yt) = some (v, h) := by
  have hl : lop P t (.binOp op ty x y yt) = none := by
    have : nilT P ty (evalO t x) (evalO t y) = false := by
      unfold nilT; rw [ht]
      rcases hd with ⟨k, rfl⟩ | rfl <;> rfl
    cases op <;> simp [lop, this]
  refine aop_0 hl ?_
  have : binA P op ty (evalO t x) (evalO t y) = some v := by
    unfold binN at k
    split at k
    · rename_i hx hy; rw [hx, hy]; exact k
    · rename_i hx hy; rw [hx, hy]; exact k
    · cases k
  simp only [aop0, this, Option.map_some]

theorem binA_ok' {op : BinOp} {ty : TypeId} {x y : Operand} {yt : TypeId} (hl : nilT P ty (evalO t x) (evalO t y) = false) (k : binA P op ty (evalO t x) (evalO t y) = some v) : aop P t h (.binOp op ty x y yt) = some (v, h) :=
  aop_0 (by cases op <;> simp [lop, hl]) (by simp only [aop0, k, Option.map_some])

theorem eqB_ok {ty : TypeId} {x y : Operand} {yt : TypeId} {q : Value × Nat × Nat} (ht : tinfo P ty = some (.bool, q)) (k : eqB (evalO t x) (evalO t y) = some v) : aop P t h (.binOp .eql ty x y yt) = some (v, h) := by
  unfold eqB at k
  split at k
  · rename_i a b hx hy
    cases k
    exact binA_ok' (by unfold nilT; rw [ht]) (by rw [hx, hy]; simp [binA, eqlA, ht])
  · cases k
theorem neB_ok {ty : TypeId} {x y : Operand} {yt : TypeId} {q : Value × Nat × Nat} (ht : tinfo P ty = some (.bool, q)) (k : neB (evalO t x) (evalO t y) = some v) : aop P t h (.binOp .neq ty x y yt) = some (v, h) := by
  unfold neB at k
  split at k
  · rename_i a b hx hy
    cases k
    exact binA_ok' (by unfold nilT; rw [ht]) (by rw [hx, hy]; simp [binA, eqlA, ht])
  · cases k

theorem nilS_ok {ty : TypeId} {x y : Operand} {yt : TypeId} {q : Value × Nat × Nat} {el : TypeId} (ht : tinfo P ty = some (.slice el, q)) {p : Bool} (k : nilS_ (evalO t x) (evalO t y) = some p) :
    aop P t h (.binOp .eql ty x y yt) = some (.bool p, h) ∧ aop P t h (.binOp .neq ty x y yt) = some (.bool !p, h) := by
  unfold nilS_ at k
  split at k
  · rename_i f0 es hx hy
    split at k
    · cases k
    · rename_i h0
      cases k
      have hn : nilT P ty (evalO t x) (evalO t y) = true := by
        unfold nilT
        rw [ht, hx, hy]
        simp only [isLit]
        cases hes : es.toList with
        | nil => exact absurd (by rw [← Array.length_toList, hes]; rfl) h0
        | cons e es => rfl
      exact ⟨aop_l (by simp only [lop, hn, if_true]), aop_l (by simp only [lop, hn, if_true]; rfl)⟩
  · rename_i hx hy
    cases k
    have hn : nilT P ty (evalO t x) (evalO t y) = true := by rw [hx, hy]; unfold nilT; rw [ht]; rfl
    exact ⟨aop_l (by simp only [lop, hn, if_true]), aop_l (by simp only [lop, hn, if_true]; rfl)⟩
  · rename_i hx hy
    cases k
    have hn : nilT P ty (evalO t x) (evalO t y) = false := by rw [hx, hy]; unfold nilT; rw [ht]; rfl
    exact ⟨binA_ok' hn (by rw [hx, hy]; simp [binA, eqlA, ht]), binA_ok' hn (by rw [hx, hy]; simp [binA, eqlA, ht])⟩
  · rename_i hx hy
    cases k
    have hn : nilT P ty (evalO t x) (evalO t y) = false := by rw [hx, hy]; unfold nilT; rw [ht]; rfl
    exact ⟨binA_ok' hn (by rw [hx, hy]; simp [binA, eqlA, ht]), binA_ok' hn (by rw [hx, hy]; simp [binA, eqlA, ht])⟩
  · cases k

theorem nilP_ok {ty : TypeId} {x y : Operand} {yt : TypeId} {q : Value × Nat × Nat} {el : TypeId} (ht : tinfo P ty = some (.pointer el, q)) {p : Bool} (k : nilP_ (evalO t x) (evalO t y) = some p) :
    aop P t h (.binOp .eql ty x y yt) = some (.bool p, h) ∧ aop P t h (.binOp .neq ty x y yt) = some (.bool !p, h) := by
  unfold nilP_ at k
  split at k
  · rename_i f0 es hx hy
    cases k
    have hn : nilT P ty (evalO t x) (evalO t y) = true := by
      unfold nilT
      rw [ht, hx, hy]; rfl
    exact ⟨aop_l (by simp only [lop, hn, if_true]), aop_l (by simp only [lop, hn, if_true]; rfl)⟩
  · rename_i hx hy
    cases k
    have hn : nilT P ty (evalO t x) (evalO t y) = false := by rw [hx, hy]; unfold nilT; rw [ht]; rfl
    exact ⟨binA_ok' hn (by rw [hx, hy]; simp [binA, eqlA, ht]), binA_ok' hn (by rw [hx, hy]; simp [binA, eqlA, ht])⟩
  · rename_i hx hy
    cases k
    have hn : nilT P ty (evalO t x) (evalO t y) = false := by rw [hx, hy]; unfold nilT; rw [ht]; rfl
    exact ⟨binA_ok' hn (by rw [hx, hy]; simp [binA, eqlA, ht]), binA_ok' hn (by rw [hx, hy]; simp [binA, eqlA, ht])⟩
  · cases k

theorem nilM_ok {ty : TypeId} {x y : Operand} {yt : TypeId} {q : Value × Nat × Nat} {kt et : TypeId} (ht : tinfo P ty = some (.map kt et, q)) {p : Bool} (k : nilM_ (evalO t x) (evalO t y) = some p) :
    aop P t h (.binOp .eql ty x y yt) = some (.bool p, h) ∧ aop P t h (.binOp .neq ty x y yt) = some (.bool !p, h) := by
  unfold nilM_ at k
  split at k
  · rename_i hx hy
    cases k
    have hn : nilT P ty (evalO t x) (evalO t y) = false := by rw [hx, hy]; unfold nilT; rw [ht]
    exact ⟨binA_ok' hn (by rw [hx, hy]; simp [binA, eqlA, ht]), binA_ok' hn (by rw [hx, hy]; simp [binA, eqlA, ht])⟩
  · rename_i hx hy
    cases k
    have hn : nilT P ty (evalO t x) (evalO t y) = false := by rw [hx, hy]; unfold nilT; rw [ht]
    exact ⟨binA_ok' hn (by rw [hx, hy]; simp [binA, eqlA, ht]), binA_ok' hn (by rw [hx, hy]; simp [binA, eqlA, ht])⟩
  · cases k

theorem nilF_ok {ty : TypeId} {x y : Operand} {yt : TypeId} {q : Value × Nat × Nat} {a1 a2 : Array TypeId} {a3 : Bool} (ht : tinfo P ty = some (.func a1 a2 a3, q)) {p : Bool} (k : nilF_ (evalO t x) (evalO t y) = some p) :
    aop P t h (.binOp .eql ty x y yt) = some (.bool p, h) ∧ aop P t h (.binOp .neq ty x y yt) = some (.bool !p, h) := by
  unfold nilF_ at k
  split at k
  · rename_i hx hy
    cases k
    have hn : nilT P ty (evalO t x) (evalO t y) = false := by rw [hx, hy]; unfold nilT; rw [ht]
    exact ⟨binA_ok' hn (by rw [hx, hy]; simp [binA, eqlA, ht]), binA_ok' hn (by rw [hx, hy]; simp [binA, eqlA, ht])⟩
  · rename_i hx hy
    cases k
    have hn : nilT P ty (evalO t x) (evalO t y) = false := by rw [hx, hy]; unfold nilT; rw [ht]
    exact ⟨binA_ok' hn (by rw [hx, hy]; simp [binA, eqlA, ht]), binA_ok' hn (by rw [hx, hy]; simp [binA, eqlA, ht])⟩
  · cases k

theorem build_ok' {ty : TypeId} {ps : Array (Nat × Operand)} {z : List Value} {qs : List (Nat × Nat × Value)} (e : buildR P ty (ps.toList.map fun p => (p.1, evalO t p.2)) = some (z, qs)) (k : bldW z qs = some v) :
    aop P t h (.build ty ps) = some (v, h) := by
  refine aop_0 rfl ?_
  unfold buildR at e
  simp only [aop0]
  split at e
  · rename_i fields z0 r1 r2 hty
    split at e
    · rename_i hc
      split at e
      · rename_i qs' hq
        cases e
        obtain ⟨cs, h1, rfl⟩ := Option.map_eq_some_iff.1 k
        simp only [hty, if_pos hc]
        rw [placeL_eq hq, h1]; rfl
      · cases e
    · cases e
  · rename_i n el z0 r1 r2 hty
    split at e
    · rename_i d z1 sz b hel
      split at e
      · rename_i hc
        split at e
        · rename_i qs' hq
          cases e
          obtain ⟨cs, h1, rfl⟩ := Option.map_eq_some_iff.1 k
          simp only [hty, hel, if_pos hc]
          rw [placeL_eq hq, h1]; rfl
        · cases e
      · cases e
    · cases e
  · cases e

theorem buildSlice_ok' {ty : TypeId} {len : Nat} {ps : Array (Nat × Operand)} {z : List Value} {qs : List (Nat × Nat × Value)} (e : buildSliceR P ty len (ps.toList.map fun p => (p.1, evalO t p.2)) = some (z, qs)) (k : bslW h len z qs = some r) :
    aop P t h (.buildSlice ty len ps) = some r := by
  refine aop_0 rfl ?_
  unfold buildSliceR at e
  simp only [aop0]
  split at e
  · rename_i el r1 hty
    split at e
    · rename_i d z1 sz b hel
      split at e
      · rename_i hc
        split at e
        · rename_i qs' hq
          cases e
          obtain ⟨cs, h1, rfl⟩ := Option.map_eq_some_iff.1 k
          simp only [hty, hel, if_pos hc]
          rw [placeL_eq hq, h1]; rfl
        · cases e
      · cases e
    · cases e
  · cases e

theorem mks_ok {ty el : TypeId} {a c : Operand} {q : Value × Nat × Nat} (h1 : tinfo P ty = some (.slice el, q)) {d : TypeDesc} {z : Value} {size bytes : Nat} (h2 : tinfo P el = some (d, z, size, bytes))
    (hc : 0 < size ∧ z.cells.size = size ∧ okVal (constV z) = true) (k : mksW (cellsOf (constV z)) bytes h (evalO t a) (evalO t c) = some r) : aop P t h (.makeSlice ty a c) = some r := by
  refine aop_0 rfl ?_
  unfold mksW at k
  split at k
  · rename_i _ l _ cc hl hcv
    split at k
    · rename_i hh
      cases k
      simp only [aop0, makeSliceA, h1, hl, hcv, h2]
      rw [if_pos ⟨hh.1, hh.2.1, hh.2.2.1, hh.2.2.2, hc⟩]
    · cases k
  · cases k

theorem ap_ok {st xt el : TypeId} {s x : Operand} {q : Value × Nat × Nat} (h1 : tinfo P st = some (.slice el, q)) {d : TypeDesc} {z : Value} {size bytes : Nat} (h2 : tinfo P el = some (d, z, size, bytes))
    (hc : ¬ ((size = 0 ∨ z.cells.size ≠ size) ∨ isSrcT P xt = false)) (k : apW size bytes h (evalO t s) (evalO t x) = some r) : appendA P h st xt (evalO t s) (evalO t x) = some r := by
  have hc1 : ¬ (size = 0 ∨ z.cells.size ≠ size) := fun q => hc (.inl q)
  have hc2 : ¬ isSrcT P xt = false := fun q => hc (.inr q)
  simp only [appendA, h1, h2, if_neg hc1, if_neg hc2]
  exact k

theorem cp_ok {dt el : TypeId} {s x : Operand} {q : Value × Nat × Nat} (h1 : tinfo P dt = some (.slice el, q)) {d : TypeDesc} {z : Value} {size bytes : Nat} (h2 : tinfo P el = some (d, z, size, bytes))
    (k : cpW size h (evalO t s) (evalO t x) = some r) : copyA P h dt (evalO t s) (evalO t x) = some r := by
  simp only [copyA, h1, h2]
  exact k

theorem clr_ok {ty el : TypeId} {x : Operand} {q : Value × Nat × Nat} (h1 : tinfo P ty = some (.slice el, q)) {d : TypeDesc} {z : Value} {size bytes : Nat} (h2 : tinfo P el = some (d, z, size, bytes)) {h' : Heap}
    (hc : 0 < size ∧ z.cells.size = size ∧ okVal (constV z) = true) (k : clrW (cellsOf (constV z)) size h (evalO t x) = some h') : clearA P h ty (evalO t x) = some h' := by
  unfold clrW at k
  split at k
  · rename_i hx; simp only [clearA, h1, hx]; exact k
  · rename_i i off n cap hx
    simp only [clearA, h1, hx]
    split at k
    · rename_i hn; rw [if_pos hn]; exact k
    · rename_i hn
      rw [if_neg hn]
      split at k
      · rename_i c m hr
        split at k
        · rename_i hh
          simp only [h2, hr]
          rw [if_pos ⟨hh.1, hh.2.1, hc.1, hc.2.1, hc.2.2, hh.2.2⟩]
          exact k
        · cases k
      · cases k
  · cases k

theorem find_eq {kt : TypeId} {kd : TypeDesc} (hs : scalarD kd = true) {k : Value} : ∀ (es : List (Value × Value)) (i : Nat), afind P kt kd k es i = findS kd k es i
  | [], _ => rfl
  | x :: es, i => by
    unfold afind findS sameK
    rw [if_pos hs, find_eq hs es (i + 1)]
    cases Instr.sameNow kd k x.1 with
    | none => rfl
    | some b => cases b <;> rfl

theorem lk_ok {ty kt et : TypeId} {m k : Operand} {ok : Bool} {q q1 : Value × Nat × Nat} {kd de : TypeDesc} {z : Value} {q2 : Nat × Nat} (h1 : tinfo P ty = some (.map kt et, q)) (h2 : tinfo P kt = some (kd, q1)) (h3 : tinfo P et = some (de, z, q2)) (hs : scalarD kd = true)
    (e : lkS kd (constV z) ok h (evalO t m) (evalO t k) = some v) : lookupA P h ty (evalO t m) (evalO t k) ok = some v := by
  unfold lkS at e
  split at e
  case isFalse => cases e
  rename_i hg
  have hk : keyOk P kt kd (evalO t k) := ⟨hg, .inl hs⟩
  simp only [lookupA, h1, h2, h3, if_pos hk]
  have fin : ∀ {o : Option (List (Value × Value))}, (match o with
      | none => none
      | some es => match findS kd (evalO t k) es 0 with
        | some (some (_, v)) => some (if ok then .tuple #[v, .bool true] else v)
        | some none => some (if ok then .tuple #[constV z, .bool false] else constV z)
        | none => none) = some v → (match o with
      | none => none
      | some es => match afind P kt kd (evalO t k) es 0 with
        | some (some (_, v)) => some (if ok then .tuple #[v, .bool true] else v)
        | some none => some (if ok then .tuple #[constV z, .bool false] else constV z)
        | none => none) = some v := fun {o} e => by
    cases o with
    | none => cases e
    | some es => simp only [find_eq hs]; exact e
  unfold mapEs at e
  generalize evalO t m = mv at e
  cases mv with
  | map r => cases r with
    | none => exact fin (o := some []) e
    | some i => exact fin e
  | _ => cases e

theorem up_ok {ty kt et : TypeId} {m k x : Operand} {q q1 : Value × Nat × Nat} {kd : TypeDesc} {h' : Heap} (h1 : tinfo P ty = some (.map kt et, q)) (h2 : tinfo P kt = some (kd, q1)) (hs : scalarD kd = true)
    (e : upS kd h (evalO t m) (evalO t k) (evalO t x) = some h') : updateA P h ty (evalO t m) (evalO t k) (evalO t x) = some h' := by
  unfold upS at e
  split at e
  case isFalse => cases e
  rename_i hg
  have hk : keyOk P kt kd (evalO t k) := ⟨hg, .inl hs⟩
  simp only [updateA, h1, h2, if_pos hk]
  split at e
  · rename_i i hm
    rw [hm]
    simp only
    cases hr : getMap h i with
    | none => rw [hr] at e; cases e
    | some es =>
      rw [hr] at e
      simp only [find_eq hs]
      exact e
  · cases e

theorem opW_ok {l : TL} {K : Value → Heap → Prop} (e : opW P l h o K) : ∃ v h', aop P (tsOf l) h o = some (v, h') ∧ K v h' := by
  have same : ∀ {w : Option Value} {o : Op}, (oW w fun v => K v h) → (∀ v, w = some v → aop P (tsOf l) h o = some (v, h)) → ∃ v h', aop P (tsOf l) h o = some (v, h') ∧ K v h' := fun ⟨v, q, k⟩ f => ⟨v, h, f v q, k⟩
  cases o with
  | move x => exact ⟨_, _, aop_0 rfl rfl, e⟩
  | assign x => exact ⟨_, _, aop_0 rfl rfl, e⟩
  | pick c a b =>
    refine same e fun v q => aop_0 rfl ?_
    unfold pickA at q
    simp only [aop0]
    split at q <;> first | (rename_i hc; rw [hc]; simp_all; done) | cases q
  | alloc ty =>
    simp only [opW] at e
    split at e
    · rename_i d z r1 r2 hty
      split at e
      · rename_i hz
        exact ⟨_, _, aop_0 rfl (by simp only [aop0, hty, hz, if_true, newRowA]), e⟩
      · exact e.elim
    · exact e.elim
  | box ty x =>
    obtain ⟨v, h', q, k⟩ := e
    exact ⟨v, h', aop_0 rfl q, k⟩
  | build ty ps =>
    simp only [opW] at e
    split at e
    · rename_i z qs hb; exact same e fun v q => build_ok' hb q
    · exact e.elim
  | buildSlice ty n ps =>
    simp only [opW] at e
    split at e
    · rename_i z qs hb
      obtain ⟨v, h', q, k⟩ := e
      exact ⟨v, h', buildSlice_ok' hb q, k⟩
    · exact e.elim
  | load ty a =>
    simp only [opW] at e
    split at e
    · rename_i d z sz b ht; exact same e fun v q => ld_ok ht q
    · exact e.elim
  | store ty a x =>
    simp only [opW] at e
    split at e
    · rename_i d z sz b ht
      obtain ⟨h', q, k⟩ := e
      exact ⟨_, h', st_ok ht q, k⟩
    · exact e.elim
  | nilCheck x =>
    refine same e fun v q => ?_
    unfold nilCheckA at q
    split at q
    · rename_i a hx; cases q; exact aop_0 (by simp [lop, hx, isPlit]) (by simp only [aop0, hx])
    · rename_i f a b hx; cases q; exact aop_0 (by simp [lop, hx, isPlit]) (by simp only [aop0, hx])
    · rename_i f0 cs hx; cases q; exact aop_l (by simp [lop, hx, isPlit])
    · cases q
  | binOp op ty x y yt =>
    simp only [opW] at e
    split at e
    · rename_i d q ht
      split at e
      · rename_i ik; exact same e fun v q => binN_ok ht (.inl ⟨_, rfl⟩) q
      · exact same e fun v q => binN_ok ht (.inr rfl) q
      · split at e
        · exact same e fun v q => eqB_ok ht q
        · exact same e fun v q => neB_ok ht q
        · exact e.elim
      · split at e
        · exact same e fun v q => by obtain ⟨p, h1, rfl⟩ := Option.map_eq_some_iff.1 q; exact (nilS_ok ht h1).1
        · exact same e fun v q => by obtain ⟨p, h1, rfl⟩ := Option.map_eq_some_iff.1 q; exact (nilS_ok ht h1).2
        · exact e.elim
      · split at e
        · exact same e fun v q => by obtain ⟨p, h1, rfl⟩ := Option.map_eq_some_iff.1 q; exact (nilP_ok ht h1).1
        · exact same e fun v q => by obtain ⟨p, h1, rfl⟩ := Option.map_eq_some_iff.1 q; exact (nilP_ok ht h1).2
        · exact e.elim
      · split at e
        · exact same e fun v q => by obtain ⟨p, h1, rfl⟩ := Option.map_eq_some_iff.1 q; exact (nilM_ok ht h1).1
        · exact same e fun v q => by obtain ⟨p, h1, rfl⟩ := Option.map_eq_some_iff.1 q; exact (nilM_ok ht h1).2
        · exact e.elim
      · split at e
        · exact same e fun v q => by obtain ⟨p, h1, rfl⟩ := Option.map_eq_some_iff.1 q; exact (nilF_ok ht h1).1
        · exact same e fun v q => by obtain ⟨p, h1, rfl⟩ := Option.map_eq_some_iff.1 q; exact (nilF_ok ht h1).2
        · exact e.elim
      · rename_i n1 n2 n3 n4 n5 n6 n7
        refine same e fun v q => binA_ok' ?_ q
        unfold nilT
        rw [ht]
        cases d <;> first
          | rfl
          | exact absurd rfl (n4 _)
          | exact absurd rfl (n5 _)
    · exact e.elim
  | unOp op ty x =>
    refine same e fun v q => aop_0 rfl ?_
    simp only [aop0, q, Option.map_some]
  | convert a b x =>
    simp only [opW] at e
    split at e
    · rename_i sd q1 dd q2 h1 h2
      split at e
      · refine same e fun v q => ?_
        unfold cvSS at q
        split at q
        · rename_i s hx; cases q; exact aop_0 (by simp [lop, h1]) (by simp only [aop0, convA, h1, h2, hx])
        · cases q
      · rename_i el
        split at e
        · rename_i q3 h3
          obtain ⟨v, h', q, k⟩ := e
          refine ⟨v, h', ?_, k⟩
          unfold cvSB at q
          split at q
          · rename_i s hx; cases q; exact aop_0 (by simp [lop, h1]) (by simp only [aop0, convA, h1, h2, hx, h3])
          · cases q
        · exact e.elim
      · rename_i el
        split at e
        · rename_i q3 h3
          refine same e fun v q => ?_
          unfold cvBS at q
          split at q
          · rename_i f0 es hx; exact aop_l (by simp only [lop, hx, isLit, h1, h2, h3, q])
          · rename_i hx; cases q; exact aop_0 (by simp [lop, h1, h2, h3, hx, isLit]) (by simp only [aop0, convA, h1, h2, hx, h3])
          · rename_i i off len cap hx
            refine aop_0 (by simp [lop, h1, h2, h3, hx, isLit]) ?_
            split at q
            · rename_i c m hr
              split at q
              · rename_i hle
                obtain ⟨l', hl', rfl⟩ := Option.map_eq_some_iff.1 q
                simp only [aop0, convA, h1, h2, hx, h3, hr, if_pos hle, hl', Option.map_some]
              · cases q
            · cases q
          · cases q
        · exact e.elim
      · refine same e fun v q => ?_
        unfold cvI at q
        split at q
        · rename_i _ n hx; cases q; exact aop_0 (by simp [lop, h1]) (by simp only [aop0, convA, h1, h2, hx])
        · cases q
      · exact e.elim
    · exact e.elim
  | makeFunc fn xs cs =>
    have hm : ∀ ys : Array Operand, (ys.toList.map (evalO (tsOf l))).toArray = ys.map (evalO (tsOf l)) := fun ys => by
      rw [← Array.toList_map]
    simp only [opW] at e
    split at e
    · rename_i hf
      refine ⟨_, _, aop_0 rfl (by simp only [aop0, hf, if_true]; rfl), ?_⟩
      simp only [hm] at e
      exact e
    · exact e.elim
  | makeMap ty r => cases r with
    | none => exact ⟨_, _, aop_0 rfl rfl, e⟩
    | some _ => exact e.elim
  | makeSlice ty a c =>
    simp only [opW] at e
    split at e
    · rename_i el q1 h1
      split at e
      · rename_i d z size bytes h2
        split at e
        · rename_i hc
          obtain ⟨v, h', q, k⟩ := e
          exact ⟨v, h', mks_ok h1 h2 hc q, k⟩
        · exact e.elim
      · exact e.elim
    · exact e.elim
  | slice ty x lo hi mx =>
    simp only [opW] at e
    split at e
    · rename_i d q1 h1
      split at e
      · split at e
        · exact same e fun v q => slStr_ok h1 q
        · exact e.elim
      · split at e
        · rename_i h3; exact same e fun v q => slS_ok h1 h3 q
        · exact e.elim
      · split at e
        · rename_i h3; exact same e fun v q => slA_ok h1 h3 q
        · exact e.elim
      · exact e.elim
    · exact e.elim
  | fieldAddr s x f =>
    simp only [opW] at e
    split at e
    · rename_i h1
      split at e
      · rename_i h2
        split at e
        · rename_i h3
          split at e
          · exact e.elim
          · rename_i h4; exact same e fun v q => fa_ok h1 h2 h3 h4 q
        · exact e.elim
      · exact e.elim
    · exact e.elim
  | field s x f =>
    simp only [opW] at e
    split at e
    · rename_i h1
      split at e
      · rename_i h2
        split at e
        · rename_i h3; exact same e fun v q => fld_ok h1 h2 h3 q
        · exact e.elim
      · exact e.elim
    · exact e.elim
  | indexAddr ty x ix =>
    simp only [opW] at e
    split at e
    · rename_i h1
      split at e
      · rename_i h3; exact same e fun v q => iaS_ok h1 h3 q
      · exact e.elim
    · rename_i h1
      split at e
      · rename_i h3; exact same e fun v q => iaA_ok h1 h3 q
      · exact e.elim
    · exact e.elim
  | index ty x ix =>
    simp only [opW] at e
    split at e
    · rename_i h1
      split at e
      · rename_i h3; exact same e fun v q => ixA_ok h1 h3 q
      · exact e.elim
    · rename_i h1; exact same e fun v q => ixS_ok h1 q
    · exact e.elim
  | lookup ty m k ok =>
    simp only [opW] at e
    split at e
    · rename_i h1
      split at e
      · rename_i h2 h3
        split at e
        · rename_i hs; exact same e fun v q => aop_0 rfl (by simp only [aop0, lk_ok h1 h2 h3 hs q, Option.map_some])
        · exact same e fun v q => aop_0 rfl (by simp only [aop0, q, Option.map_some])
      · exact e.elim
    · exact e.elim
  | mapUpdate ty m k v =>
    simp only [opW] at e
    split at e
    · rename_i h1
      split at e
      · rename_i h2
        split at e
        · rename_i hs; obtain ⟨h', q, kk⟩ := e; exact ⟨_, h', aop_0 rfl (by simp only [aop0, up_ok h1 h2 hs q, Option.map_some]), kk⟩
        · obtain ⟨h', q, kk⟩ := e; exact ⟨_, h', aop_0 rfl (by simp only [aop0, q, Option.map_some]), kk⟩
      · exact e.elim
    · exact e.elim
  | insert ty m k v =>
    simp only [opW] at e
    split at e
    · rename_i h1
      split at e
      · rename_i h2
        split at e
        · rename_i hs; obtain ⟨h', q, kk⟩ := e; exact ⟨_, h', aop_0 rfl (by simp only [aop0, up_ok h1 h2 hs q, Option.map_some]), kk⟩
        · obtain ⟨h', q, kk⟩ := e; exact ⟨_, h', aop_0 rfl (by simp only [aop0, q, Option.map_some]), kk⟩
      · exact e.elim
    · exact e.elim
  | extract x i =>
    refine same e fun v q => aop_0 rfl ?_
    unfold extractA at q
    simp only [aop0]
    split at q
    · rename_i vs hx; rw [hx]; dsimp only
      split at q
      · rename_i hc; rw [if_pos hc, q]; rfl
      · cases q
    · cases q
  | makeInterface ty x =>
    simp only [opW] at e
    split at e
    · exact e.elim
    · rename_i hty hd
      refine ⟨.iface ty (evalO (tsOf l) x), h, aop_0 rfl ?_, e⟩
      simp only [aop0, hd]
    · exact e.elim
  | call c =>
    obtain ⟨callee, args, tys⟩ := c
    cases callee with
    | builtin b =>
      cases b <;> simp only [opW] at e <;> try exact e.elim
      case len =>
        split at e
        · rename_i x ty ha hty
          have key : ∀ {v : Value}, lenA P h ty (evalO (tsOf l) x) = some v → lop P (tsOf l) (.call ⟨.builtin .len, args, tys⟩) = none → aop P (tsOf l) h (.call ⟨.builtin .len, args, tys⟩) = some (v, h) := fun {v} q1 q2 =>
            aop_0 q2 (by simp only [aop0, abuiltin, ha, hty, q1, Option.map_some])
          split at e
          · rename_i h1
            refine same e fun v q => ?_
            unfold lenStr at q
            split at q
            · rename_i s hx; cases q; exact key (by simp only [lenA, h1, hx]) (by simp [lop, ha, hty, h1])
            · cases q
          · rename_i h1
            exact ⟨_, _, key (by simp only [lenA, h1]) (by simp [lop, ha, hty, h1]), e⟩
          · rename_i h1
            refine same e fun v q => ?_
            unfold lenS at q
            split at q
            · rename_i f0 es hx
              cases q
              exact aop_l (by simp only [lop, ha, hty, h1, hx, isLit, Array.length_toList])
            · rename_i hx
              cases q
              exact aop_l (by simp [lop, ha, hty, h1, hx, isLit, isEmp])
            · rename_i a n c hx; cases q; exact key (by simp only [lenA, h1, hx]) (by simp [lop, ha, hty, h1, hx, isLit, isEmp])
            · cases q
          · rename_i h1
            refine same e fun v q => ?_
            unfold lenM at q
            split at q
            · rename_i hx; cases q; exact key (by simp only [lenA, h1, hx]) (by simp [lop, ha, hty, h1])
            · rename_i i hx; exact key (by simp only [lenA, h1, hx]; exact q) (by simp [lop, ha, hty, h1])
            · cases q
          · exact e.elim
        · exact e.elim
      case append =>
        split at e
        · rename_i x y st xt ha hty
          split at e
          · rename_i h1
            split at e
            · rename_i h2
              split at e
              · exact e.elim
              · rename_i hc
                obtain ⟨v, h', q, k⟩ := e
                exact ⟨v, h', aop_0 rfl (by simp only [aop0, abuiltin, ha, hty]; exact ap_ok h1 h2 hc q), k⟩
            · exact e.elim
          · exact e.elim
        · exact e.elim
      case copy =>
        split at e
        · rename_i x y dt xt ha hty
          split at e
          · rename_i h1
            split at e
            · rename_i h2
              obtain ⟨v, h', q, k⟩ := e
              exact ⟨v, h', aop_0 rfl (by simp only [aop0, abuiltin, ha, hty]; exact cp_ok h1 h2 q), k⟩
            · exact e.elim
          · exact e.elim
        · exact e.elim
      case max => exact same e fun v q => aop_0 rfl (by simp only [aop0, abuiltin, q, Option.map_some])
      case min => exact same e fun v q => aop_0 rfl (by simp only [aop0, abuiltin, q, Option.map_some])
      case clear =>
        split at e
        · rename_i x ty ha hty
          split at e
          · rename_i h1
            split at e
            · rename_i h2
              split at e
              · rename_i hc
                obtain ⟨h', q, k⟩ := e
                exact ⟨_, h', aop_0 rfl (by simp only [aop0, abuiltin, ha, hty, clr_ok h1 h2 hc q, Option.map_some]), k⟩
              · exact e.elim
            · exact e.elim
          · exact e.elim
        · exact e.elim
    | _ => exact e.elim
  | _ => exact e.elim

end
end Go.Ax
