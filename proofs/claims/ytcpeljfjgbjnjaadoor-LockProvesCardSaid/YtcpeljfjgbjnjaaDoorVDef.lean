/- The interpreter: Go's Code over plain values. Slices that are only read are lists; boxes and own arrays lie in a small heap of the call's own. What must hold of the data (bounds, sizes) is told beside the outcome, as one Bool. -/
import Derived.Calls
import Derived.Laws.StructEq
import Derived.Laws.Pointers
namespace Go.Vi

/-- A value: what a slot, or a cell, holds. -/
inductive V where
  | int (k : IntKind) (n : Int)
  | bool (b : Bool)
  | str (s : ByteArray)
  | agg (l : List V)
  | tup (l : List V)
  | sl (sz : Nat) (l : List V) (clip nl : Bool)
  | nilptr
  | ref (id off : Nat)
  | cref (l : List V)
  | own (id lo len : Nat) (clip : Bool)
  | nilfn
  | fn (f : FuncId) (caps : List V)
  | undef
  deriving Inhabited

/-- What lies in the heap of the call's own: a variable's cells; an array of plain elements of sz cells each, that may be written from element low on. -/
inductive Ent where
  | dead
  | box (l : List V) (t : TypeId)
  | arr (sz : Nat) (xs : List V) (t : TypeId)
  deriving Inhabited

structure St where
  tm : List V
  hp : List Ent

inductive Ex where
  | normal
  | exit (id : Nat)
  | ret

def V.cells : V → List V
  | .agg l => l
  | v => [v]
/-- one cell, that needs no heap -/
def V.leaf : V → Bool
  | .int _ _ | .bool _ | .str _ | .sl _ _ _ _ | .nilptr | .nilfn | .fn _ [] => true
  | _ => false
def V.leafAll : List V → Bool
  | [] => true
  | x :: xs => x.leaf && V.leafAll xs
/-- one cell, whatever it needs -/
def V.cell1 : V → Bool
  | .agg _ | .tup _ | .undef | .cref _ => false
  | _ => true
def V.cellAll : List V → Bool
  | [] => true
  | x :: xs => x.cell1 && V.cellAll xs
/-- what a cell may hold, an unknown value too -/
def V.inCell : V → Bool
  | .agg _ | .tup _ | .cref _ => false
  | _ => true
/-- an element of an array of plain elements -/
def V.plain (sz : Nat) (x : V) : Bool := x.cells.length == sz && V.leafAll x.cells

def V.asInt : V → Int
  | .int _ n => n
  | _ => 0
def V.asBool : V → Bool
  | .bool b => b
  | _ => false
def V.asStr : V → ByteArray
  | .str s => s
  | _ => ByteArray.empty
def V.asSl : V → List V
  | .sl _ l _ _ => l
  | _ => []
def V.asClip : V → Bool
  | .sl _ _ c _ => c
  | _ => false
def V.asNil : V → Bool
  | .sl _ _ _ n => n
  | _ => false

mutual
def V.toVal : V → Option Value
  | .int k n => some (.int k n)
  | .bool b => some (.bool b)
  | .str s => some (.string s)
  | .agg l => (V.toVals l).map fun vs => .agg vs.toArray
  | .nilptr => some (.pointer none)
  | .nilfn => some .nilFunc
  | _ => none
def V.toVals : List V → Option (List Value)
  | [] => some []
  | x :: xs => match V.toVal x, V.toVals xs with
    | some v, some vs => some (v :: vs)
    | _, _ => none
end
/-- A leaf back; of a type's zero value, too (sz: how many cells the elements of a nil slice have). -/
def V.ofLeaf (sz : Nat) : Value → Option V
  | .int k n => some (.int k n)
  | .bool b => some (.bool b)
  | .string s => some (.str s)
  | .slice none 0 0 => some (.sl sz [] true true)
  | .pointer none => some .nilptr
  | .nilFunc => some .nilfn
  | _ => none

/-! ### types -/
/-- the kind of a cell -/
inductive LK where
  | int (k : IntKind)
  | bool
  | str
  | sl (sz : Nat)
  | any
/-- a type, as far as it is looked at: a field is its offset and its type -/
inductive TD where
  | int (k : IntKind)
  | bool
  | str
  | slice (e : TypeId)
  | array (n : Nat) (e : TypeId)
  | struct (fs : List (Nat × TypeId))
  | pointer
  | func
  | other
def isAggD : TD → Bool
  | .struct _ | .array _ _ => true
  | _ => false
structure TI where
  desc : TD
  size : Nat
  bytes : Nat
  zero : List V
  lk : List LK
/-- a cell that is read, in the form of its kind -/
def reshape : LK → V → V
  | .int k, v => .int k v.asInt
  | .bool, v => .bool v.asBool
  | .str, v => .str v.asStr
  | .sl sz, v => .sl sz v.asSl v.asClip v.asNil
  | .any, v => v
def shapeOk : LK → V → Bool
  | .int k, .int k' _ => k == k'
  | .bool, .bool _ => true
  | .str, .str _ => true
  | .sl sz, .sl sz' _ _ _ => sz == sz'
  | .any, v => v.leaf
  | _, _ => false
/-- a cell of a box, in the form of its kind -/
def reshapeB : LK → V → V
  | .int k, v => .int k v.asInt
  | .bool, v => .bool v.asBool
  | .str, v => .str v.asStr
  | .sl _, v => v
  | .any, v => v
def shapeOkB : LK → V → Bool
  | .int k, .int k' _ => k == k'
  | .bool, .bool _ => true
  | .str, .str _ => true
  | .sl _, _ => true
  | .any, _ => true
  | _, _ => false
def reshapesAt : List LK → List V → Nat → List V
  | [], _, _ => []
  | k :: ks, l, o => reshapeB k (l.getD o .undef) :: reshapesAt ks l (o + 1)
def shapesAt : List LK → List V → Nat → Bool
  | [], _, _ => true
  | k :: ks, l, o => shapeOkB k (l.getD o .undef) && shapesAt ks l (o + 1)
/-- cells from a place on, by their kinds -/
def reshapes : List LK → List V → List V
  | [], _ => []
  | k :: ks, cs => reshape k (cs.headD .undef) :: reshapes ks cs.tail
def shapesOk : List LK → List V → Bool
  | [], _ => true
  | k :: ks, cs => decide (0 < cs.length) && shapeOk k (cs.headD .undef) && shapesOk ks cs.tail
/-- A value of a type out of its cells. -/
def mkv (i : TI) (cs : List V) : V := if isAggD i.desc then .agg cs else cs.headD .undef

/-! ### the heap -/
/-- how many cells an element of a slice over it has -/
def Ent.sz : Ent → Nat
  | .arr sz _ _ => sz
  | _ => 1
def Ent.alive : Ent → Bool
  | .dead => false
  | _ => true
def look (H : List Ent) (id : Nat) : Ent := H.getD id .dead
def splice (l : List V) (off : Nat) (cs : List V) : List V := l.take off ++ cs ++ l.drop (off + cs.length)
def remake : V → List V → V
  | .agg _, cs => .agg cs
  | v, cs => cs.headD v

structure Res where
  v : V
  up : Option (List Ent) := none
  dl : List (Nat × Ent) := []
  nw : Option Ent := none
  req : Bool := true

def okv (v : Option V) : Option Res := v.map fun v => { v := v }

/-- An own slice's elements, the cells of one, and whether it lies there. -/
def ownElems (H : List Ent) (id lo len : Nat) : Option (Nat × List V × Bool) :=
  match look H id with
  | .arr sz xs _ => some (sz, (xs.drop lo).take len, decide (lo + len ≤ xs.length))
  | .box l _ => if V.leafAll l then some (1, (l.drop lo).take len, decide (lo + len ≤ l.length)) else none
  | .dead => none

structure Vw where
  v : V
  req : Bool
mutual
/-- A value that needs no heap: own slices are read off. -/
def view (H : List Ent) : V → Option Vw
  | .own id lo len clip => match ownElems H id lo len with
    | some (sz, xs, r) => some ⟨.sl sz xs clip false, r⟩
    | none => none
  | .agg l => match views H l with
    | some (vs, r) => some ⟨.agg vs, r⟩
    | none => none
  | .sl sz l c n => some ⟨.sl sz l c n, true⟩
  | .int k n => some ⟨.int k n, true⟩
  | .bool b => some ⟨.bool b, true⟩
  | .str s => some ⟨.str s, true⟩
  | .nilptr => some ⟨.nilptr, true⟩
  | .nilfn => some ⟨.nilfn, true⟩
  | .fn f [] => some ⟨.fn f [], true⟩
  | _ => none
def views (H : List Ent) : List V → Option (List V × Bool)
  | [] => some ([], true)
  | x :: xs => match view H x, views H xs with
    | some v, some (vs, r) => some (v.v :: vs, v.req && r)
    | _, _ => none
end

/-! ### operations -/
abbrev Ty := TypeId → Option TI
structure Cfg where
  P : Program
  ty : Ty
  glob : Nat → Option (List V)
  live : FuncId → Nat → List Nat

def opd (C : Cfg) (tm : List V) : Operand → V
  | .tmp t => tm.getD t .undef
  | .const (.slice none 0 0) => .sl 0 [] true true
  | .const v => (V.ofLeaf 0 v).getD .undef
  | .func f => .fn f []
  | .global g => match C.glob g with
    | some l => .cref l
    | none => .undef
def optv (C : Cfg) (tm : List V) (x : Option Operand) : Option V := x.map (opd C tm)

/-! bits of whole numbers -/
def andI (k : IntKind) (x y : Int) : Int := k.wrap (BitVec.ofInt k.bits x &&& BitVec.ofInt k.bits y).toNat
def orI (k : IntKind) (x y : Int) : Int := k.wrap (BitVec.ofInt k.bits x ||| BitVec.ofInt k.bits y).toNat
def xorI (k : IntKind) (x y : Int) : Int := k.wrap (BitVec.ofInt k.bits x ^^^ BitVec.ofInt k.bits y).toNat
def andNotI (k : IntKind) (x y : Int) : Int := k.wrap (BitVec.ofInt k.bits x &&& ~~~BitVec.ofInt k.bits y).toNat
def shlI (k : IntKind) (x y : Int) : Int := k.wrap (x * 2 ^ (min y.toNat k.bits))
def shrI (k : IntKind) (x y : Int) : Int := x.fdiv (2 ^ (min y.toNat k.bits))
def notI (k : IntKind) (x : Int) : Int := xorI k (if k.signed then -1 else k.max) x
/-- An operation on two whole numbers: what it comes to, and what must hold. -/
def intE (op : BinOp) (k k' : IntKind) (x y : Int) : Option (V × Bool) :=
  match op with
  | .shl => some (.int k (shlI k x y), decide (0 ≤ y))
  | .shr => some (.int k (shrI k x y), decide (0 ≤ y))
  | .add => if k = k' then some (.int k (k.wrap (x + y)), true) else none
  | .sub => if k = k' then some (.int k (k.wrap (x - y)), true) else none
  | .mul => if k = k' then some (.int k (k.wrap (x * y)), true) else none
  | .quo => if k = k' then some (.int k (k.wrap (x.tdiv y)), !decide (y = 0)) else none
  | .rem => if k = k' then some (.int k (x.tmod y), !decide (y = 0)) else none
  | .and => if k = k' then some (.int k (andI k x y), true) else none
  | .or => if k = k' then some (.int k (orI k x y), true) else none
  | .xor => if k = k' then some (.int k (xorI k x y), true) else none
  | .andNot => if k = k' then some (.int k (andNotI k x y), true) else none
  | .eql => if k = k' then some (.bool (decide (x = y)), true) else none
  | .neq => if k = k' then some (.bool (!decide (x = y)), true) else none
  | .lss => if k = k' then some (.bool (decide (x < y)), true) else none
  | .leq => if k = k' then some (.bool (decide (x ≤ y)), true) else none
  | .gtr => if k = k' then some (.bool (decide (y < x)), true) else none
  | .geq => if k = k' then some (.bool (decide (y ≤ x)), true) else none
/-- are two cells of a scalar kind alike? -/
def eqLeaf : LK → V → V → Bool
  | .int _, x, y => decide (x.asInt = y.asInt)
  | .bool, x, y => x.asBool == y.asBool
  | .str, x, y => decide (x.asStr = y.asStr)
  | _, _, _ => false
def scalarK : LK → Bool
  | .int _ | .bool | .str => true
  | _ => false
def eqCells : List LK → List V → List V → Bool
  | [], _, _ => true
  | k :: ks, xs, ys => eqLeaf k (xs.headD .undef) (ys.headD .undef) && eqCells ks xs.tail ys.tail
def shapesEq : List LK → List V → Bool
  | [], [] => true
  | k :: ks, x :: xs => scalarK k && shapeOk k x && shapesEq ks xs
  | _, _ => false
/-- a struct whose fields are scalars, one cell each -/
def flatTy (T : Ty) : List (Nat × TypeId) → List LK → Nat → Bool
  | [], [], _ => true
  | f :: fs, k :: ks, o => (match T f.2 with
      | some i => f.1 == o && (match i.desc, k with
        | .int a, .int b => a == b
        | .bool, .bool => true
        | .str, .str => true
        | _, _ => false)
      | none => false) && flatTy T fs ks (o + 1)
  | _, _, _ => false
/-- what the program tells of a struct type that is compared -/
def flatP (P : Program) (t : TypeId) : Bool := !P.stoodInHeld t && !P.eqGuardType P.depth t && (P.fieldsOf t).toList.all fun f => f.name != "_"
def binE (P : Program) (T : Ty) (H : List Ent) (op : BinOp) (t : TypeId) (a b : V) : Option (V × Bool) :=
  match op, a, b with
  | .eql, .sl _ _ _ n, .sl _ [] _ true => some (.bool n, true)
  | .neq, .sl _ _ _ n, .sl _ [] _ true => some (.bool (!n), true)
  | .eql, .own id _ _ _, .sl _ [] _ true => if (look H id).alive then some (.bool false, true) else none
  | .neq, .own id _ _ _, .sl _ [] _ true => if (look H id).alive then some (.bool true, true) else none
  | .eql, .ref id _, .nilptr => if (look H id).alive then some (.bool false, true) else none
  | .neq, .ref id _, .nilptr => if (look H id).alive then some (.bool true, true) else none
  | .eql, .ref id off, .ref id' off' => if (look H id).alive && id == id' && off == off' && (P.info? (P.pointee t)).isSome then some (.bool true, true) else none
  | .neq, .ref id off, .ref id' off' => if (look H id).alive && id == id' && off == off' && (P.info? (P.pointee t)).isSome then some (.bool false, true) else none
  | .eql, .nilptr, .nilptr => some (.bool true, true)
  | .neq, .nilptr, .nilptr => some (.bool false, true)
  | .eql, .fn _ _, .nilfn => some (.bool false, true)
  | .neq, .fn _ _, .nilfn => some (.bool true, true)
  | .add, .str s, .str u => some (.str (s ++ u), decide (s.size + u.size ≤ 9223372036854775807))
  | .eql, .str s, .str u => some (.bool (decide (s = u)), true)
  | .neq, .str s, .str u => some (.bool (!decide (s = u)), true)
  | op, .int k x, .int k' y => intE op k k' x y
  | .eql, .bool x, .bool y => some (.bool (x == y), true)
  | .neq, .bool x, .bool y => some (.bool (!(x == y)), true)
  | .eql, .agg xs, .agg ys => match T t with
    | some i => match i.desc with
      | .struct fs => if flatTy T fs i.lk 0 && flatP P t then some (.bool (eqCells i.lk xs ys), shapesEq i.lk xs && shapesEq i.lk ys) else none
      | _ => none
    | none => none
  | .neq, .agg xs, .agg ys => match T t with
    | some i => match i.desc with
      | .struct fs => if flatTy T fs i.lk 0 && flatP P t then some (.bool (!eqCells i.lk xs ys), shapesEq i.lk xs && shapesEq i.lk ys) else none
      | _ => none
    | none => none
  | _, _, _ => none
/-- types of an operation's operands that the model looks at -/
def tyIs (T : Ty) (t : TypeId) (p : TD → Bool) : Bool :=
  match T t with
  | some i => p i.desc
  | none => false
def isBoolD : TD → Bool
  | .bool => true
  | _ => false
def isSliceD : TD → Bool
  | .slice _ => true
  | _ => false
def isPtrD : TD → Bool
  | .pointer => true
  | _ => false
def isFuncD : TD → Bool
  | .func => true
  | _ => false
/-- does the operand's type fit the operation of two? -/
def binTy (T : Ty) (op : BinOp) (t : TypeId) (a : V) : Bool :=
  match op, a with
  | .eql, .bool _ | .neq, .bool _ => tyIs T t isBoolD
  | .eql, .sl _ _ _ _ | .neq, .sl _ _ _ _ | .eql, .own _ _ _ _ | .neq, .own _ _ _ _ => tyIs T t isSliceD
  | .eql, .ref _ _ | .neq, .ref _ _ | .eql, .nilptr | .neq, .nilptr => tyIs T t isPtrD
  | .eql, .fn _ _ | .neq, .fn _ _ => tyIs T t isFuncD
  | _, _ => true
def unE (op : UnOp) (a : V) : Option V :=
  match op, a with
  | .neg, .int k n => some (.int k (k.wrap (0 - n)))
  | .xor, .int k n => some (.int k (notI k n))
  | .not, .bool b => some (.bool (!b))
  | _, _ => none
def byteOfV (v : V) : UInt8 := v.asInt.toNat.toUInt8
def bytesOfL (l : List V) : ByteArray := ⟨(l.map byteOfV).toArray⟩
def byteV (b : UInt8) : V := .int .u8 b.toNat
def bytesV (s : ByteArray) : List V := s.data.toList.map byteV
def bytesOk (l : List V) : Bool := l.all fun v => shapeOk (.int .u8) v
def isStrD : TD → Bool
  | .str => true
  | _ => false
def convE (T : Ty) (H : List Ent) (slot : Nat) (src dst : TypeId) (a : V) : Option Res :=
  match T src, T dst with
  | some i, some d => match a, d.desc with
    | .str s, .str => match i.desc with
      | .str => some { v := .str s }
      | _ => none
    | .str s, .slice e => match T e with
      | some j => match j.desc with
        | .int .u8 => if isStrD i.desc then some { v := .own slot 0 s.size false, nw := some (.arr 1 (bytesV s) e) } else none
        | _ => none
      | none => none
    | .sl _ l _ _, .str => match i.desc with
      | .slice e => match T e with
        | some j => match j.desc with
          | .int .u8 => some { v := .str (bytesOfL l), req := bytesOk l }
          | _ => none
        | none => none
      | _ => none
    | .own id lo len _, .str => match i.desc with
      | .slice e => match T e with
        | some j => match j.desc, ownElems H id lo len with
          | .int .u8, some (_, l, r) => some { v := .str (bytesOfL l), req := r && bytesOk l }
          | _, _ => none
        | none => none
      | _ => none
    | .int _ n, .int k => match i.desc with
      | .int _ => some { v := .int k (k.wrap n) }
      | _ => none
    | _, _ => none
  | _, _ => none
/-- parts to their places -/
def fillE (place : Nat → Option (Nat × Nat)) (cs : List V) : List (Nat × V) → Option (List V)
  | [] => some cs
  | (i, v) :: rest => match place i with
    | none => none
    | some (off, size) => if v.cells.length = size && off + size ≤ cs.length && V.cellAll v.cells then fillE place (splice cs off v.cells) rest else none
def places (T : Ty) (fs : List (Nat × TypeId)) : Option (List (Nat × Nat)) :=
  match fs with
  | [] => some []
  | f :: fs => match T f.2, places T fs with
    | some i, some l => some ((f.1, i.size) :: l)
    | _, _ => none
def buildE (T : Ty) (t : TypeId) (parts : List (Nat × V)) : Option V :=
  match T t with
  | some i => match i.desc with
    | .struct fs => match places T fs with
      | some pl => (fillE (fun j => pl[j]?) i.zero parts).map .agg
      | none => none
    | .array _ e => match T e with
      | some j => (fillE (fun k => some (k * j.size, j.size)) i.zero parts).map .agg
      | none => none
    | _ => none
  | none => none
/-- a slice's literal: its elements -/
def zeroEl (j : TI) : V := if isAggD j.desc then .agg j.zero else j.zero.headD .undef
def elemsE (sz : Nat) : List V → List (Nat × V) → Option (List V)
  | xs, [] => some xs
  | xs, (i, v) :: rest => if i < xs.length && v.cells.length = sz && V.cellAll v.cells then elemsE sz (xs.set i v) rest else none
def flatL : List V → List V
  | [] => []
  | x :: xs => x.cells ++ flatL xs
def plainAll (sz : Nat) : List V → Bool
  | [] => true
  | x :: xs => V.plain sz x && plainAll sz xs
def bound (v : Option V) (dflt : Nat) : Option (Nat × Bool) :=
  match v with
  | none => some (dflt, true)
  | some (.int _ n) => some (n.toNat, decide (0 ≤ n))
  | _ => none
def sliceE (T : Ty) (H : List Ent) (t : TypeId) (x : V) (lo hi mx : Option V) : Option Res :=
  match T t with
  | none => none
  | some i => match i.desc, x with
    | .str, .str s => match bound lo 0, bound hi s.size with
      | some (l, r), some (h, r') => if mx.isNone then some { v := .str (s.extract l h), req := r && r' && decide (l ≤ h) && decide (h ≤ s.size) } else none
      | _, _ => none
    | .slice e, .sl sz xs c n => match T e with
      | some j => if j.size = sz then (match bound lo 0, bound hi xs.length, bound mx 0 with
        | some (l, r), some (h, r'), some (m, r'') =>
          match mx with
          | none => some { v := .sl sz ((xs.drop l).take (h - l)) (c && decide (h = xs.length)) n, req := r && r' && r'' && decide (l ≤ h) && decide (h ≤ xs.length) }
          | some _ => if hi.isSome then some { v := .sl sz ((xs.drop l).take (h - l)) true n, req := r && r' && r'' && decide (l ≤ h) && decide (h ≤ xs.length) && decide (m = h) } else none
        | _, _, _ => none) else none
      | none => none
    | .slice e, .own id a k c => match T e with
      | some j => if !(look H id).alive then none else if j.size = (look H id).sz then (match bound lo 0, bound hi k, bound mx 0 with
        | some (l, r), some (h, r'), some (m, r'') =>
          match mx with
          | none => some { v := .own id (a + l) (h - l) (c && decide (h = k)), req := r && r' && r'' && decide (l ≤ h) && decide (h ≤ k) }
          | some _ => if hi.isSome then some { v := .own id (a + l) (h - l) true, req := r && r' && r'' && decide (l ≤ h) && decide (h ≤ k) && decide (m = h) } else none
        | _, _, _ => none) else none
      | none => none
    | .array n e, .ref id 0 => match look H id with
      | .box l _ => match T e, bound lo 0, bound hi n with
        | some j, some (a, r), some (h, r') => if j.size = 1 && n = l.length && mx.isNone then some { v := .own id a (h - a) (decide (h = n)), req := r && r' && decide (a ≤ h) && decide (h ≤ n) } else none
        | _, _, _ => none
      | _ => none
    | _, _ => none
def idx : V → Option (Nat × Bool)
  | .int _ n => some (n.toNat, decide (0 ≤ n))
  | _ => none
def indexAddrE (T : Ty) (H : List Ent) (t : TypeId) (x ix : V) : Option Res :=
  match T t, idx ix with
  | some i, some (k, r) => match i.desc, x with
    | .array n e, .ref id off => match T e with
      | some j => if !(look H id).alive then none else some { v := .ref id (off + k * j.size), req := r && decide (k < n) }
      | none => none
    | .array n e, .cref l => match T e with
      | some j => some { v := .cref (l.drop (k * j.size)), req := r && decide (k < n) }
      | none => none
    | .slice e, .sl sz xs _ n => match T e with
      | some j => if j.size = sz then some { v := .cref (xs.getD k .undef).cells, req := r && decide (k < xs.length) && !n } else none
      | none => none
    | .slice e, .own id lo len _ => match T e with
      | some j => if !(look H id).alive then none else some { v := .ref id ((lo + k) * j.size), req := r && decide (k < len) && decide ((look H id).sz = j.size) }
      | none => none
    | _, _ => none
  | _, _ => none
def byteAt (s : ByteArray) (k : Nat) : Int := if h : k < s.size then (s[k].toNat : Int) else 0
def indexE (T : Ty) (t : TypeId) (x ix : V) : Option Res :=
  match x, idx ix with
  | .str s, some (k, r) => match T t with
    | some i => match i.desc with
      | .str => some { v := .int .u8 (byteAt s k), req := r && decide (k < s.size) }
      | _ => none
    | none => none
  | .agg l, some (k, r) => match T t with
    | some i => match i.desc with
      | .array n e => match T e with
        | some j => some { v := mkv j (reshapesAt j.lk l (k * j.size)), req := r && decide (k < n) && decide (k * j.size + j.size ≤ l.length) && decide (j.lk.length = j.size) && shapesAt j.lk l (k * j.size) }
        | none => none
      | _ => none
    | none => none
  | _, _ => none
def fieldAt? (T : Ty) (t : TypeId) (f : Nat) : Option (Nat × TI) :=
  match T t with
  | some i => match i.desc with
    | .struct fs => match fs[f]? with
      | some fd => (T fd.2).map fun j => (fd.1, j)
      | none => none
    | _ => none
  | none => none
def fieldAddrE (T : Ty) (H : List Ent) (t : TypeId) (x : V) (f : Nat) : Option Res :=
  match fieldAt? T t f with
  | some (fd, j) => if j.size = 0 then none else match x with
    | .ref id off => if (look H id).alive then some { v := .ref id (off + fd) } else none
    | .cref l => some { v := .cref (l.drop fd) }
    | _ => none
  | none => none
def fieldE (T : Ty) (t : TypeId) (x : V) (f : Nat) : Option Res :=
  match fieldAt? T t f, x with
  | some (fd, j), .agg l => if fd + j.size ≤ l.length then some { v := mkv j ((l.drop fd).take j.size) } else none
  | _, _ => none
/-- the cells from an offset on -/
def entRead (e : Ent) (off : Nat) (i : TI) : Option (List V × Bool) :=
  match e with
  | .dead => none
  | .box l _ => some (reshapesAt i.lk l off, decide (off + i.size ≤ l.length) && decide (i.lk.length = i.size) && shapesAt i.lk l off)
  | .arr sz xs _ =>
    let c := (xs.getD (off / sz) .undef).cells.drop (off % sz)
    some (reshapes i.lk c, decide (0 < sz) && decide (off / sz < xs.length) && decide (off % sz + i.size ≤ sz) && decide (i.lk.length = i.size) && shapesOk i.lk c)
def loadE (T : Ty) (H : List Ent) (t : TypeId) (a : V) : Option Res :=
  match T t with
  | some i => match a with
    | .ref id off => match entRead (look H id) off i with
      | some (cs, r) => some { v := mkv i cs, req := r }
      | none => none
    | .cref l => some { v := mkv i (reshapes i.lk l), req := decide (i.lk.length = i.size) && shapesOk i.lk l }
    | _ => none
  | none => none
def entWrite (e : Ent) (off : Nat) (cs : List V) : Option (Ent × Bool) :=
  match e with
  | .dead => none
  | .box l bt => if V.cellAll cs then some (.box (splice l off cs) bt, decide (off + cs.length ≤ l.length)) else none
  | .arr sz xs low => if V.leafAll cs then some (.arr sz (xs.set (off / sz) (remake (xs.getD (off / sz) .undef) (splice (xs.getD (off / sz) .undef).cells (off % sz) cs))) low,
      decide (0 < sz) && decide (off / sz < xs.length) && decide (off % sz + cs.length ≤ sz)) else none
def storeE (T : Ty) (H : List Ent) (t : TypeId) (a v : V) : Option Res :=
  match T t, a with
  | some i, .ref id off => if v.cells.length = i.size then match entWrite (look H id) off v.cells with
      | some (e, r) => some { v := .undef, dl := [(id, e)], req := r }
      | none => none
    else none
  | _, _ => none
/-- the most elements that a slice may have here -/
def most : Nat := 1073741824
def lenE (H : List Ent) (d : TD) (x : V) : Option V :=
  match d, x with
  | .str, .str s => some (.int .i64 s.size)
  | .slice _, .sl _ l _ _ => some (.int .i64 l.length)
  | .slice _, .own id _ n _ => if (look H id).alive then some (.int .i64 n) else none
  | _, _ => none
/-- what is appended: the cells of an element, the elements, whether they lie there, whether they are own -/
def srcE (H : List Ent) (x : V) : Option (Nat × List V × Bool × Bool) :=
  match x with
  | .str s => some (1, bytesV s, true, false)
  | .sl sz l _ _ => some (sz, l, true, false)
  | .own id lo len _ => match ownElems H id lo len with
    | some (sz, l, r) => some (sz, l, r, true)
    | none => none
  | _ => none
def appendE (fl : Bool) (H : List Ent) (slot : Nat) (e : TypeId) (size : Nat) (s x : V) : Option Res :=
  match srcE H x with
  | some (sz, new, r, mine) =>
    if sz ≠ size then none else
    match s with
    | .sl sz' l clip nl =>
      if mine || fl then some { v := .own slot 0 (l.length + new.length) false, nw := some (.arr size (l ++ new) e), req := r && clip && (nl || sz' == size) && decide (0 < new.length) && decide (l.length + new.length ≤ most) }
      else some { v := .sl size (l ++ new) false (nl && new.isEmpty), req := r && (clip || new.isEmpty) && (nl || sz' == size) && decide (l.length + new.length ≤ most) }
    | .own id 0 len _ => match look H id with
      | .arr sz' xs t => if sz' = size && t == e then some { v := .own slot 0 (len + new.length) false, dl := [(id, .dead)], nw := some (.arr size (xs ++ new) e), req := r && decide (len = xs.length) && decide (xs.length + new.length ≤ most) } else none
      | _ => none
    | _ => none
  | none => none
def copyE (H : List Ent) (size : Nat) (dst src : V) : Option Res :=
  match dst, srcE H src with
  | .own id lo len _, some (sz, new, r, _) => match look H id with
    | .arr sz' xs low => if sz = sz' && sz = size then some { v := .int .i64 ((min new.length len : Nat) : Int), dl := [(id, .arr sz' (splice xs lo (new.take len)) low)], req := r && decide (lo + len ≤ xs.length) } else none
    | _ => none
  | _, _ => none
def makeSliceE (T : Ty) (slot : Nat) (t : TypeId) (len cap : V) : Option Res :=
  match T t, idx len, idx cap with
  | some i, some (n, r), some (c, r') => match i.desc with
    | .slice e => match T e with
      | some j => if V.leafAll j.zero && j.zero.length = j.size then some { v := .own slot 0 n (decide (n = c)), nw := some (.arr j.size (List.replicate n (zeroEl j)) e), req := r && r' && decide (n ≤ c) && decide (c ≤ most) && decide (j.bytes ≤ 4096) } else none
      | none => none
    | _ => none
  | _, _, _ => none
def min2E : V → V → Option V
  | .int k x, .int _ y => some (.int k (if y < x then y else x))
  | _, _ => none
def max2E : V → V → Option V
  | .int k x, .int _ y => some (.int k (if y > x then y else x))
  | _, _ => none
def foldE (f : V → V → Option V) : V → List V → Option V
  | x, [] => some x
  | x, y :: l => match f x y with
    | some z => foldE f z l
    | none => none

def pack : List V → V
  | [v] => v
  | l => .tup l
mutual
/-- has a value a slice in it? -/
def slicey : V → Bool
  | .sl _ _ _ _ => true
  | .agg l => sliceyL l
  | .tup l => sliceyL l
  | .fn _ l => sliceyL l
  | .own _ _ _ _ => true
  | .cref _ => true
  | _ => false
def sliceyL : List V → Bool
  | [] => false
  | x :: xs => slicey x || sliceyL xs
end
mutual
/-- the own arrays in a value -/
def ids : V → List Nat
  | .own id _ _ _ => [id]
  | .agg l => idsL l
  | _ => []
def idsL : List V → List Nat
  | [] => []
  | x :: xs => ids x ++ idsL xs
end
def callee (C : Cfg) (tm : List V) (c : Call) : Option (FuncId × List V) :=
  match c.callee with
  | .value f => match opd C tm f with
    | .fn k caps => some (k, (c.args.toList.map (opd C tm)) ++ caps)
    | _ => none
  | _ => none
/-- unsafe.SliceData -/
def dataE (H : List Ent) (x : V) : Option Res :=
  match x with
  | .sl _ [] _ true => some { v := .nilptr }
  | .own id 0 len _ => if (look H id).alive then some { v := .ref id 0, req := decide (0 < len) } else none
  | _ => none
def bytesIn (l : List V) : Bool := l.all fun v => shapeOk (.int .u8) v && (decide (0 ≤ v.asInt) && decide (v.asInt < 256))
/-- unsafe.String -/
def strE (P : Program) (T : Ty) (H : List Ent) (ts : List TypeId) (p n : V) : Option Res :=
  match p, n with
  | .nilptr, .int .i64 n => match ts with
    | [_, _] => some { v := .str ByteArray.empty, req := decide (n = 0) }
    | _ => none
  | .ref id 0, .int .i64 n => match ts, look H id with
    | [pt, _], .arr 1 xs t => match T t with
      | some j => if tyIs T pt isPtrD && (P.pointee pt == t && j.size == 1) then
          some { v := .str (bytesOfL (xs.take n.toNat)), dl := [(id, .dead)], req := decide (0 < n) && (decide (n.toNat ≤ xs.length) && (decide (n.toNat ≤ most) && bytesIn (xs.take n.toNat))) } else none
      | none => none
    | _, _ => none
  | _, _ => none
def builtinE (fl : Bool) (P : Program) (T : Ty) (H : List Ent) (slot : Nat) (b : Builtin) (ts : List TypeId) (args : List V) : Option Res :=
  match b, args with
  | .len, [x] => match ts with
    | t :: _ => match T t with
      | some i => okv (lenE H i.desc x)
      | none => none
    | [] => none
  | .append, [s, x] => match ts with
    | [t, u] => match T t with
      | some i => match i.desc with
        | .slice e => match T e with
          | some j => if j.bytes ≤ 4096 && tyIs T u (fun | .slice _ => true | .str => true | _ => false) then appendE fl H slot e j.size s x else none
          | none => none
        | _ => none
      | none => none
    | _ => none
  | .copy, [d, s] => match ts with
    | t :: _ => match T t with
      | some i => match i.desc with
        | .slice e => match T e with
          | some j => copyE H j.size d s
          | none => none
        | _ => none
      | none => none
    | [] => none
  | .min, x :: l => okv (foldE min2E x l)
  | .max, x :: l => okv (foldE max2E x l)
  | .unsafeSliceData, [x] => dataE H x
  | .unsafeString, [p, n] => strE P T H ts p n
  | _, _ => none
/-- a pointer's conversion to unsafe.Pointer and back -/
def uconvE (P : Program) (H : List Ent) (s d : TypeId) (id off : Nat) : Option Res :=
  match look H id, P.underlying s, P.underlying d with
  | .box l _, some (.pointer e), some .unsafePointer => match P.info? e with
    | some j => if !(j.size == 0) && decide (off < l.length) then some { v := .ref id off } else none
    | none => none
  | .box l bt, some .unsafePointer, some (.pointer u) => match P.info? u with
    | some _ => if liesAt P P.depth bt (l.length / P.cellsOf bt) off u 1 then some { v := .ref id off } else none
    | none => none
  | _, _, _ => none
def opE (fl : Bool) (C : Cfg) (tm : List V) (H : List Ent) (slot : Nat) (op : Op) : Option Res :=
  let ρ := opd C tm
  let T := C.ty
  match op with
  | .move x | .assign x => some { v := ρ x }
  | .alloc e => match T e with
    | some i => some { v := .ref slot 0, nw := some (.box i.zero e) }
    | none => none
  | .box e x => if V.cellAll (ρ x).cells then some { v := .ref slot 0, nw := some (.box (ρ x).cells e) } else none
  | .build t parts => okv (buildE T t (parts.toList.map fun (i, x) => (i, ρ x)))
  | .buildSlice t len parts => match T t with
    | some i => match i.desc with
      | .slice e => match T e with
        | some j => match elemsE j.size (List.replicate len (zeroEl j)) (parts.toList.map fun (i, x) => (i, ρ x)) with
          | some xs => if len * j.size ≤ 16777216 && j.zero.length = j.size then
              (if plainAll j.size xs then some { v := .own slot 0 len true, nw := some (.arr j.size xs e) } else if j.size = 1 then some { v := .own slot 0 len true, nw := some (.box (flatL xs) e) } else none) else none
          | none => none
        | none => none
      | _ => none
    | none => none
  | .load t a => loadE T H t (ρ a)
  | .store t a x => storeE T H t (ρ a) (ρ x)
  | .nilCheck x => match ρ x with
    | .ref i o => some { v := .ref i o }
    | .cref l => some { v := .cref l }
    | .fn f l => some { v := .fn f l }
    | _ => none
  | .binOp op t x y _ => if binTy T op t (ρ x) then (match binE C.P T H op t (ρ x) (ρ y) with
    | some (v, r) => some { v := v, req := r }
    | none => none) else none
  | .unOp op _ x => okv (unE op (ρ x))
  | .convert s d x => match ρ x with
    | .ref id off => uconvE C.P H s d id off
    | a => convE T H slot s d a
  | .sliceToArrayPointer t x => match T t with
    | some i => match i.desc, ρ x with
      | .array n e, .sl sz l _ nl => match T e with
        | some j => if j.size = 1 && sz = 1 then some { v := .cref (flatL l), req := decide (n ≤ l.length) && !nl && decide (0 < n) } else none
        | none => none
      | .array n _, .own id lo len _ => match look H id with
        | .box _ _ => some { v := .ref id lo, req := decide (n ≤ len) && decide (0 < n) }
        | _ => none
      | _, _ => none
    | none => none
  | .makeFunc (.func f) first caps => match first.toList with
    | [] => some { v := .fn f (caps.toList.map ρ) }
    | _ => none
  | .makeSlice t l c => makeSliceE T slot t (ρ l) (ρ c)
  | .slice t x lo hi mx => sliceE T H t (ρ x) (optv C tm lo) (optv C tm hi) (optv C tm mx)
  | .fieldAddr t x f => fieldAddrE T H t (ρ x) f
  | .field t x f => fieldE T t (ρ x) f
  | .indexAddr t x i => indexAddrE T H t (ρ x) (ρ i)
  | .index t x i => indexE T t (ρ x) (ρ i)
  | .extract x i => match ρ x with
    | .tup l => match l[i]? with
      | some v => some { v := v }
      | none => none
    | _ => none
  | .call c => match c.callee with
    | .builtin b => builtinE fl C.P T H slot b c.argTypes.toList (c.args.toList.map ρ)
    | _ => none
  | _ => none

/-- entries written; the first one for a place holds -/
def setAll (H : List Ent) : List (Nat × Ent) → List Ent
  | [] => H
  | (i, e) :: l => (setAll H l).set i e
def dlook (H : List Ent) (id : Nat) : List (Nat × Ent) → Ent
  | [] => look H id
  | (i, e) :: l => if id = i then e else dlook H id l
def Res.heap (r : Res) (H : List Ent) : List Ent :=
  match r.up with
  | some H' => H'
  | none => match r.nw with
    | some e => setAll H r.dl ++ [e]
    | none => setAll H r.dl

/-! ### a loop's head: what is dead is forgotten -/
mutual
/-- the entries that a value leads to -/
def refs : V → List Nat
  | .own id _ _ _ => [id]
  | .ref id _ => [id]
  | .agg l => refsL l
  | .tup l => refsL l
  | .fn _ l => refsL l
  | _ => []
def refsL : List V → List Nat
  | [] => []
  | x :: xs => refs x ++ refsL xs
end
def entRefs : Ent → List Nat
  | .box l _ => refsL l
  | _ => []
def addNew (l : List Nat) : List Nat → List Nat
  | [] => l
  | x :: xs => addNew (if l.contains x then l else l ++ [x]) xs
def grow (H : List Ent) (l : List Nat) : Nat → List Nat
  | 0 => l
  | n + 1 => grow H (addNew l (l.flatMap fun i => entRefs (look H i))) n
def findAt (x : Nat) : List Nat → Option Nat
  | [] => none
  | y :: l => if x = y then some 0 else (findAt x l).map (· + 1)
mutual
def rename (l : List Nat) : V → V
  | .own id lo len c => match findAt id l with
    | some i => .own i lo len c
    | none => .undef
  | .ref id off => match findAt id l with
    | some i => .ref i off
    | none => .undef
  | .agg xs => .agg (renames l xs)
  | .tup xs => .tup (renames l xs)
  | .fn f xs => .fn f (renames l xs)
  | .cref _ => .undef
  | v => v
def renames (l : List Nat) : List V → List V
  | [] => []
  | x :: xs => rename l x :: renames l xs
end
def renEnt (l : List Nat) : Ent → Ent
  | .box cs bt => .box (renames l cs) bt
  | e => e
def clear (live : List Nat) : Nat → List V → List V
  | _, [] => []
  | i, x :: xs => (if live.contains i then x else .undef) :: clear live (i + 1) xs
/-- the slots that live on are kept; the first base entries keep their places (with a slot 1000000 in the list: every entry does) -/
def tidy (base : Nat) (live : List Nat) (s : St) : St :=
  let tm := clear live 0 s.tm
  bif live.contains 1000000 then { tm := tm, hp := s.hp } else
  let l := grow s.hp (addNew (List.range base) (refsL tm)) 4
  { tm := renames l tm, hp := l.map fun i => renEnt l (look s.hp i) }

def res1E (T : Ty) (s : St) : ResultVar → Option Res
  | .tmp t => some { v := s.tm.getD t .undef }
  | .cell a t => loadE T s.hp t (s.tm.getD a .undef)
def resultE (T : Ty) (s : St) : List ResultVar → Option (List V × Bool)
  | [] => some ([], true)
  | r :: rs => match res1E T s r, resultE T s rs with
    | some v, some (vs, q) => some (v.v :: vs, v.req && q)
    | _, _ => none
def enter (fn : Func) (args : List V) (H : List Ent) : St := { tm := args ++ List.replicate (fn.ntmps - args.length) .undef, hp := H }
end Go.Vi
