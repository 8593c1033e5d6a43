/- The abstract machine, 1: values, memory, what pure operations give, and that they are sound. -/
import Derived.WalkKit
import Derived.Orders
import Derived.Below
import Derived.Lib.FieldsLaws
import Derived.Lib.DecodeN
import Derived.MapKept
/- An abstract machine for the model: abstract values, abstract memory, and what the pure operations make of them. Definitions alone; nothing of a program. -/
namespace Go.Ab
set_option linter.unusedVariables false
open Go

/-- Who may append to a slice in its place: nobody; it is nil; the one version of the row with this stamp. -/
inductive Own where
  | ro
  | nil
  /-- There is no room behind the elements. -/
  | full
  | own (k : Nat)

/-- Abstract values. A slice bears its elements, a string its bytes; a pointer names an abstract block; 'rptr' points into memory that nobody writes any more, with the cells that lie there. -/
inductive AV where
  | junk
  | any
  | int (k : IntKind) (n : Int)
  | bool (b : Bool)
  | str (l : List UInt8)
  | agg (cs : List AV)
  | tup (cs : List AV)
  | vec (o : Own) (es : List AV)
  | ptr (id off : Nat)
  | rptr (cs : List AV)
  | fn (f : Fn) (first cap : List AV)
  | iface (t : TypeId) (v : AV)
  | val (v : Value)
  /-- A slice of a row that may be written: so many elements of so many cells, from this one on. -/
  | sl (id s off len : Nat)
  | map (id : Nat)
  deriving Inhabited

def AV.cells : AV → List AV
  | .agg cs => cs
  | v => [v]

/-- How many cells it takes; none: not known. -/
def AV.width : AV → Option Nat
  | .junk => none
  | .agg cs => some cs.length
  | .tup _ => none
  | .val v => if v.oneCell' then some 1 else none
  | _ => some 1

/-- One cell that may be stored. -/
def AV.one : AV → Bool
  | .junk | .agg _ | .tup _ => false
  | .val v => v.oneCell'
  | _ => true

/-- What a slice may be handed on as, where nobody appends to it in its place. -/
def Own.bare : Own → Own
  | .own _ => .ro
  | o => o

def AV.bare : AV → AV
  | .vec o es => .vec o.bare es
  | v => v

def AV.erase : AV → AV
  | .agg cs => .agg (cs.map AV.bare)
  | .tup cs => .tup (cs.map fun c => match c with | .agg ds => .agg (ds.map AV.bare) | c => c.bare)
  | v => v.bare

def ofV1 : Value → AV
  | .int k n => .int k n
  | .bool b => .bool b
  | .string s => .str s.data.toList
  | .slice none 0 0 => .vec .nil []
  | v => .val v

def ofV : Value → AV
  | .agg cs => .agg (cs.toList.map ofV1)
  | v => ofV1 v

/-! ### Abstract memory -/

inductive AObj where
  | cells (te : Option TypeId) (cs : List AV)
  /-- A row that may grow: so many elements, of this type. -/
  | tip (n : Nat) (et : TypeId)
  /-- A row that may be written and may grow: so many elements, of this type and of so many cells; the cells. -/
  | row (n : Nat) (et : TypeId) (s : Nat) (cs : List AV)
  /-- A map: keys, values, when each came in; how many came in. -/
  | map (es : List (AV × AV × Nat)) (clock : Nat)

structure AHeap where
  next : Nat
  objs : List (Nat × AObj)

def getL : List (Nat × AObj) → Nat → Option AObj
  | [], _ => none
  | (k, x) :: r, id => if k = id then some x else getL r id

def setL : List (Nat × AObj) → Nat → AObj → List (Nat × AObj)
  | [], _, _ => []
  | (k, x) :: r, id, y => if k = id then (k, y) :: r else (k, x) :: setL r id y

def delL : List (Nat × AObj) → Nat → List (Nat × AObj)
  | [], _ => []
  | (k, x) :: r, id => if k = id then delL r id else (k, x) :: delL r id

def AHeap.del (H : AHeap) (id : Nat) : AHeap := { H with objs := delL H.objs id }
def AHeap.get (H : AHeap) (id : Nat) : Option AObj := if id < H.next then getL H.objs id else none
def AHeap.set (H : AHeap) (id : Nat) (x : AObj) : AHeap := { H with objs := setL H.objs id x }
def AHeap.push (H : AHeap) (x : AObj) : AHeap := { next := H.next + 1, objs := (H.next, x) :: H.objs }
def AHeap.empty : AHeap := { next := 0, objs := [] }

/-! ### What the operations ask of the types -/

def isAggD : TypeDesc → Bool
  | .struct _ => true
  | .array .. => true
  | _ => false

def szQ (P : Program) (t : TypeId) : Option Nat := (P.info? t).map (·.size)
def byQ (P : Program) (t : TypeId) : Option Nat := (P.info? t).map (·.bytes)
def aggQ (P : Program) (t : TypeId) : Option Bool := (P.underlying t).map isAggD
def elemQ (P : Program) (t : TypeId) : Option TypeId := match P.underlying t with | some (.slice e) => some e | _ => none
def isStrQ (P : Program) (t : TypeId) : Bool := match P.underlying t with | some .string => true | _ => false
def fieldsQ (P : Program) (t : TypeId) : Option (List (Nat × TypeId)) := match P.underlying t with | some (.struct fs) => some (fs.toList.map fun f => (f.offset, f.type)) | _ => none
def placesQ (P : Program) (t : TypeId) : Option (List (Nat × Nat)) := match P.underlying t with
  | some (.struct fs) => fs.toList.mapM (fun f => (P.info? f.type).map fun i => (f.offset, i.size))
  | some (.array n el) => (P.info? el).map fun i => (List.range n).map fun j => (j * i.size, i.size)
  | _ => none
def zeroQ (P : Program) (t : TypeId) : Option (List AV) := match P.info? t with | some i => i.zero.map fun v => v.cells.toList.map ofV1 | _ => none
/-- A map's key type and its element type. -/
def mapQ (P : Program) (t : TypeId) : Option (TypeId × TypeId) := match P.underlying t with | some (.map k e) => some (k, e) | _ => none
def zeroV (P : Program) (t : TypeId) : Option AV := match P.info? t with | some i => i.zero.map ofV | _ => none
/-- An array's length and its elements' type. -/
def arrQ (P : Program) (t : TypeId) : Option (Nat × TypeId) := match P.underlying t with | some (.array n el) => some (n, el) | _ => none
/-- Variables that hold texts alone: what they hold. -/
def strTab (P : Program) (g : Nat) : Option (List (List UInt8)) :=
  if P.globalNamed "whetstone/script.kinds" = some g then some (["", "rename", "label", "extract", "inline", "move", "organise", "annotate", "erase", "types"].map fun s => s.toUTF8.data.toList) else none
def globOf : Value → Option Nat
  | .pointer (some ⟨g, 0, none⟩) => some g
  | _ => none
def intQ (P : Program) (t : TypeId) : Option IntKind := match P.underlying t with | some (.int k) => some k | _ => none

/-! ### Pure operations: the memory stays as it is -/

def ldA (P : Program) (t : TypeId) (cs : List AV) (off : Nat) : Option AV :=
  match aggQ P t with
  | some true =>
    match szQ P t with
    | some n => if off + n ≤ cs.length then some (.agg ((cs.drop off).take n)) else none
    | none => none
  | some false => cs[off]?
  | none => none

def intBin (op : BinOp) (k : IntKind) (a b : Int) : Option AV :=
  match op with
  | .add => some (.int k (k.wrap (a + b)))
  | .sub => some (.int k (k.wrap (a - b)))
  | .mul => some (.int k (k.wrap (a * b)))
  | .quo => if b = 0 then none else some (.int k (k.wrap (a.tdiv b)))
  | .rem => if b = 0 then none else some (.int k (a.tmod b))
  | .eql => some (.bool (a == b))
  | .neq => some (.bool (a != b))
  | .lss => some (.bool (decide (a < b)))
  | .leq => some (.bool (decide (a ≤ b)))
  | .gtr => some (.bool (decide (a > b)))
  | .geq => some (.bool (decide (a ≥ b)))
  | _ => none

def strBin (op : BinOp) (x y : List UInt8) : Option AV :=
  match op with
  | .add => if x.length + y.length ≤ 9223372036854775807 then some (.str (x ++ y)) else none
  | .eql => some (.bool (x == y))
  | .neq => some (.bool (!(x == y)))
  | .lss => some (.bool (Op.bytesLess x y))
  | .leq => some (.bool (Op.bytesLess x y || x == y))
  | .gtr => some (.bool (!(Op.bytesLess x y || x == y)))
  | .geq => some (.bool (!Op.bytesLess x y))
  | _ => none

/-- The kinds of cells that are compared one by one. -/
inductive EK where
  | int
  | bool
  | str

def eqFs (P : Program) (g : TypeId → Option (List EK)) : Nat → List Field → Option (List EK)
  | _, [] => some []
  | off, f :: fs =>
    if f.name = "_" ∨ f.offset ≠ off then none else
    match g f.type with
    | some ks => if szQ P f.type = some ks.length ∧ ks.length ≠ 0 ∧ (aggQ P f.type = some true ∨ (aggQ P f.type = some false ∧ ks.length = 1)) then
        match eqFs P g (off + ks.length) fs with
        | some r => some (ks ++ r)
        | none => none
      else none
    | none => none

/-- The cells of a type whose values are compared cell by cell. -/
def eqQ (P : Program) : Nat → TypeId → Option (List EK)
  | 0, _ => none
  | d + 1, t =>
    match P.underlying t with
    | some .bool => some [.bool]
    | some (.int _) => some [.int]
    | some .string => some [.str]
    | some (.struct fs) => if P.stoodInHeld t = true ∨ P.eqGuardType P.depth t = true then none else eqFs P (eqQ P d) 0 fs.toList
    | _ => none

def eqCell : EK → AV → AV → Option Bool
  | .int, .int k a, .int k' b => if k = k' then some (a == b) else none
  | .bool, .bool a, .bool b => some (a == b)
  | .str, .str a, .str b => some (a == b)
  | _, _, _ => none

def eqCells : List EK → List AV → List AV → Option Bool
  | [], [], [] => some true
  | k :: ks, x :: xs, y :: ys =>
    match eqCell k x y with
    | some b => match eqCells ks xs ys with
      | some r => some (b && r)
      | none => none
    | none => none
  | _, _, _ => none

def eqBin (op : BinOp) (r : Option Bool) : Option AV :=
  match op with
  | .eql => match r with | some b => some (.bool b) | none => none
  | .neq => match r with | some b => some (.bool (!b)) | none => none
  | _ => none

/-- Comparing with a nil pointer, a nil interface. -/
def nilBin (op : BinOp) (b : Bool) : Option AV :=
  match op with
  | .eql => some (.bool b)
  | .neq => some (.bool (!b))
  | _ => none

def ptrQ (P : Program) (t : TypeId) : Bool := match P.underlying t with | some (.pointer _) => true | _ => false
def ifaceQ (P : Program) (t : TypeId) : Bool := match P.underlying t with | some (.interface _) => true | _ => false

def funcQ (P : Program) (t : TypeId) : Bool := match P.underlying t with | some (.func _ _ _) => true | _ => false

def sliceTQ (P : Program) (t : TypeId) : Bool := match P.underlying t with | some (.slice _) => true | _ => false

def shiftA (op : BinOp) (k : IntKind) (a b : Int) : Option AV :=
  if b < 0 then none else
  match op with
  | .shl => some (.int k (k.wrap (a * 2 ^ min b.toNat k.bits)))
  | .shr => some (.int k (a.fdiv (2 ^ min b.toNat k.bits)))
  | _ => none

/-- An empty slice that is not nil. -/
def isES : Value → Bool
  | .slice (some _) 0 _ => true
  | _ => false

def isShift : BinOp → Bool
  | .shl => true
  | .shr => true
  | _ => false

def binA (P : Program) (op : BinOp) (t : TypeId) (x y : AV) : Option AV :=
  match x, y with
  | .int k a, .int k' b => if isShift op = true then shiftA op k a b else if k = k' then intBin op k a b else none
  | .str a, .str b => strBin op a b
  | .bool a, .bool b => if aggQ P t = some false then match eqQ P 4 t with | some [.bool] => eqBin op (some (a == b)) | _ => none else none
  | .agg xs, .agg ys => if aggQ P t = some true then match eqQ P 4 t with | some ks => eqBin op (eqCells ks xs ys) | none => none else none
  | .ptr _ _, .val (.pointer none) => if ptrQ P t = true then nilBin op false else none
  | .rptr _, .val (.pointer none) => if ptrQ P t = true then nilBin op false else none
  | .val (.pointer none), .val (.pointer none) => if ptrQ P t = true then nilBin op true else none
  | .iface _ _, .val .nilIface => if ifaceQ P t = true then nilBin op false else none
  | .fn _ _ _, .val .nilFunc => if funcQ P t = true then nilBin op false else none
  | .sl _ _ _ _, .vec .nil [] => if sliceTQ P t = true then nilBin op false else none
  | .vec _ (_ :: _), .vec .nil [] => if sliceTQ P t = true then nilBin op false else none
  | .vec .nil [], .vec .nil [] => if sliceTQ P t = true then nilBin op true else none
  | .val v, .vec .nil [] => if isES v = true ∧ sliceTQ P t = true then nilBin op false else none
  | _, _ => none

def isConstO : Operand → Bool
  | .const _ => true
  | _ => false

def bothNil : AV → AV → Bool
  | .val .nilIface, .val .nilIface => true
  | _, _ => false

/-- Two nil interfaces are compared where one of them is written as nil. -/
def binC (P : Program) (op : BinOp) (t : TypeId) (c : Bool) (x y : AV) : Option AV :=
  if bothNil x y = true then (if c = true ∧ ifaceQ P t = true then nilBin op true else none) else binA P op t x y

/-- One part of a struct is laid over its cells. -/
def overlay (cs : List AV) (off : Nat) (vs : List AV) : List AV := cs.take off ++ vs ++ cs.drop (off + vs.length)

def fillA (place : Nat → Option (Nat × Nat)) : List AV → List (Nat × AV) → Option (List AV)
  | cs, [] => some cs
  | cs, (i, v) :: rest =>
    match place i with
    | none => none
    | some (off, n) => if v.width = some n ∧ off + n ≤ cs.length then fillA place (overlay cs off v.cells) rest else none

def sliceBnd (x : Option AV) (d y : Nat) : Option Nat :=
  match x with
  | none => some d
  | some (.int _ i) => if 0 ≤ i ∧ i ≤ (y : Int) then some i.toNat else none
  | some _ => none

/-- The first and the second bound of a slice expression, of something so long. -/
def sliceLH (n : Nat) (lo hi : Option AV) : Option (Nat × Nat) :=
  match sliceBnd hi n n with
  | some h => match sliceBnd lo 0 h with
    | some l => some (l, h)
    | none => none
  | none => none

def loadA (P : Program) (H : AHeap) (t : TypeId) : AV → Option AV
  | .rptr cs => ldA P t cs 0
  | .ptr id off => match H.get id with | some (.cells _ cs) => ldA P t cs off | some (.row _ _ _ cs) => ldA P t cs off | _ => none
  | .val v => match globOf v with
    | some g => match strTab P g with | some ls => ldA P t (ls.map AV.str) 0 | none => none
    | none => none
  | _ => none

def fieldAddrA (P : Program) (s : TypeId) (f : Nat) (a : AV) : Option AV :=
  match fieldsQ P s with
  | some fs => match fs[f]? with
    | some (off, ft) =>
      if szQ P ft = some 0 ∨ szQ P ft = none then none else
      match a with
      | .ptr id o => some (.ptr id (o + off))
      | .rptr cs => if off ≤ cs.length then some (.rptr (cs.drop off)) else none
      | _ => none
    | none => none
  | none => none

def indexAddrA (P : Program) (t : TypeId) : AV → AV → Option AV
  | .vec _ es, .int _ n =>
    if 0 ≤ n then
      match es[n.toNat]? with
      | some e => match elemQ P t with
        | some et => if szQ P et = e.width ∧ szQ P et ≠ none then some (.rptr e.cells) else none
        | none => none
      | none => none
    else none
  | .sl id s off len, .int _ n =>
    if 0 ≤ n ∧ n.toNat < len then
      match elemQ P t with
      | some et => if szQ P et = some s ∧ s ≠ 0 then some (.ptr id ((off + n.toNat) * s)) else none
      | none => none
    else none
  | _, _ => none

/-- A field of a struct that is no variable. -/
def fieldA (P : Program) (s : TypeId) (f : Nat) : AV → Option AV
  | .agg cs => match fieldsQ P s with
    | some fs => match fs[f]? with
      | some (off, ft) => ldA P ft cs off
      | none => none
    | none => none
  | _ => none

def indexA (P : Program) (t : TypeId) : AV → AV → Option AV
  | .str l, .int _ n => if isStrQ P t = true ∧ 0 ≤ n then match l[n.toNat]? with | some b => some (.int .u8 b.toNat) | none => none else none
  | .agg cs, .int _ n => match arrQ P t with
    | some (len, el) => if 0 ≤ n ∧ n < (len : Int) ∧ aggQ P el = some false ∧ szQ P el = some 1 then cs[n.toNat]? else none
    | none => none
  | _, _ => none

def unA : UnOp → AV → Option AV
  | .not, .bool b => some (.bool (!b))
  | .neg, .int k n => some (.int k (k.wrap (0 - n)))
  | _, _ => none

def convA (P : Program) (src dst : TypeId) : AV → Option AV
  | .int _ n => if aggQ P src ≠ none then match intQ P dst with | some k => some (.int k (k.wrap n)) | none => none else none
  | _ => none

def extractA (i : Nat) : AV → Option AV
  | .tup l => l[i]?
  | _ => none

def buildA (P : Program) (t : TypeId) (parts : List (Nat × AV)) : Option AV :=
  match zeroQ P t, placesQ P t with
  | some z, some fs => match fillA (fs[·]?) z parts with | some cs => some (.agg cs) | none => none
  | _, _ => none

/-- The elements' cells are as many as their type has. -/
def strideQ (P : Program) (t : TypeId) (es : List AV) : Bool :=
  match elemQ P t with
  | some et => match szQ P et with
    | some s => es.head?.all fun e => e.width == some s
    | none => false
  | none => false

/-- What is left of the room when a slice is cut at its end: nothing was, nothing is. -/
def cutOwn : Own → Option AV → Own
  | .nil, none => .full
  | .full, none => .full
  | _, _ => .ro

def sliceA (P : Program) (t : TypeId) (lo hi : Option AV) : AV → Option AV
  | .str l => if isStrQ P t = true then match sliceLH l.length lo hi with | some (a, b) => some (.str ((l.take b).drop a)) | none => none else none
  | .vec o es => if strideQ P t es = true then match sliceLH es.length lo hi with | some (a, b) => some (.vec (cutOwn o hi) ((es.take b).drop a)) | none => none else none
  | .sl id s off len =>
    match elemQ P t with
    | some et =>
      if szQ P et = some s then
        match sliceLH len lo hi with
        | some (a, b) => if a = 0 then some (.sl id s off b) else if a < b then some (.sl id s (off + a) (b - a)) else some (.vec .ro [])
        | none => none
      else none
    | none => none
  | _ => none

def isZ : Option AV → Bool
  | some (.int _ n) => n == 0
  | _ => false
def isSl : AV → Bool
  | .vec _ _ => true
  | .sl _ _ _ _ => true
  | _ => false

/-- s[0:0:0]: an empty slice without room. -/
def slice3A (P : Program) (t : TypeId) (lo hi mx : Option AV) (a : AV) : Option AV :=
  if isZ hi = true ∧ isZ mx = true ∧ (lo.isNone = true ∨ isZ lo = true) ∧ isSl a = true then
    match elemQ P t with
    | some et => match szQ P et with | some _ => some (.vec .full []) | none => none
    | none => none
  else none

def nilCheckA : AV → Option AV
  | .ptr id o => some (.ptr id o)
  | .rptr cs => some (.rptr cs)
  | .fn (.func f) first cap => some (.fn (.func f) first cap)
  | _ => none

def lenA (P : Program) (tys : Array TypeId) : List AV → Option AV
  | [.str l] => match tys[0]? with | some t => if isStrQ P t = true then some (.int .i64 l.length) else none | none => none
  | [.vec _ es] => match tys[0]? with | some t => if elemQ P t ≠ none then some (.int .i64 es.length) else none | none => none
  | [.sl _ _ _ n] => match tys[0]? with | some t => if elemQ P t ≠ none then some (.int .i64 n) else none | none => none
  | [.val v] => match tys[0]? with | some t => if isES v = true ∧ elemQ P t ≠ none then some (.int .i64 0) else none | none => none
  | _ => none

def maxA : List AV → Option AV
  | [.int k a, .int _ b] => some (.int k (if b > a then b else a))
  | _ => none

def minA : List AV → Option AV
  | [.int k a, .int _ b] => some (.int k (if b < a then b else a))
  | _ => none

def pickA (a b : AV) : AV → Option AV
  | .bool v => some (if v then a else b)
  | _ => none

/-- The same key? -/
def keyEqA : AV → AV → Option Bool
  | .int k a, .int k' b => if k = k' then some (a == b) else none
  | .str a, .str b => some (a == b)
  | _, _ => none

/-- The entry of a key, by its number. -/
def findA (k : AV) : List (AV × AV × Nat) → Nat → Option (Option (Nat × AV))
  | [], _ => some none
  | (k', v, _) :: es, i => match keyEqA k k' with
    | some true => some (some (i, v))
    | some false => findA k es (i + 1)
    | none => none

/-- A key of a map's key type: an int, a string, an array of ints. -/
def keyOkA (P : Program) (kt : TypeId) (k : AV) : Bool :=
  match P.underlying kt with
  | some (.int q) => match k with | .int q' _ => decide (q' = q) | _ => false
  | some .string => match k with | .str _ => true | _ => false
  | some (.array n el) => match k with
    | .agg cs => n == cs.length && (match P.underlying el with | some (.int _) => true | _ => false) && szQ P el == some 1
    | _ => false
  | _ => false

def lookupA (P : Program) (H : AHeap) (t : TypeId) (m k : AV) (ok : Bool) : Option AV :=
  match m with
  | .map id => match H.get id with
    | some (.map es _) => match mapQ P t with
      | some (kt, et) => if keyOkA P kt k = true then
          match findA k es 0 with
          | some (some (_, v)) => some (if ok then .tup [v, .bool true] else v)
          | some none => match zeroV P et with | some z => some (if ok then .tup [z, .bool false] else z) | none => none
          | none => none
        else none
      | none => none
    | _ => none
  | _ => none

def pureOp (P : Program) (o : Op) (ρ : Operand → AV) (H : AHeap) : Option AV :=
  match o with
  | .move x => some (ρ x)
  | .assign x => some (ρ x)
  | .pick c a b => pickA (ρ a) (ρ b) (ρ c)
  | .load t a => loadA P H t (ρ a)
  | .fieldAddr s x f => fieldAddrA P s f (ρ x)
  | .indexAddr t x i => indexAddrA P t (ρ x) (ρ i)
  | .index t x i => indexA P t (ρ x) (ρ i)
  | .binOp op t x y _ => binC P op t (isConstO x || isConstO y) (ρ x) (ρ y)
  | .unOp op _ x => unA op (ρ x)
  | .convert src dst x => convA P src dst (ρ x)
  | .extract x i => extractA i (ρ x)
  | .build t parts => buildA P t (parts.toList.map fun p => (p.1, ρ p.2))
  | .slice t x lo hi mx => match mx with | none => sliceA P t (lo.map ρ) (hi.map ρ) (ρ x) | some m => slice3A P t (lo.map ρ) (hi.map ρ) (some (ρ m)) (ρ x)
  | .field t x f => fieldA P t f (ρ x)
  | .lookup t m k ok => lookupA P H t (ρ m) (ρ k) ok
  | .makeFunc f first cap => some (.fn f (first.toList.map ρ) (cap.toList.map ρ))
  | .nilCheck x => nilCheckA (ρ x)
  | .call c =>
    match c.callee with
    | .builtin .len => lenA P c.argTypes (c.args.toList.map ρ)
    | .builtin .max => maxA (c.args.toList.map ρ)
    | .builtin .min => minA (c.args.toList.map ρ)
    | _ => none
  | _ => none

end Go.Ab

/- What abstract values and abstract memory say of the model's values and of its world; the pure operations do in the model what they do here. -/
namespace Go.Ab
set_option linter.unusedVariables false
open Go Go.RowKit

/-- What is known for good: cells that nobody writes any more; where an abstract block lies; where, and in how much room, a version of a growing row lies. -/
structure St where
  cells : Nat → Nat → Option Value
  loc : Nat → Option Nat
  own : Nat → Nat → Option (Nat × Nat)

structure St.le (σ σ' : St) : Prop where
  cells : ∀ b o v, σ.cells b o = some v → σ'.cells b o = some v
  loc : ∀ i b, σ.loc i = some b → σ'.loc i = some b
  own : ∀ k n x, σ.own k n = some x → σ'.own k n = some x

theorem St.le_refl (σ : St) : σ.le σ := ⟨fun _ _ _ h => h, fun _ _ h => h, fun _ _ _ h => h⟩
theorem St.le_trans {a b c : St} (h : a.le b) (k : b.le c) : a.le c :=
  ⟨fun x y v e => k.cells x y v (h.cells x y v e), fun i x e => k.loc i x (h.loc i x e), fun i n x e => k.own i n x (h.own i n x e)⟩

def OwnOk (σ : St) (o : Own) (a : Option Addr) (n cap : Nat) : Prop :=
  match o with
  | .ro => True
  | .nil => a = none ∧ n = 0 ∧ cap = 0
  | .full => cap = n
  | .own k => ∃ b, σ.own k n = some (b, cap) ∧ a = some ⟨b, 0, none⟩

mutual
def Rep (σ : St) : AV → Value → Prop
  | .junk, _ => True
  | .any, u => u.oneCell' = true
  | .int k n, u => u = .int k n
  | .bool b, u => u = .bool b
  | .str l, u => u = .string ⟨l.toArray⟩
  | .agg cs, u => ∃ us : List Value, u = .agg us.toArray ∧ RepL σ cs us
  | .tup cs, u => ∃ us : List Value, u = .tuple us.toArray ∧ RepL σ cs us
  | .vec o es, u => ∃ a cap, u = .slice a es.length cap ∧ es.length ≤ cap ∧ OwnOk σ o a es.length cap ∧ (es = [] ∨ ∃ b off s, a = some ⟨b, off, none⟩ ∧ RepRow σ b s off es)
  | .ptr id off, u => ∃ b, σ.loc id = some b ∧ u = .pointer (some ⟨b, off, none⟩)
  | .rptr cs, u => ∃ b off, u = .pointer (some ⟨b, off, none⟩) ∧ RepCells σ b off cs
  | .fn f first cap, u => ∃ us vs : List Value, u = .func f us.toArray vs.toArray ∧ RepL σ first us ∧ RepL σ cap vs
  | .iface t v, u => ∃ x, u = .iface t x ∧ Rep σ v x
  | .val v, u => u = v
  | .sl id s off len, u => ∃ b cap, σ.loc id = some b ∧ σ.own id 0 = some (b, cap) ∧ u = .slice (some ⟨b, off * s, none⟩) len (cap - off) ∧ off + len ≤ cap
  | .map id, u => ∃ b, σ.loc id = some b ∧ u = .map (some b)
def RepL (σ : St) : List AV → List Value → Prop
  | [], us => us = []
  | c :: cs, us => ∃ u us', us = u :: us' ∧ Rep σ c u ∧ RepL σ cs us'
def RepCells (σ : St) (b : Nat) : Nat → List AV → Prop
  | _, [] => True
  | off, c :: cs => (∃ u, σ.cells b off = some u ∧ Rep σ c u) ∧ RepCells σ b (off + 1) cs
def RepRow (σ : St) (b s : Nat) : Nat → List AV → Prop
  | _, [] => True
  | off, e :: es => (∃ u, Rep σ e u ∧ u.cells.size = s ∧ ∀ j v, u.cells[j]? = some v → σ.cells b (off + j) = some v) ∧ RepRow σ b s (off + s) es
end

theorem OwnOk.mono {σ σ' : St} (h : σ.le σ') {o : Own} {a : Option Addr} {n cap : Nat} (k : OwnOk σ o a n cap) : OwnOk σ' o a n cap := by
  cases o with
  | ro => trivial
  | nil => exact k
  | full => exact k
  | own k' => obtain ⟨b, e, ha⟩ := k; exact ⟨b, h.own _ _ _ e, ha⟩

mutual
theorem Rep.mono {σ σ' : St} (h : σ.le σ') : ∀ (a : AV) (u : Value), Rep σ a u → Rep σ' a u
  | .junk, _, _ => by simp [Rep]
  | .any, _, k => by simpa [Rep] using k
  | .int _ _, _, k => by simpa [Rep] using k
  | .bool _, _, k => by simpa [Rep] using k
  | .str _, _, k => by simpa [Rep] using k
  | .agg cs, _, k => by
    simp only [Rep] at k ⊢
    obtain ⟨us, e, r⟩ := k
    exact ⟨us, e, RepL.mono h cs us r⟩
  | .tup cs, _, k => by
    simp only [Rep] at k ⊢
    obtain ⟨us, e, r⟩ := k
    exact ⟨us, e, RepL.mono h cs us r⟩
  | .vec o es, _, k => by
    simp only [Rep] at k ⊢
    obtain ⟨a, cap, e, hl, ho, r⟩ := k
    refine ⟨a, cap, e, hl, ho.mono h, r.imp id ?_⟩
    rintro ⟨b, off, s, ea, r⟩
    exact ⟨b, off, s, ea, RepRow.mono h b s off es r⟩
  | .ptr _ _, _, k => by
    simp only [Rep] at k ⊢
    obtain ⟨b, e, ha⟩ := k
    exact ⟨b, h.loc _ _ e, ha⟩
  | .rptr cs, _, k => by
    simp only [Rep] at k ⊢
    obtain ⟨b, off, e, r⟩ := k
    exact ⟨b, off, e, RepCells.mono h b off cs r⟩
  | .fn _ first cap, _, k => by
    simp only [Rep] at k ⊢
    obtain ⟨us, vs, e, r, q⟩ := k
    exact ⟨us, vs, e, RepL.mono h first us r, RepL.mono h cap vs q⟩
  | .iface _ v, _, k => by
    simp only [Rep] at k ⊢
    obtain ⟨x, e, r⟩ := k
    exact ⟨x, e, Rep.mono h v x r⟩
  | .val _, _, k => by simpa [Rep] using k
  | .sl _ _ _ _, _, k => by
    simp only [Rep] at k ⊢
    obtain ⟨b, cap, e1, e2, e3, e4⟩ := k
    exact ⟨b, cap, h.loc _ _ e1, h.own _ _ _ e2, e3, e4⟩
  | .map _, _, k => by
    simp only [Rep] at k ⊢
    obtain ⟨b, e1, e2⟩ := k
    exact ⟨b, h.loc _ _ e1, e2⟩
theorem RepL.mono {σ σ' : St} (h : σ.le σ') : ∀ (cs : List AV) (us : List Value), RepL σ cs us → RepL σ' cs us
  | [], _, k => by simpa [RepL] using k
  | c :: cs, _, k => by
    simp only [RepL] at k ⊢
    obtain ⟨u, us', e, r, q⟩ := k
    exact ⟨u, us', e, Rep.mono h c u r, RepL.mono h cs us' q⟩
theorem RepCells.mono {σ σ' : St} (h : σ.le σ') (b : Nat) : ∀ (off : Nat) (cs : List AV), RepCells σ b off cs → RepCells σ' b off cs
  | _, [], _ => by simp [RepCells]
  | off, c :: cs, k => by
    simp only [RepCells] at k ⊢
    obtain ⟨⟨u, e, r⟩, q⟩ := k
    exact ⟨⟨u, h.cells _ _ _ e, Rep.mono h c u r⟩, RepCells.mono h b (off + 1) cs q⟩
theorem RepRow.mono {σ σ' : St} (h : σ.le σ') (b s : Nat) : ∀ (off : Nat) (es : List AV), RepRow σ b s off es → RepRow σ' b s off es
  | _, [], _ => by simp [RepRow]
  | off, e :: es, k => by
    simp only [RepRow] at k ⊢
    obtain ⟨⟨u, r, hs, hc⟩, q⟩ := k
    exact ⟨⟨u, Rep.mono h e u r, hs, fun j v hj => h.cells _ _ _ (hc j v hj)⟩, RepRow.mono h b s (off + s) es q⟩
end

/-! ### Lists of cells -/

theorem RepL.nil_iff {σ : St} {us : List Value} : RepL σ [] us ↔ us = [] := by simp [RepL]
theorem RepL.cons_iff {σ : St} {c : AV} {cs : List AV} {us : List Value} : RepL σ (c :: cs) us ↔ ∃ u us', us = u :: us' ∧ Rep σ c u ∧ RepL σ cs us' := by simp [RepL]

theorem RepL.length {σ : St} : ∀ {cs : List AV} {us : List Value}, RepL σ cs us → us.length = cs.length
  | [], _, h => by rw [RepL.nil_iff] at h; subst h; rfl
  | c :: cs, _, h => by
    rw [RepL.cons_iff] at h
    obtain ⟨u, us', rfl, _, q⟩ := h
    simp [RepL.length q]

theorem RepL.get {σ : St} : ∀ {cs : List AV} {us : List Value} {i : Nat} {c : AV}, RepL σ cs us → cs[i]? = some c → ∃ u, us[i]? = some u ∧ Rep σ c u
  | [], _, _, _, _, e => by simp at e
  | c :: cs, us, i, d, h, e => by
    rw [RepL.cons_iff] at h
    obtain ⟨u, us', rfl, r, q⟩ := h
    cases i with
    | zero => simp at e; subst e; exact ⟨u, by simp, r⟩
    | succ i => simp at e ⊢; exact RepL.get q e

theorem RepL.drop {σ : St} : ∀ {cs : List AV} {us : List Value} (n : Nat), RepL σ cs us → RepL σ (cs.drop n) (us.drop n)
  | [], us, n, h => by rw [RepL.nil_iff] at h; subst h; simp [RepL]
  | c :: cs, us, n, h => by
    cases n with
    | zero => simpa using h
    | succ n =>
      rw [RepL.cons_iff] at h
      obtain ⟨u, us', rfl, _, q⟩ := h
      simpa using RepL.drop n q

theorem RepL.take {σ : St} : ∀ {cs : List AV} {us : List Value} (n : Nat), RepL σ cs us → RepL σ (cs.take n) (us.take n)
  | [], us, n, h => by rw [RepL.nil_iff] at h; subst h; simp [RepL]
  | c :: cs, us, n, h => by
    cases n with
    | zero => simp [RepL]
    | succ n =>
      rw [RepL.cons_iff] at h
      obtain ⟨u, us', rfl, r, q⟩ := h
      simp only [List.take_succ_cons]
      exact RepL.cons_iff.2 ⟨u, _, rfl, r, RepL.take n q⟩

theorem RepL.append {σ : St} : ∀ {cs ds : List AV} {us vs : List Value}, RepL σ cs us → RepL σ ds vs → RepL σ (cs ++ ds) (us ++ vs)
  | [], _, _, _, h, k => by rw [RepL.nil_iff] at h; subst h; simpa using k
  | c :: cs, _, _, _, h, k => by
    rw [RepL.cons_iff] at h
    obtain ⟨u, us', rfl, r, q⟩ := h
    simp only [List.cons_append]
    exact RepL.cons_iff.2 ⟨u, _, rfl, r, RepL.append q k⟩

theorem RepL.map {σ : St} {α : Type} (f : α → AV) (g : α → Value) : ∀ (l : List α), (∀ x ∈ l, Rep σ (f x) (g x)) → RepL σ (l.map f) (l.map g)
  | [], _ => by simp [RepL]
  | x :: l, h => by
    simp only [List.map_cons]
    exact RepL.cons_iff.2 ⟨_, _, rfl, h x (by simp), RepL.map f g l fun y hy => h y (by simp [hy])⟩

theorem Rep.cells {σ : St} : ∀ {a : AV} {u : Value}, Rep σ a u → a.width ≠ none → RepL σ a.cells u.cells.toList
  | .junk, _, _, hw => absurd rfl hw
  | .agg cs, u, h, _ => by
    simp only [Rep] at h
    obtain ⟨us, rfl, r⟩ := h
    simpa [AV.cells, Value.cells] using r
  | .any, u, h, _ => by
    have h1 : u.oneCell' = true := by simpa [Rep] using h
    have : u.cells = #[u] := by cases u <;> simp [Value.oneCell'] at h1 <;> rfl
    rw [this]
    exact RepL.cons_iff.2 ⟨u, [], rfl, h, by simp [RepL]⟩
  | .int _ _, u, h, _ => by simp only [Rep] at h; subst h; simp [AV.cells, Value.cells, RepL, Rep]
  | .bool _, u, h, _ => by simp only [Rep] at h; subst h; simp [AV.cells, Value.cells, RepL, Rep]
  | .str _, u, h, _ => by simp only [Rep] at h; subst h; simp [AV.cells, Value.cells, RepL, Rep]
  | .tup _, _, _, hw => absurd rfl hw
  | .vec o es, u, h, _ => by
    have h' := h
    simp only [Rep] at h'
    obtain ⟨a, cap, rfl, _⟩ := h'
    exact RepL.cons_iff.2 ⟨_, [], rfl, h, by simp [RepL]⟩
  | .ptr _ _, u, h, _ => by
    have h' := h
    simp only [Rep] at h'
    obtain ⟨b, _, rfl⟩ := h'
    exact RepL.cons_iff.2 ⟨_, [], rfl, h, by simp [RepL]⟩
  | .rptr cs, u, h, _ => by
    have h' := h
    simp only [Rep] at h'
    obtain ⟨b, off, rfl, _⟩ := h'
    exact RepL.cons_iff.2 ⟨_, [], rfl, h, by simp [RepL]⟩
  | .fn _ _ _, u, h, _ => by
    have h' := h
    simp only [Rep] at h'
    obtain ⟨us, vs, rfl, _⟩ := h'
    exact RepL.cons_iff.2 ⟨_, [], rfl, h, by simp [RepL]⟩
  | .iface _ _, u, h, _ => by
    have h' := h
    simp only [Rep] at h'
    obtain ⟨x, rfl, _⟩ := h'
    exact RepL.cons_iff.2 ⟨_, [], rfl, h, by simp [RepL]⟩
  | .sl _ _ _ _, u, h, _ => by
    have h' := h
    simp only [Rep] at h'
    obtain ⟨b, cap, _, _, rfl, _⟩ := h'
    exact RepL.cons_iff.2 ⟨_, [], rfl, h, by simp [RepL]⟩
  | .map _, u, h, _ => by
    have h' := h
    simp only [Rep] at h'
    obtain ⟨b, _, rfl⟩ := h'
    exact RepL.cons_iff.2 ⟨_, [], rfl, h, by simp [RepL]⟩
  | .val v, u, h, hw => by
    simp only [Rep] at h
    subst h
    have h1 : u.oneCell' = true := by
      by_cases h1 : u.oneCell' = true
      · exact h1
      · simp [AV.width, h1] at hw
    have : u.cells = #[u] := by cases u <;> simp [Value.oneCell'] at h1 <;> rfl
    rw [this]
    exact RepL.cons_iff.2 ⟨u, [], rfl, by simp [Rep], by simp [RepL]⟩

end Go.Ab

/- The abstract memory against the world; each pure operation does in the model what it does here. -/
namespace Go.Ab
set_option linter.unusedVariables false
open Go Go.RowKit

def blk (σ : St) (id : Nat) : AObj → Option Nat
  | .cells _ _ => σ.loc id
  | .tip n _ => (σ.own id n).map (·.1)
  | .row _ _ _ _ => σ.loc id
  | .map _ _ => σ.loc id

/-- A map's entries against the model's. -/
def RepE (σ : St) : List (AV × AV × Nat) → List MapEntry → Prop
  | [], ms => ms = []
  | (k, v, b) :: es, ms => ∃ m ms', ms = m :: ms' ∧ Rep σ k m.key ∧ Rep σ v m.val ∧ m.born = b ∧ RepE σ es ms'

theorem RepE.mono {σ σ' : St} (h : σ.le σ') : ∀ {es : List (AV × AV × Nat)} {ms : List MapEntry}, RepE σ es ms → RepE σ' es ms
  | [], _, k => by simpa [RepE] using k
  | (k, v, b) :: es, ms, q => by
    simp only [RepE] at q ⊢
    obtain ⟨m, ms', e, r1, r2, r3, r4⟩ := q
    exact ⟨m, ms', e, r1.mono h, r2.mono h, r3, r4.mono h⟩

/-- The blocks that are B stay as they are, whatever else comes. -/
structure BelowS (B : Nat → Prop) (w w' : World) : Prop where
  os : w'.os = w.os
  tape : w'.tape = w.tape
  output : w'.output = w.output
  size : w.heap.size ≤ w'.heap.size
  block : ∀ k, B k → w'.heap[k]? = w.heap[k]?

theorem BelowS.refl (B : Nat → Prop) (w : World) : BelowS B w w := ⟨rfl, rfl, rfl, Nat.le_refl _, fun _ _ => rfl⟩
theorem BelowS.trans {B : Nat → Prop} {a b c : World} (h : BelowS B a b) (k : BelowS B b c) : BelowS B a c :=
  ⟨k.os.trans h.os, k.tape.trans h.tape, k.output.trans h.output, Nat.le_trans h.size k.size, fun i hi => (k.block i hi).trans (h.block i hi)⟩
theorem BelowS.mono {A B : Nat → Prop} {w w' : World} (h : BelowS B w w') (k : ∀ i, A i → B i) : BelowS A w w' := ⟨h.os, h.tape, h.output, h.size, fun i hi => h.block i (k i hi)⟩
theorem BelowS.of {B : Nat → Prop} {n : Nat} {w w' : World} (h : Below n w w') (k : ∀ i, B i → i < n) : BelowS B w w' := ⟨h.os, h.tape, h.output, h.size, fun i hi => h.block i (k i hi)⟩
theorem BelowS.alloc {B : Nat → Prop} {a w : World} (h : BelowS B a w) (k : ∀ i, B i → i < w.heap.size) (o : Obj) : BelowS B a (w.alloc o) :=
  h.trans ⟨rfl, rfl, rfl, by show w.heap.size ≤ (w.heap.push o).size; simp, fun i hi => Below.heap_alloc w o i (k i hi)⟩
theorem BelowS.drew {B : Nat → Prop} {a w : World} (h : BelowS B a w) : BelowS B a w.drew := h.trans ⟨rfl, rfl, rfl, Nat.le_refl _, fun _ _ => rfl⟩

def ObjOk (P : Program) (B : Nat → Prop) (σ : St) (w : World) (id : Nat) : AObj → Prop
  | .cells te cs => ∃ b c e, σ.loc id = some b ∧ ¬ B b ∧ w.heap[b]? = some (.cells c e (0, 0)) ∧ RepL σ cs c.toList ∧ (∀ o, σ.cells b o = none) ∧ ∀ t, te = some t → e = t
  | .tip n et => ∃ b cap c s, σ.own id n = some (b, cap) ∧ ¬ B b ∧ w.heap[b]? = some (.cells c et (0, 0)) ∧ szQ P et = some s ∧ c.size = cap * s ∧ n ≤ cap ∧ cap ≤ maxLen ∧ (∀ o, n * s ≤ o → σ.cells b o = none) ∧
      ∀ m, n < m → σ.own id m = none
  | .row n et s cs => ∃ b cap c, σ.loc id = some b ∧ σ.own id 0 = some (b, cap) ∧ ¬ B b ∧ w.heap[b]? = some (.cells c et (0, 0)) ∧ szQ P et = some s ∧ s ≠ 0 ∧ c.size = cap * s ∧ n ≤ cap ∧ cap ≤ maxLen ∧
      cs.length = n * s ∧ RepL σ cs (c.toList.take (n * s)) ∧ (∀ v ∈ c.toList.take (n * s), v.oneCell' = true) ∧ ∀ o, σ.cells b o = none
  | .map es clock => ∃ b ms, σ.loc id = some b ∧ ¬ B b ∧ w.heap[b]? = some (.map ms clock) ∧ RepE σ es ms.toList ∧ ∀ o, σ.cells b o = none

/-- What is known of the library's own variables: of a block's cell that p. -/
inductive Known (P : Program) : Nat → Nat → (Value → Prop) → Prop where
  | space (g c : Nat) : P.globalNamed "strings.asciiSpace" = some g → c < 256 → Known P g c (fun v => v = .int .u8 (if Lib.isSp (UInt8.ofNat c) then 1 else 0))
  | first (g c : Nat) : P.globalNamed "unicode/utf8.first" = some g → c < 256 → Known P g c (fun v => v = .int .u8 (Lib.firstT c))
  | lo (g i : Nat) : P.globalNamed "unicode/utf8.acceptRanges" = some g → i < 16 → Known P g (2 * i) (fun v => v = .int .u8 (Lib.accLo i))
  | hi (g i : Nat) : P.globalNamed "unicode/utf8.acceptRanges" = some g → i < 16 → Known P g (2 * i + 1) (fun v => v = .int .u8 (Lib.accHi i))
  | syn (g : Nat) : P.globalNamed "strconv.ErrSyntax" = some g → Known P g 0 (fun v => v = .nilIface ∨ ∃ t p, v = .iface t p)
  | ran (g : Nat) : P.globalNamed "strconv.ErrRange" = some g → Known P g 0 (fun v => v = .nilIface ∨ ∃ t p, v = .iface t p)
  | txt (g i : Nat) (ls : List (List UInt8)) (l : List UInt8) : strTab P g = some ls → ls[i]? = some l → Known P g i (fun v => v = .string ⟨l.toArray⟩)

/-- The caller's blocks: they are there, and the library's variables that are known are among them. -/
structure Base (P : Program) (B : Nat → Prop) (W0 : World) : Prop where
  lt : ∀ k, B k → k < W0.heap.size
  tab : ∀ b o p, Known P b o p → B b ∧ ∃ v, W0.cell? ⟨b, o, none⟩ = some v ∧ p v

structure Sim (P : Program) (B : Nat → Prop) (W0 : World) (H : AHeap) (σ : St) (w : World) : Prop where
  below : BelowS B W0 w
  base : Base P B W0
  cells : ∀ b o v, σ.cells b o = some v → w.cell? ⟨b, o, none⟩ = some v
  one : ∀ b o v, σ.cells b o = some v → v.oneCell' = true
  fresh : ∀ id, H.next ≤ id → σ.loc id = none ∧ ∀ n, σ.own id n = none
  keys : ∀ id x, H.get id = some x → id < H.next
  obj : ∀ id x, H.get id = some x → ObjOk P B σ w id x
  inj : ∀ id id' x x', H.get id = some x → H.get id' = some x' → blk σ id x = blk σ id' x' → id = id'

/-- More is known than before; of the blocks that are B nothing more. -/
structure Ext (B : Nat → Prop) (σ σ' : St) : Prop where
  le : σ.le σ'
  old : ∀ b o, B b → σ'.cells b o = σ.cells b o

theorem Ext.refl (B : Nat → Prop) (σ : St) : Ext B σ σ := ⟨σ.le_refl, fun _ _ _ => rfl⟩
theorem Ext.trans {B : Nat → Prop} {a b c : St} (h : Ext B a b) (k : Ext B b c) : Ext B a c := ⟨St.le_trans h.le k.le, fun x o hx => (k.old x o hx).trans (h.old x o hx)⟩

theorem RepCells.get {σ : St} {b : Nat} : ∀ {off : Nat} {cs : List AV}, RepCells σ b off cs → ∀ j c, cs[j]? = some c → ∃ u, σ.cells b (off + j) = some u ∧ Rep σ c u
  | _, [], _, j, c, e => by simp at e
  | off, d :: ds, h, j, c, e => by
    simp only [RepCells] at h
    cases j with
    | zero => simp at e; subst e; simpa using h.1
    | succ j =>
      simp at e
      have := RepCells.get h.2 j c e
      simpa [Nat.add_assoc, Nat.add_comm 1 j] using this

theorem RepCells.list {σ : St} {b : Nat} : ∀ {off : Nat} {cs : List AV}, RepCells σ b off cs → ∃ us : List Value, RepL σ cs us ∧ ∀ j v, us[j]? = some v → σ.cells b (off + j) = some v
  | _, [], _ => ⟨[], by simp [RepL], by simp⟩
  | off, d :: ds, h => by
    simp only [RepCells] at h
    obtain ⟨⟨u, e, r⟩, q⟩ := h
    obtain ⟨us, hr, hc⟩ := RepCells.list q
    refine ⟨u :: us, RepL.cons_iff.2 ⟨u, us, rfl, r, hr⟩, ?_⟩
    intro j v hj
    cases j with
    | zero => simp at hj; subst hj; simpa using e
    | succ j => simp at hj; have := hc j v hj; simpa [Nat.add_assoc, Nat.add_comm 1 j] using this

theorem RepCells.of_list {σ : St} {b : Nat} : ∀ {off : Nat} {cs : List AV} {us : List Value}, RepL σ cs us → (∀ j v, us[j]? = some v → σ.cells b (off + j) = some v) → RepCells σ b off cs
  | _, [], _, _, _ => by simp [RepCells]
  | off, d :: ds, us, h, hc => by
    rw [RepL.cons_iff] at h
    obtain ⟨u, us', rfl, r, q⟩ := h
    simp only [RepCells]
    refine ⟨⟨u, by simpa using hc 0 u (by simp), r⟩, RepCells.of_list q ?_⟩
    intro j v hj
    have := hc (j + 1) v (by simpa using hj)
    simpa [Nat.add_assoc, Nat.add_comm 1 j] using this

theorem RepCells.drop {σ : St} {b : Nat} : ∀ {off : Nat} {cs : List AV} (n : Nat), RepCells σ b off cs → RepCells σ b (off + n) (cs.drop n)
  | _, [], n, _ => by simp [RepCells]
  | off, d :: ds, n, h => by
    cases n with
    | zero => simpa using h
    | succ n =>
      simp only [RepCells] at h
      have := RepCells.drop n h.2
      simpa [Nat.add_assoc, Nat.add_comm 1 n] using this

theorem RepRow.get {σ : St} {b s : Nat} : ∀ {off : Nat} {es : List AV}, RepRow σ b s off es → ∀ i e, es[i]? = some e →
    ∃ u, Rep σ e u ∧ u.cells.size = s ∧ ∀ j v, u.cells[j]? = some v → σ.cells b (off + i * s + j) = some v
  | _, [], _, i, e, h => by simp at h
  | off, d :: ds, h, i, e, he => by
    simp only [RepRow] at h
    cases i with
    | zero => simp at he; subst he; simpa using h.1
    | succ i =>
      simp at he
      obtain ⟨u, r, hs, hc⟩ := RepRow.get h.2 i e he
      refine ⟨u, r, hs, fun j v hj => ?_⟩
      have := hc j v hj
      rwa [show off + (i + 1) * s + j = off + s + i * s + j from by rw [Nat.add_mul]; omega]

theorem Rep.width {σ : St} {a : AV} {u : Value} (h : Rep σ a u) {n : Nat} (hw : a.width = some n) : u.cells.size = n := by
  have hl := (Rep.cells h (by rw [hw]; simp)).length
  have : a.cells.length = n := by
    cases a with
    | val v => simp only [AV.width] at hw; split at hw <;> simp at hw; subst hw; rfl
    | _ => simp [AV.width] at hw <;> subst hw <;> rfl
  simpa [this] using hl

section
variable {P : Program} {σ : St} {w : World}

theorem cell_of_row {b : Nat} {c : Array Value} {e : TypeId} {z : Nat × Nat} (h : w.heap[b]? = some (.cells c e z)) (o : Nat) : w.cell? ⟨b, o, none⟩ = c[o]? := by
  simp [World.cell?, h]

/-- A variable is read whose cells are known. -/
theorem run_loadVar {t : TypeId} {b off : Nat} {us : List Value} (hc : ∀ j v, us[j]? = some v → w.cell? ⟨b, off + j, none⟩ = some v)
    {cs : List AV} (hr : RepL σ cs us) {d : Nat} {v : AV} (h : ldA P t cs d = some v) :
    ∃ u, (loadVar t ⟨b, off + d, none⟩).run P w = .ok u w ∧ Rep σ v u := by
  unfold ldA at h
  have hl := hr.length
  cases ha : aggQ P t with
  | none => simp [ha] at h
  | some g =>
    have hu : ∃ dsc, P.underlying t = some dsc ∧ isAggD dsc = g := by
      unfold aggQ at ha
      cases hd : P.underlying t with
      | none => simp [hd] at ha
      | some dsc => exact ⟨dsc, rfl, by simpa [hd] using ha⟩
    obtain ⟨dsc, hd, hg⟩ := hu
    have hagg : (isAgg t).run P w = .ok g w := by
      unfold isAgg
      simp only [Sem.run_bind, underlying, run_program, Result.andThen_ok, hd, Sem.run_pure]
      cases dsc <;> simp [isAggD] at hg <;> subst hg <;> rfl
    cases g with
    | false =>
      simp only [ha] at h
      obtain ⟨u, hu, ru⟩ := hr.get h
      refine ⟨u, ?_, ru⟩
      simp [loadVar, hagg, hc d u hu]
    | true =>
      simp only [ha] at h
      cases hn : szQ P t with
      | none => simp [hn] at h
      | some n =>
        simp only [hn] at h
        split at h
        · rename_i hle
          simp only [Option.some.injEq] at h
          subst h
          have hsz : (sizeOf t).run P w = .ok n w := by
            unfold szQ at hn
            cases hi : P.info? t with
            | none => simp [hi] at hn
            | some i => simp [hi] at hn; simp [sizeOf, typeInfo, hi, hn]
          refine ⟨.agg ((us.drop d).take n).toArray, ?_, ?_⟩
          · have hlen : ((us.drop d).take n).length = n := by simp; omega
            have := run_loadCells_list (P := P) (w := w) ⟨b, off + d, none⟩ ((us.drop d).take n) (by
              intro j v hj
              have hjn : j < n := by
                rcases Nat.lt_or_ge j n with h' | h'
                · exact h'
                · rw [List.getElem?_eq_none (by omega)] at hj; cases hj
              rw [List.getElem?_take_of_lt hjn, List.getElem?_drop] at hj
              have := hc (d + j) v hj
              by_cases hj0 : j = 0
              · subst hj0; simpa [Addr.add] using this
              · simpa [Addr.add, hj0, Nat.add_assoc] using this)
            rw [hlen] at this
            simp [loadVar, hagg, hsz, this]
          · simp only [Rep]
            exact ⟨_, rfl, (hr.drop d).take n⟩
        · cases h

end
end Go.Ab

/- Each pure operation does in the model what it does to abstract values. -/
namespace Go.Ab
set_option linter.unusedVariables false
open Go Go.RowKit

section
variable {P : Program} {B : Nat → Prop} {W0 : World} {H : AHeap} {σ : St} {w : World}

theorem szQ_run {t : TypeId} {n : Nat} (h : szQ P t = some n) : (sizeOf t).run P w = .ok n w := by
  unfold szQ at h
  cases hi : P.info? t with
  | none => simp [hi] at h
  | some i => simp [hi] at h; simp [sizeOf, typeInfo, hi, h]

theorem under_run {t : TypeId} {d : TypeDesc} (h : P.underlying t = some d) : (underlying t).run P w = .ok d w := by
  simp [underlying, h]

theorem fieldsQ_spec {t : TypeId} {fs : List (Nat × TypeId)} (h : fieldsQ P t = some fs) : ∃ gs : Array Field, P.underlying t = some (.struct gs) ∧ fs = gs.toList.map fun f => (f.offset, f.type) := by
  unfold fieldsQ at h
  split at h
  · rename_i gs hg; simp at h; exact ⟨gs, hg, h.symm⟩
  · cases h

theorem elemQ_spec {t e : TypeId} (h : elemQ P t = some e) : P.underlying t = some (.slice e) := by
  unfold elemQ at h
  split at h
  · rename_i e' hg; simp at h; subst h; exact hg
  · cases h

theorem isStrQ_spec {t : TypeId} (h : isStrQ P t = true) : P.underlying t = some .string := by
  unfold isStrQ at h
  split at h
  · rename_i hg; exact hg
  · cases h

theorem intQ_spec {t : TypeId} {k : IntKind} (h : intQ P t = some k) : P.underlying t = some (.int k) := by
  unfold intQ at h
  split at h
  · rename_i k' hg; simp at h; subst h; exact hg
  · cases h

/-- What is asked of a pure operation. -/
def PureOk (P : Program) (σ : St) (w : World) (v : AV) (s : Sem Next) : Prop := ∃ u, s.run P w = .ok (.value u) w ∧ Rep σ v u

theorem PureOk.of_sem {v : AV} {s : Sem Value} {u : Value} (h : s.run P w = .ok u w) (r : Rep σ v u) : PureOk P σ w v (do pure (.value (← s))) :=
  ⟨u, by simp [h], r⟩

theorem pure_load {t : TypeId} {a : AV} {u : Value} {v : AV} (hs : Sim P B W0 H σ w) (hr : Rep σ a u)
    (h : loadA P H t a = some v) : PureOk P σ w v (do pure (.value (← Instr.loadAt t u))) := by
  cases a with
  | rptr cs =>
    simp only [loadA] at h
    simp only [Rep] at hr
    obtain ⟨b, off, rfl, rc⟩ := hr
    obtain ⟨us, rl, hc⟩ := rc.list
    obtain ⟨x, hx, rx⟩ := run_loadVar (P := P) (w := w) (fun j v hj => hs.cells _ _ _ (hc j v hj)) rl h
    exact .of_sem (u := x) (by simpa [Instr.loadAt, Instr.sureAddr] using hx) rx
  | ptr id off =>
    simp only [loadA] at h
    simp only [Rep] at hr
    obtain ⟨b, hb, rfl⟩ := hr
    split at h
    · rename_i cs hg
      obtain ⟨b', c, e, hb', _, hh, rl, _⟩ := hs.obj id _ hg
      rw [hb] at hb'
      cases hb'
      obtain ⟨x, hx, rx⟩ := run_loadVar (P := P) (w := w) (b := b) (off := 0) (us := c.toList) (fun j v hj => by
        rw [cell_of_row hh]; simpa using hj) rl h
      exact .of_sem (u := x) (by simpa [Instr.loadAt, Instr.sureAddr] using hx) rx
    · rename_i n et s cs hg
      obtain ⟨b', cap, c, hb', _, _, hh, _, _, hsz, hle, _, hl, rl, _⟩ := hs.obj id _ hg
      rw [hb] at hb'
      cases hb'
      obtain ⟨x, hx, rx⟩ := run_loadVar (P := P) (w := w) (b := b) (off := 0) (us := c.toList.take (n * s)) (fun j v hj => by
        have hjl : j < n * s := by have := (List.getElem?_eq_some_iff.1 hj).1; simp at this; omega
        rw [List.getElem?_take_of_lt hjl] at hj
        rw [cell_of_row hh]; simpa using hj) rl h
      exact .of_sem (u := x) (by simpa [Instr.loadAt, Instr.sureAddr] using hx) rx
    · cases h
  | val x =>
    simp only [loadA] at h
    simp only [Rep] at hr
    subst hr
    cases hg : globOf u with
    | none => simp [hg] at h
    | some g =>
      cases hT : strTab P g with
      | none => simp [hg, hT] at h
      | some ls =>
        simp only [hg, hT] at h
        have hu : u = .pointer (some ⟨g, 0, none⟩) := by
          unfold globOf at hg
          split at hg
          · simp only [Option.some.injEq] at hg
            subst hg
            rfl
          · cases hg
        subst hu
        have rl : RepL σ (ls.map AV.str) (ls.map fun l => Value.string ⟨l.toArray⟩) := by
          clear h hT
          induction ls with
          | nil => simp [RepL]
          | cons l ls ih => exact ⟨_, _, rfl, by simp [Rep], ih⟩
        obtain ⟨x, hx, rx⟩ := run_loadVar (P := P) (w := w) (b := g) (off := 0) (us := ls.map fun l => Value.string ⟨l.toArray⟩) (fun j v hj => by
          rw [List.getElem?_map] at hj
          simp only [Option.map_eq_some_iff] at hj
          obtain ⟨l, hl, rfl⟩ := hj
          obtain ⟨hB, v, hv, rfl⟩ := hs.base.tab g j _ (.txt g j ls l hT hl)
          have h1 := hs.below.block g hB
          rw [Nat.zero_add]
          simpa only [World.cell?, h1] using hv) rl h
        exact .of_sem (u := x) (by simpa [Instr.loadAt, Instr.sureAddr] using hx) rx
  | _ => simp [loadA] at h

theorem Addr.add_mk (b o n : Nat) : (⟨b, o, none⟩ : Addr).add n = ⟨b, o + n, none⟩ := by
  unfold Addr.add
  split
  · rename_i h; subst h; rfl
  · rfl

theorem pure_fieldAddr {s : TypeId} {a : AV} {u : Value} {v : AV} {f : Nat} (hr : Rep σ a u)
    (h : fieldAddrA P s f a = some v) : PureOk P σ w v (do pure (.value (← Instr.fieldAt s u f))) := by
  unfold fieldAddrA at h
  split at h
  · rename_i fs hfs
    obtain ⟨gs, hg, rfl⟩ := fieldsQ_spec hfs
    split at h
    · rename_i off ft hf
      rw [List.getElem?_map] at hf
      obtain ⟨g, hgf, hge⟩ := Option.map_eq_some_iff.1 hf
      rw [Array.getElem?_toList] at hgf
      have ho : g.offset = off := congrArg Prod.fst hge
      have ht : g.type = ft := congrArg Prod.snd hge
      split at h
      · cases h
      · rename_i hne
        have hne' : ∃ n, szQ P ft = some n ∧ n ≠ 0 := by
          cases hn : szQ P ft with
          | none => exact absurd (.inr hn) hne
          | some n => exact ⟨n, rfl, fun e => hne (.inl (by rw [hn, e]))⟩
        obtain ⟨n, hn, hn0⟩ := hne'
        have hrun : ∀ b o, (Instr.fieldAt s (.pointer (some ⟨b, o, none⟩)) f).run P w = .ok (.pointer (some ⟨b, o + off, none⟩)) w := by
          intro b o
          simp [Instr.fieldAt, under_run hg, hgf, Instr.sureAddr, fieldPlace, ht, szQ_run hn, hn0, ho, Addr.add_mk]
        cases a with
        | ptr id o =>
          simp only at h
          simp only [Rep] at hr
          obtain ⟨b, hb, rfl⟩ := hr
          cases h
          exact .of_sem (hrun b o) (by simp only [Rep]; exact ⟨b, hb, rfl⟩)
        | rptr cs =>
          simp only at h
          simp only [Rep] at hr
          obtain ⟨b, o, rfl, rc⟩ := hr
          split at h
          · cases h
            exact .of_sem (hrun b o) (by simp only [Rep]; exact ⟨b, o + off, rfl, rc.drop off⟩)
          · cases h
        | _ => simp at h
    · cases h
  · cases h

theorem pure_indexAddr {t : TypeId} {a i : AV} {u x : Value} {v : AV} (hr : Rep σ a u) (hi : Rep σ i x)
    (h : indexAddrA P t a i = some v) : PureOk P σ w v (do pure (.value (← Instr.indexAt t u x))) := by
  cases a with
  | vec o es =>
   cases i with
   | int k n =>
    simp only [indexAddrA] at h
    simp only [Rep] at hr hi
    subst hi
    obtain ⟨ad, cap, rfl, hle, ho, hrow⟩ := hr
    split at h
    · rename_i hn0
      split at h
      · rename_i e he
        split at h
        · rename_i et het
          split at h
          · rename_i hsz
            cases h
            have hu := elemQ_spec het
            have hlt : n.toNat < es.length := (List.getElem?_eq_some_iff.1 he).1
            obtain ⟨s, hs⟩ := Option.ne_none_iff_exists'.1 hsz.2
            have hw : e.width = some s := hsz.1 ▸ hs
            rcases hrow with rfl | ⟨b, off, s', rfl, row⟩
            · simp at hlt
            · obtain ⟨y, ry, hys, hyc⟩ := row.get n.toNat e he
              have hss : s' = s := by rw [← hys]; exact ry.width hw
              subst hss
              refine .of_sem (u := .pointer (some ⟨b, off + n.toNat * s', none⟩)) ?_ ?_
              · have hlt' : n < (es.length : Int) := by omega
                simp [Instr.indexAt, asIntOf, under_run hu, hn0, hlt', szQ_run hs, Addr.add_mk]
              · simp only [Rep]
                refine ⟨b, _, rfl, RepCells.of_list (ry.cells (by rw [hw]; simp)) ?_⟩
                intro j v hj
                exact hyc j v (by simpa using hj)
          · cases h
        · cases h
      · cases h
    · cases h
   | _ => simp [indexAddrA] at h
  | sl id s off len =>
   cases i with
   | int k n =>
    simp only [indexAddrA] at h
    simp only [Rep] at hr hi
    subst hi
    obtain ⟨b, cap, hloc, _, rfl, hle⟩ := hr
    split at h
    · rename_i hn
      split at h
      · rename_i et het
        split at h
        · rename_i hsz
          cases h
          have hu := elemQ_spec het
          refine .of_sem (u := .pointer (some ⟨b, (off + n.toNat) * s, none⟩)) ?_ ?_
          · have hlt' : n < (len : Int) := by omega
            simp [Instr.indexAt, asIntOf, under_run hu, hn.1, hlt', szQ_run hsz.1, Addr.add_mk, Nat.add_mul]
          · simp only [Rep]
            exact ⟨b, hloc, rfl⟩
        · cases h
      · cases h
    · cases h
   | _ => simp [indexAddrA] at h
  | _ => simp [indexAddrA] at h

theorem pure_index {t : TypeId} {a i : AV} {u x : Value} {v : AV} (hr : Rep σ a u) (hi : Rep σ i x)
    (h : indexA P t a i = some v) : PureOk P σ w v (do pure (.value (← Instr.index t u x))) := by
  cases a with
  | str l =>
   cases i with
   | int k n =>
    simp only [indexA] at h
    simp only [Rep] at hr hi
    subst hi hr
    split at h
    · rename_i hc
      split at h
      · rename_i b hb
        cases h
        refine .of_sem (u := .int .u8 b.toNat) ?_ (by simp [Rep])
        have hlt : n.toNat < l.length := (List.getElem?_eq_some_iff.1 hb).1
        have hb' : (⟨l.toArray⟩ : ByteArray)[n.toNat]? = some b := by
          have : n.toNat < (⟨l.toArray⟩ : ByteArray).size := by simpa [ByteArray.size] using hlt
          rw [getElem?_pos (⟨l.toArray⟩ : ByteArray) n.toNat this]
          have h2 := (List.getElem?_eq_some_iff.1 hb).2
          simp only [Option.some.injEq]
          rw [← h2]
          rfl
        simp [Instr.index, asIntOf, under_run (isStrQ_spec hc.1), hc.2, hb']
      · cases h
    · cases h
   | _ => simp [indexA] at h
  | agg cs =>
   cases i with
   | int k n =>
    simp only [indexA] at h
    simp only [Rep] at hr hi
    subst hi
    obtain ⟨us, rfl, rl⟩ := hr
    unfold arrQ at h
    split at h
    · rename_i len el hu
      split at hu
      · rename_i len' el' hu'
        simp only [Option.some.injEq, Prod.mk.injEq] at hu
        obtain ⟨rfl, rfl⟩ := hu
        split at h
        · rename_i hc
          obtain ⟨h0, h1, h2, h3⟩ := hc
          obtain ⟨y, hy, ry⟩ := rl.get h
          refine .of_sem (u := y) ?_ ry
          have ha : (isAgg el').run P w = .ok false w := by
            unfold aggQ at h2
            simp only [Option.map_eq_some_iff] at h2
            obtain ⟨d, hd, hd2⟩ := h2
            simp [isAgg, under_run hd]
            cases d <;> simp_all [isAggD]
          simp [Instr.index, asIntOf, under_run hu', h0, h1, szQ_run h3, part, ha, hy]
        · cases h
      · cases hu
    · cases h
   | _ => simp [indexA] at h
  | _ => simp [indexA] at h

end
end Go.Ab

/- Each pure operation does in the model what it does to abstract values: the second part, and all together. -/
namespace Go.Ab
set_option linter.unusedVariables false
open Go Go.RowKit

section
variable {P : Program} {B : Nat → Prop} {W0 : World} {H : AHeap} {σ : St} {w : World}

theorem Rep.ofV1 : ∀ (v : Value), Rep σ (ofV1 v) v
  | .int _ _ => by simp [Ab.ofV1, Rep]
  | .bool _ => by simp [Ab.ofV1, Rep]
  | .string s => by simp [Ab.ofV1, Rep]
  | .slice a n c => by
    unfold Ab.ofV1
    split <;> simp_all [Rep, OwnOk]
  | .float _ _ => by simp [Ab.ofV1, Rep]
  | .complex _ _ _ => by simp [Ab.ofV1, Rep]
  | .pointer _ => by simp [Ab.ofV1, Rep]
  | .map _ => by simp [Ab.ofV1, Rep]
  | .chan _ => by simp [Ab.ofV1, Rep]
  | .func _ _ _ => by simp [Ab.ofV1, Rep]
  | .nilFunc => by simp [Ab.ofV1, Rep]
  | .iface _ _ => by simp [Ab.ofV1, Rep]
  | .nilIface => by simp [Ab.ofV1, Rep]
  | .agg _ => by simp [Ab.ofV1, Rep]
  | .tuple _ => by simp [Ab.ofV1, Rep]

theorem RepL.ofV1 (l : List Value) : RepL σ (l.map Ab.ofV1) l := by
  have := RepL.map (σ := σ) Ab.ofV1 id l fun x _ => Rep.ofV1 x
  simpa using this

theorem Rep.ofV (v : Value) : Rep σ (ofV v) v := by
  cases v with
  | agg cs => simp only [Ab.ofV, Rep]; exact ⟨cs.toList, by simp, RepL.ofV1 _⟩
  | _ => unfold Ab.ofV; exact Rep.ofV1 _

theorem RepL.of_get : ∀ {cs : List AV} {us : List Value}, us.length = cs.length → (∀ (i : Nat) (c : AV) (u : Value), cs[i]? = some c → us[i]? = some u → Rep σ c u) → RepL σ cs us
  | [], us, hl, _ => by simp at hl; subst hl; simp [RepL]
  | c :: cs, [], hl, _ => by simp at hl
  | c :: cs, u :: us, hl, h => RepL.cons_iff.2 ⟨u, us, rfl, h 0 c u (by simp) (by simp), RepL.of_get (by simpa using hl) fun i c' u' hc hu => h (i + 1) c' u' (by simpa using hc) (by simpa using hu)⟩

theorem overlay_get (off : Nat) : ∀ (vs : List Value) (k : Nat) (cs : Array Value), off + k + vs.length ≤ cs.size → ∀ (i : Nat),
    ((vs.zipIdx k).foldl (fun (cs : Array Value) (p : Value × Nat) => cs.setIfInBounds (off + p.2) p.1) cs)[i]? = if off + k ≤ i ∧ i < off + k + vs.length then vs[i - (off + k)]? else cs[i]?
  | [], k, cs, _, i => by
    simp only [List.zipIdx_nil, List.foldl_nil, List.length_nil]
    rw [if_neg (by omega)]
  | v :: vs, k, cs, h, i => by
    simp only [List.zipIdx_cons, List.foldl_cons, List.length_cons] at h ⊢
    rw [overlay_get off vs (k + 1) _ (by simp; omega)]
    by_cases h1 : i = off + k
    · subst h1
      rw [if_neg (by omega), if_pos (by omega)]
      simp [show off + k < cs.size from by omega]
    · by_cases h2 : off + (k + 1) ≤ i ∧ i < off + (k + 1) + vs.length
      · rw [if_pos h2, if_pos (by omega), show i - (off + k) = (i - (off + (k + 1))) + 1 from by omega, List.getElem?_cons_succ]
      · rw [if_neg h2, if_neg (by omega), Array.getElem?_setIfInBounds_ne (by omega)]

theorem overlay_fold (off : Nat) (vs : List Value) (cs : Array Value) (h : off + vs.length ≤ cs.size) :
    ((vs.zipIdx 0).foldl (fun (cs : Array Value) (p : Value × Nat) => cs.setIfInBounds (off + p.2) p.1) cs).toList = cs.toList.take off ++ vs ++ cs.toList.drop (off + vs.length) := by
  apply List.ext_getElem?
  intro i
  rw [Array.getElem?_toList, overlay_get off vs 0 cs (by omega)]
  simp only [Nat.add_zero]
  by_cases h1 : i < off
  · rw [if_neg (by omega), List.append_assoc, List.getElem?_append_left (by simp; omega), List.getElem?_take_of_lt h1, Array.getElem?_toList]
  · rw [List.append_assoc, List.getElem?_append_right (by simp; omega)]
    simp only [List.length_take, Array.length_toList]
    rw [show min off cs.size = off from by omega]
    by_cases h2 : i < off + vs.length
    · rw [if_pos (by omega), List.getElem?_append_left (by omega)]
    · rw [if_neg (by omega), List.getElem?_append_right (by omega), List.getElem?_drop, Array.getElem?_toList]
      congr 1
      omega

theorem fill_rep (place : Nat → Option (Nat × Nat)) : ∀ (parts : List (Nat × AV)) (us : List (Nat × Value)) (cs : List AV) (xs : Array Value) (out : List AV),
    us.map (·.1) = parts.map (·.1) → (∀ (i : Nat) (p : Nat × AV) (u : Nat × Value), parts[i]? = some p → us[i]? = some u → Rep σ p.2 u.2) → RepL σ cs xs.toList → fillA place cs parts = some out →
    ∃ ys, Instr.fill place xs us = some ys ∧ RepL σ out ys.toList
  | [], us, cs, xs, out, hu, _, hr, h => by
    simp at hu
    subst hu
    simp [fillA] at h
    subst h
    exact ⟨xs, rfl, hr⟩
  | (i, v) :: parts, us, cs, xs, out, hu, hp, hr, h => by
    cases us with
    | nil => simp at hu
    | cons u us =>
      obtain ⟨j, x⟩ := u
      simp only [List.map_cons, List.cons.injEq] at hu
      obtain ⟨rfl, hu⟩ := hu
      have rx : Rep σ v x := hp 0 (j, v) (j, x) (by simp) (by simp)
      simp only [fillA] at h
      simp only [Instr.fill]
      cases hpl : place j with
      | none => simp [hpl] at h
      | some q =>
        obtain ⟨off, n⟩ := q
        simp only [hpl] at h ⊢
        split at h
        · rename_i hc
          obtain ⟨hw, hle⟩ := hc
          have hxs : x.cells.size = n := rx.width hw
          have hlen := hr.length
          simp only [Array.length_toList] at hlen
          rw [if_neg (by simp [hxs]; omega)]
          have hcells := rx.cells (by rw [hw]; simp)
          have hcl := hcells.length
          simp only [Array.length_toList] at hcl
          refine fill_rep place parts us _ _ out hu (fun i p u hi hj => hp (i + 1) p u (by simpa using hi) (by simpa using hj)) ?_ h
          have hf := overlay_fold off x.cells.toList xs (by simp; omega)
          rw [← Array.foldl_toList, Array.toList_zipIdx]
          rw [hf]
          unfold overlay
          refine ((hr.take _).append hcells).append ?_
          have := hr.drop (off + v.cells.length)
          rwa [← hcl] at this ⊢
        · cases h

theorem zeroQ_spec {t : TypeId} {z : List AV} (h : zeroQ P t = some z) : ∃ i v, P.info? t = some i ∧ i.zero = some v ∧ z = v.cells.toList.map Ab.ofV1 := by
  unfold zeroQ at h
  split at h
  · rename_i i hi
    obtain ⟨v, hv, e⟩ := Option.map_eq_some_iff.1 h
    exact ⟨i, v, hi, hv, e.symm⟩
  · cases h

theorem fill_le {p q : Nat → Option (Nat × Nat)} (h : ∀ i x, p i = some x → q i = some x) : ∀ (us : List (Nat × Value)) (cs r : Array Value), Instr.fill p cs us = some r → Instr.fill q cs us = some r
  | [], cs, r, e => e
  | (i, v) :: us, cs, r, e => by
    simp only [Instr.fill] at e ⊢
    cases hp : p i with
    | none => simp [hp] at e
    | some x =>
      obtain ⟨off, n⟩ := x
      rw [h i _ hp]
      simp only [hp] at e ⊢
      split at e
      · cases e
      · rename_i hc
        rw [if_neg hc]
        exact fill_le h us _ r e

theorem pure_build {t : TypeId} {parts : List (Nat × AV)} {us : Array (Nat × Value)} {v : AV}
    (hu : us.toList.map (·.1) = parts.map (·.1)) (hp : ∀ (i : Nat) (p : Nat × AV) (u : Nat × Value), parts[i]? = some p → us.toList[i]? = some u → Rep σ p.2 u.2)
    (h : buildA P t parts = some v) : PureOk P σ w v (do pure (.value (← Instr.build t us))) := by
  unfold buildA at h
  split at h
  · rename_i z fs hz hfs
    split at h
    · rename_i cs hcs
      cases h
      obtain ⟨i, zv, hi, hzv, rfl⟩ := zeroQ_spec hz
      obtain ⟨ys, hys, ry⟩ := fill_rep (σ := σ) (fs[·]?) parts us.toList _ zv.cells cs hu hp (RepL.ofV1 _) hcs
      have hb : P.built t us.toList = some ys := by
        unfold placesQ at hfs
        split at hfs
        · rename_i gs hg
          simp only [Program.built, hi, hg, hzv, hfs]
          simpa using hys
        · rename_i n el hg
          obtain ⟨ie, hie, rfl⟩ := Option.map_eq_some_iff.1 hfs
          simp only [Program.built, hi, hg, hzv, hie]
          refine fill_le (fun i x hx => ?_) _ _ _ hys
          rw [List.getElem?_map] at hx
          obtain ⟨j, hj, rfl⟩ := Option.map_eq_some_iff.1 hx
          have := List.getElem?_eq_some_iff.1 hj
          obtain ⟨h1, h2⟩ := this
          simp at h2
          rw [h2]
        · cases hfs
      refine .of_sem (run_build w t us ys hb) ?_
      simp only [Rep]
      exact ⟨ys.toList, by simp, ry⟩
    · cases h
  · cases h

theorem intBin_ok {op : BinOp} {k : IntKind} {a b : Int} {v : AV} (h : intBin op k a b = some v) : ∃ u, (binOp op 0 (.int k a) (.int k b)).run P w = .ok u w ∧ Rep σ v u := by
  unfold intBin at h
  cases op <;> simp only [Option.some.injEq, reduceCtorEq] at h <;> (try (split at h)) <;> (try (simp only [Option.some.injEq, reduceCtorEq] at h)) <;> (try subst h) <;>
    first
      | (simp_all [binOp, Op.intArith, Op.intDiv, Op.intCmp, Rep]; done)
      | (cases h)

end
end Go.Ab

/- All pure operations together. -/
namespace Go.Ab
set_option linter.unusedVariables false
open Go Go.RowKit

section
variable {P : Program} {B : Nat → Prop} {W0 : World} {H : AHeap} {σ : St} {w : World}

theorem ldA_part {t : TypeId} {cs : List AV} {us : List Value} (hr : RepL σ cs us) {d : Nat} {v : AV} (h : ldA P t cs d = some v) : ∃ u, (part t us.toArray d).run P w = .ok u w ∧ Rep σ v u := by
  unfold ldA at h
  have hl := hr.length
  cases ha : aggQ P t with
  | none => simp [ha] at h
  | some g =>
    have hu : ∃ dsc, P.underlying t = some dsc ∧ isAggD dsc = g := by
      unfold aggQ at ha
      cases hd : P.underlying t with
      | none => simp [hd] at ha
      | some dsc => exact ⟨dsc, rfl, by simpa [hd] using ha⟩
    obtain ⟨dsc, hd, hg⟩ := hu
    have hagg : (isAgg t).run P w = .ok g w := by
      unfold isAgg
      simp only [Sem.run_bind, underlying, run_program, Result.andThen_ok, hd, Sem.run_pure]
      cases dsc <;> simp [isAggD] at hg <;> subst hg <;> rfl
    cases g with
    | false =>
      simp only [ha] at h
      obtain ⟨u, hu, ru⟩ := hr.get h
      exact ⟨u, by simp [part, hagg, hu], ru⟩
    | true =>
      simp only [ha] at h
      cases hn : szQ P t with
      | none => simp [hn] at h
      | some n =>
        simp only [hn] at h
        split at h
        · rename_i hle
          cases h
          refine ⟨.agg (us.toArray.extract d (d + n)), by simp [part, hagg, szQ_run hn], ?_⟩
          simp only [Rep]
          refine ⟨(us.drop d).take n, ?_, (hr.drop d).take n⟩
          congr 1
          apply Array.ext'
          simp
        · cases h

def kindOk (P : Program) (t : TypeId) : EK → Prop
  | .int => ∃ k, P.underlying t = some (.int k)
  | .bool => P.underlying t = some .bool
  | .str => P.underlying t = some .string

theorem eqCell_ok {k : EK} {x y : AV} {b : Bool} (h : eqCell k x y = some b) {t : TypeId} {d : Nat} {u z : Value} (ru : Rep σ x u) (rz : Rep σ y z) (ht : kindOk P t k) : (Op.equalIn (d + 1) t u z).run P w = .ok b w := by
  cases k <;> cases x <;> simp only [eqCell, reduceCtorEq] at h <;> cases y <;> simp only [reduceCtorEq] at h <;> simp only [Rep] at ru rz <;> subst ru rz
  case int.int.int k1 n1 k2 n2 =>
    split at h
    · rename_i hk
      subst hk
      cases h
      obtain ⟨k', hk'⟩ := ht
      exact run_equalIn_int w d t _ _ _ _ hk'
    · cases h
  case bool.bool.bool => cases h; exact run_equalIn_bool' w d t _ _ ht
  case str.str.str =>
    cases h
    rw [run_equalIn_string w d t _ _ ht]
    simp

theorem eqCell_cells {k : EK} {x y : AV} {b : Bool} (h : eqCell k x y = some b) : x.cells = [x] ∧ y.cells = [y] := by
  cases k <;> cases x <;> simp only [eqCell, reduceCtorEq] at h <;> cases y <;> simp only [reduceCtorEq] at h <;> exact ⟨rfl, rfl⟩

theorem eqCells_split : ∀ {ks ls : List EK} {xs ys : List AV} {b : Bool}, eqCells (ks ++ ls) xs ys = some b → ∃ b1 b2, eqCells ks (xs.take ks.length) (ys.take ks.length) = some b1 ∧ eqCells ls (xs.drop ks.length) (ys.drop ks.length) = some b2 ∧ b = (b1 && b2) ∧ ks.length ≤ xs.length ∧ ks.length ≤ ys.length
  | [], ls, xs, ys, b, h => ⟨true, b, by simp [eqCells], by simpa using h, by simp, by simp, by simp⟩
  | k :: ks, ls, [], ys, b, h => by cases ys <;> simp [eqCells] at h
  | k :: ks, ls, x :: xs, [], b, h => by simp [eqCells] at h
  | k :: ks, ls, x :: xs, y :: ys, b, h => by
    simp only [List.cons_append, eqCells] at h
    cases hc : eqCell k x y with
    | none => simp [hc] at h
    | some b0 =>
      simp only [hc] at h
      cases hr : eqCells (ks ++ ls) xs ys with
      | none => simp [hr] at h
      | some r =>
        simp only [hr, Option.some.injEq] at h
        obtain ⟨b1, b2, h1, h2, h3, h4, h5⟩ := eqCells_split hr
        refine ⟨b0 && b1, b2, ?_, by simpa using h2, ?_, by simp; omega, by simp; omega⟩
        · simp only [List.length_cons, List.take_succ_cons, eqCells, hc, h1]
        · rw [← h, h3, Bool.and_assoc]

/-- Two values that are compared cell by cell: two structs; or two of one cell. -/
def EqArg (P : Program) (t : TypeId) (ks : List EK) (x y : AV) (b : Bool) : Prop :=
  (∃ xs ys, x = .agg xs ∧ y = .agg ys ∧ aggQ P t = some true ∧ eqCells ks xs ys = some b) ∨ (∃ k, ks = [k] ∧ aggQ P t = some false ∧ eqCell k x y = some b)

theorem eqFs_ok {g : TypeId → Option (List EK)} {d : Nat} {xs ys : List AV} {us zs : List Value} (ru : RepL σ xs us) (rz : RepL σ ys zs)
    (ih : ∀ (t : TypeId) (ks : List EK) (x y : AV) (u z : Value) (b : Bool), g t = some ks → Rep σ x u → Rep σ y z → EqArg P t ks x y b → (Op.equalIn d t u z).run P w = .ok b w) :
    ∀ (fs : List Field) (off : Nat) (ks : List EK) (b : Bool), eqFs P g off fs = some ks → eqCells ks (xs.drop off) (ys.drop off) = some b → (Op.eqFields d us.toArray zs.toArray fs).run P w = .ok b w
  | [], off, ks, b, h, hb => by
    simp only [eqFs, Option.some.injEq] at h
    subst h
    have : b = true := by
      cases hx : xs.drop off <;> cases hy : ys.drop off <;> simp [hx, hy, eqCells] at hb
      exact hb
    subst this
    simp [Op.eqFields]
  | f :: fs, off, ks, b, h, hb => by
    simp only [eqFs] at h
    split at h
    · cases h
    · rename_i hn
      cases hg : g f.type with
      | none => simp [hg] at h
      | some k1 =>
        simp only [hg] at h
        split at h
        · rename_i hsz
          cases hr : eqFs P g (off + k1.length) fs with
          | none => simp [hr] at h
          | some k2 =>
            simp only [hr, Option.some.injEq] at h
            subst h
            obtain ⟨b1, b2, h1, h2, h3, h4, h5⟩ := eqCells_split hb
            simp only [List.drop_drop] at h2
            simp only [List.length_drop] at h4 h5
            obtain ⟨hsz1, hsz2, hsz3⟩ := hsz
            have hname : f.name ≠ "_" := fun e => hn (.inl e)
            have hoff : f.offset = off := by
              rcases Nat.decEq f.offset off with hne | he
              · exact absurd (.inr hne) hn
              · exact he
            have rest := eqFs_ok ru rz ih fs (off + k1.length) k2 b2 hr h2
            obtain ⟨vx, vy, e1, e2, e3⟩ : ∃ vx vy, ldA P f.type xs off = some vx ∧ ldA P f.type ys off = some vy ∧ EqArg P f.type k1 vx vy b1 := by
              rcases hsz3 with ha | ⟨ha, h11⟩
              · refine ⟨_, _, by unfold ldA; simp only [ha, hsz1]; rw [if_pos (by omega)], by unfold ldA; simp only [ha, hsz1]; rw [if_pos (by omega)], ?_⟩
                exact .inl ⟨_, _, rfl, rfl, ha, h1⟩
              · obtain ⟨k, rfl⟩ := List.length_eq_one_iff.1 h11
                have hx : off < xs.length := by simp at h4; omega
                have hy : off < ys.length := by simp at h5; omega
                refine ⟨xs[off], ys[off], by unfold ldA; simp [ha, hx], by unfold ldA; simp [ha, hy], ?_⟩
                rw [List.drop_eq_getElem_cons hx, List.drop_eq_getElem_cons hy] at h1
                simp only [List.length_singleton, List.take_succ_cons, List.take_zero] at h1
                simp only [eqCells] at h1
                cases hq : eqCell k xs[off] ys[off] with
                | none => simp [hq] at h1
                | some b' =>
                  simp only [hq, Bool.and_true, Option.some.injEq] at h1
                  subst h1
                  exact .inr ⟨k, rfl, ha, hq⟩
            obtain ⟨u1, p1, r1⟩ := ldA_part (P := P) (w := w) ru e1
            obtain ⟨u2, p2, r2⟩ := ldA_part (P := P) (w := w) rz e2
            have he := ih f.type k1 vx vy u1 u2 b1 hg r1 r2 e3
            simp only [Op.eqFields, hname, ne_eq, not_false_eq_true, if_true, hoff, Sem.run_bind, p1, p2, he, Result.andThen_ok]
            subst h3
            cases b1 with
            | true => simpa using rest
            | false => simp
        · cases h

theorem eqQ_ok : ∀ (d : Nat) (t : TypeId) (ks : List EK) (x y : AV) (u z : Value) (b : Bool) (e : Nat), d ≤ e → eqQ P d t = some ks → Rep σ x u → Rep σ y z → EqArg P t ks x y b → (Op.equalIn e t u z).run P w = .ok b w
  | 0, t, ks, x, y, u, z, b, e, _, h, _, _, _ => by simp [eqQ] at h
  | d + 1, t, ks, x, y, u, z, b, 0, he, _, _, _, _ => by omega
  | d + 1, t, ks, x, y, u, z, b, e + 1, he, h, ru, rz, hb => by
    simp only [eqQ] at h
    have one : ∀ k, some [k] = some ks → kindOk P t k → aggQ P t = some false → (Op.equalIn (e + 1) t u z).run P w = .ok b w := by
      rintro k hk ho hag
      rcases hb with ⟨xs, ys, _, _, h1, _⟩ | ⟨k', h1, _, h3⟩
      · rw [hag] at h1; cases h1
      · subst h1
        simp only [Option.some.injEq, List.cons.injEq, and_true] at hk
        subst hk
        exact eqCell_ok h3 ru rz ho
    split at h
    · rename_i hu; exact one .bool h hu (by simp [aggQ, hu, isAggD])
    · rename_i k hu; exact one .int h ⟨k, hu⟩ (by simp [aggQ, hu, isAggD])
    · rename_i hu; exact one .str h hu (by simp [aggQ, hu, isAggD])
    · rename_i fs hu
      split at h
      · cases h
      · rename_i hn
        have hst : P.stoodInHeld t = false := by
          cases hs : P.stoodInHeld t
          · rfl
          · exact absurd (.inl hs) hn
        rcases hb with ⟨xs, ys, rfl, rfl, _, h2⟩ | ⟨k', _, h1, _⟩
        · simp only [Rep] at ru rz
          obtain ⟨us, rfl, r1⟩ := ru
          obtain ⟨zs, rfl, r2⟩ := rz
          have hfo : P.fieldsOf t = fs := by simp [Program.fieldsOf, hu]
          rw [run_equalIn_struct w e t _ _ (by rw [hfo]; exact hu) hst, hfo]
          exact eqFs_ok r1 r2 (fun t ks x y u z b h1 h2 h3 h4 => eqQ_ok d t ks x y u z b e (by omega) h1 h2 h3 h4) fs.toList 0 ks b h (by simpa using h2)
        · simp [aggQ, hu, isAggD] at h1
    · cases h

theorem eqBin_ok {op : BinOp} {r : Option Bool} {v : AV} (h : eqBin op r = some v) : ∃ b, r = some b ∧ ((op = .eql ∧ v = .bool b) ∨ (op = .neq ∧ v = .bool (!b))) := by
  cases op <;> simp only [eqBin, reduceCtorEq] at h <;> cases r <;> simp only [reduceCtorEq, Option.some.injEq] at h
  · exact ⟨_, rfl, .inl ⟨rfl, h.symm⟩⟩
  · exact ⟨_, rfl, .inr ⟨rfl, h.symm⟩⟩

theorem nilBin_ok {op : BinOp} {b : Bool} {v : AV} (h : nilBin op b = some v) : (op = .eql ∧ v = .bool b) ∨ (op = .neq ∧ v = .bool (!b)) := by
  cases op <;> simp only [nilBin, reduceCtorEq, Option.some.injEq] at h
  · exact .inl ⟨rfl, h.symm⟩
  · exact .inr ⟨rfl, h.symm⟩

theorem isShift_ok {op : BinOp} (h : isShift op = true) : op = .shl ∨ op = .shr := by
  cases op <;> simp [isShift] at h
  · exact .inl rfl
  · exact .inr rfl

theorem isES_spec {v : Value} (h : isES v = true) : ∃ a c, v = .slice (some a) 0 c := by
  unfold isES at h
  split at h
  · rename_i a c; exact ⟨a, c, rfl⟩
  · cases h

theorem binA_ok {op : BinOp} {t : TypeId} {x y : Operand} {a b : AV} {u z : Value} {v : AV} (ra : Rep σ a u) (rb : Rep σ b z) (h : binA P op t a b = some v) :
    PureOk P σ w v (do pure (.value (← (do eqGuard op t x y u z; binOp op t u z)))) := by
  unfold binA at h
  split at h
  · rename_i k m k' n
    simp only [Rep] at ra rb
    subst ra rb
    split at h
    · rename_i hsh
      unfold shiftA at h
      split at h
      · cases h
      · rename_i hneg
        rcases isShift_ok hsh with rfl | rfl
        · simp only [Option.some.injEq] at h
          subst h
          exact .of_sem (by simp only [eqGuard, binOp, Op.shift, if_neg hneg]; simp; rfl) (by simp [Rep])
        · simp only [Option.some.injEq] at h
          subst h
          exact .of_sem (by simp only [eqGuard, binOp, Op.shift, if_neg hneg]; simp; rfl) (by simp [Rep])
    · split at h
      · rename_i hk
        subst hk
        obtain ⟨r, hr, rr⟩ := intBin_ok (P := P) (w := w) (σ := σ) h
        have hr' : (binOp op t (.int k m) (.int k n)).run P w = .ok r w := by
          rw [← hr]
          cases op <;> rfl
        refine .of_sem (u := r) ?_ rr
        cases op <;> simp [eqGuard, hr']
      · cases h
  · rename_i m n
    simp only [Rep] at ra rb
    subst ra rb
    unfold strBin at h
    cases op <;> simp only [Option.some.injEq, reduceCtorEq] at h <;>
      first
        | (split at h
           · rename_i hle
             cases h
             refine .of_sem (u := .string ⟨(m ++ n).toArray⟩) ?_ (by simp [Rep])
             have hsz : ¬ (((⟨m.toArray⟩ : ByteArray).size + (⟨n.toArray⟩ : ByteArray).size : Nat) : Int) > IntKind.i64.max := by
               have : IntKind.i64.max = 9223372036854775807 := by decide
               rw [this]
               simp only [ByteArray.size, List.size_toArray]
               omega
             have hap : (⟨m.toArray⟩ : ByteArray) ++ (⟨n.toArray⟩ : ByteArray) = ⟨(m ++ n).toArray⟩ := by
               apply Go.WideShapes.bytes_inj
               simp
             simp only [eqGuard, binOp, Op.stringOp, hap]
             simp only [Sem.run_bind, Sem.run_ite, if_neg hsz]
             simp
           · cases h)
        | (subst h
           exact .of_sem (by simp [eqGuard, binOp, Op.stringOp]; rfl) (by simp [Rep]))
  · rename_i m n
    split at h
    · rename_i hag
      split at h
      · rename_i hq
        have heq := eqQ_ok (P := P) (w := w) 4 t [.bool] (.bool m) (.bool n) u z (m == n) 10000 (by omega) hq ra rb (.inr ⟨.bool, rfl, hag, rfl⟩)
        simp only [Rep] at ra rb
        subst ra rb
        obtain ⟨r, hr, ho⟩ := eqBin_ok h
        cases hr
        rcases ho with ⟨rfl, rfl⟩ | ⟨rfl, rfl⟩
        · refine .of_sem (u := .bool (m == n)) ?_ (by simp [Rep])
          simp only [eqGuard, binOp, Op.equal, Op.maxDepth]
          simp [heq]
        · refine .of_sem (u := .bool (!(m == n))) ?_ (by simp [Rep])
          simp only [eqGuard, binOp, Op.equal, Op.maxDepth]
          simp [heq]
      · cases h
    · cases h
  · rename_i as bs
    split at h
    · rename_i hag
      split at h
      · rename_i ks hq
        obtain ⟨r, hr, ho⟩ := eqBin_ok h
        have heq := eqQ_ok (P := P) (w := w) 4 t ks (.agg as) (.agg bs) u z r 10000 (by omega) hq ra rb (.inl ⟨as, bs, rfl, rfl, hag, hr⟩)
        have hguard : P.eqGuardType P.depth t = false := by
          simp only [eqQ] at hq
          split at hq
          · rename_i hu; simp [aggQ, hu, isAggD] at hag
          · rename_i hu; simp [aggQ, hu, isAggD] at hag
          · rename_i hu; simp [aggQ, hu, isAggD] at hag
          · split at hq
            · cases hq
            · rename_i hn
              cases hs : P.eqGuardType P.depth t
              · rfl
              · exact absurd (.inr hs) hn
          · cases hq
        simp only [Rep] at ra rb
        obtain ⟨us, rfl, _⟩ := ra
        obtain ⟨zs, rfl, _⟩ := rb
        rcases ho with ⟨rfl, rfl⟩ | ⟨rfl, rfl⟩
        · refine .of_sem (u := .bool r) ?_ (by simp [Rep])
          simp only [Sem.run_bind, run_eqGuard_agg w _ t x y _ _ hguard, Result.andThen_ok, run_eql_struct, heq]
        · refine .of_sem (u := .bool (!r)) ?_ (by simp [Rep])
          simp only [Sem.run_bind, run_eqGuard_agg w _ t x y _ _ hguard, Result.andThen_ok, run_neq_struct, heq]
      · cases h
    · cases h
  · rename_i id off
    split at h
    · rename_i hp
      obtain ⟨e, hpe⟩ : ∃ e, P.underlying t = some (.pointer e) := by
        unfold ptrQ at hp; split at hp
        · rename_i e he; exact ⟨e, he⟩
        · cases hp
      simp only [Rep] at ra rb
      obtain ⟨b, _, rfl⟩ := ra
      subst rb
      have hq : ∀ d, (Op.equalIn (d + 1) t (.pointer (some ⟨b, off, none⟩)) (.pointer none)).run P w = .ok false w := fun d => by simp [Op.equalIn, under_run hpe]
      have hq := hq 9999
      rcases nilBin_ok h with ⟨rfl, rfl⟩ | ⟨rfl, rfl⟩
      · exact .of_sem (u := .bool false) (by simp only [eqGuard, binOp, Op.equal, Op.maxDepth]; simp [hq]) (by simp [Rep])
      · exact .of_sem (u := .bool true) (by simp only [eqGuard, binOp, Op.equal, Op.maxDepth]; simp [hq]) (by simp [Rep])
    · cases h
  · rename_i cs
    split at h
    · rename_i hp
      obtain ⟨e, hpe⟩ : ∃ e, P.underlying t = some (.pointer e) := by
        unfold ptrQ at hp; split at hp
        · rename_i e he; exact ⟨e, he⟩
        · cases hp
      simp only [Rep] at ra rb
      obtain ⟨b, off, rfl, _⟩ := ra
      subst rb
      have hq : ∀ d, (Op.equalIn (d + 1) t (.pointer (some ⟨b, off, none⟩)) (.pointer none)).run P w = .ok false w := fun d => by simp [Op.equalIn, under_run hpe]
      have hq := hq 9999
      rcases nilBin_ok h with ⟨rfl, rfl⟩ | ⟨rfl, rfl⟩
      · exact .of_sem (u := .bool false) (by simp only [eqGuard, binOp, Op.equal, Op.maxDepth]; simp [hq]) (by simp [Rep])
      · exact .of_sem (u := .bool true) (by simp only [eqGuard, binOp, Op.equal, Op.maxDepth]; simp [hq]) (by simp [Rep])
    · cases h
  · split at h
    · rename_i hp
      obtain ⟨e, hpe⟩ : ∃ e, P.underlying t = some (.pointer e) := by
        unfold ptrQ at hp; split at hp
        · rename_i e he; exact ⟨e, he⟩
        · cases hp
      simp only [Rep] at ra rb
      subst ra rb
      have hq : ∀ d, (Op.equalIn (d + 1) t (.pointer none) (.pointer none)).run P w = .ok true w := fun d => by simp [Op.equalIn, under_run hpe]
      have hq := hq 9999
      rcases nilBin_ok h with ⟨rfl, rfl⟩ | ⟨rfl, rfl⟩
      · exact .of_sem (u := .bool true) (by simp only [eqGuard, binOp, Op.equal, Op.maxDepth]; simp [hq]) (by simp [Rep])
      · exact .of_sem (u := .bool false) (by simp only [eqGuard, binOp, Op.equal, Op.maxDepth]; simp [hq]) (by simp [Rep])
    · cases h
  · rename_i it iv
    split at h
    · rename_i hp
      obtain ⟨ms, hpe⟩ : ∃ ms, P.underlying t = some (.interface ms) := by
        unfold ifaceQ at hp; split at hp
        · rename_i e he; exact ⟨e, he⟩
        · cases hp
      simp only [Rep] at ra rb
      obtain ⟨xv, rfl, _⟩ := ra
      subst rb
      have hq : ∀ d, (Op.equalIn (d + 1) t (.iface it xv) .nilIface).run P w = .ok false w := fun d => by simp [Op.equalIn, under_run hpe]
      have hq := hq 9999
      rcases nilBin_ok h with ⟨rfl, rfl⟩ | ⟨rfl, rfl⟩
      · exact .of_sem (u := .bool false) (by simp only [eqGuard, binOp, Op.equal, Op.maxDepth]; simp [hq]) (by simp [Rep])
      · exact .of_sem (u := .bool true) (by simp only [eqGuard, binOp, Op.equal, Op.maxDepth]; simp [hq]) (by simp [Rep])
    · cases h
  · rename_i ff f1 f2
    split at h
    · rename_i hp
      obtain ⟨q1, q2, q3, hpe⟩ : ∃ q1 q2 q3, P.underlying t = some (.func q1 q2 q3) := by
        unfold funcQ at hp; split at hp
        · rename_i q1 q2 q3 he; exact ⟨q1, q2, q3, he⟩
        · cases hp
      simp only [Rep] at ra rb
      obtain ⟨us1, us2, rfl, _, _⟩ := ra
      subst rb
      have hq : ∀ d, (Op.equalIn (d + 1) t (.func ff us1.toArray us2.toArray) .nilFunc).run P w = .ok false w := fun d => by simp [Op.equalIn, under_run hpe]
      have hq := hq 9999
      rcases nilBin_ok h with ⟨rfl, rfl⟩ | ⟨rfl, rfl⟩
      · exact .of_sem (u := .bool false) (by simp only [eqGuard, binOp, Op.equal, Op.maxDepth]; simp [hq]) (by simp [Rep])
      · exact .of_sem (u := .bool true) (by simp only [eqGuard, binOp, Op.equal, Op.maxDepth]; simp [hq]) (by simp [Rep])
    · cases h
  · rename_i id s off len
    split at h
    · rename_i hp
      obtain ⟨e, hpe⟩ : ∃ e, P.underlying t = some (.slice e) := by
        unfold sliceTQ at hp; split at hp
        · rename_i e he; exact ⟨e, he⟩
        · cases hp
      simp only [Rep] at ra rb
      obtain ⟨b, cap, _, _, rfl, _⟩ := ra
      obtain ⟨ad, cp, rfl, _, ho, _⟩ := rb
      simp only [OwnOk] at ho
      obtain ⟨rfl, _, rfl⟩ := ho
      have hq : ∀ d, (Op.equalIn (d + 1) t (.slice (some ⟨b, off * s, none⟩) len (cap - off)) (.slice none 0 0)).run P w = .ok false w := fun d => by simp [Op.equalIn, under_run hpe]
      have hq := hq 9999
      rcases nilBin_ok h with ⟨rfl, rfl⟩ | ⟨rfl, rfl⟩
      · exact .of_sem (u := .bool false) (by simp only [eqGuard, binOp, Op.equal, Op.maxDepth]; simp [hq]) (by simp [Rep])
      · exact .of_sem (u := .bool true) (by simp only [eqGuard, binOp, Op.equal, Op.maxDepth]; simp [hq]) (by simp [Rep])
    · cases h
  · rename_i o e1 es1
    split at h
    · rename_i hp
      obtain ⟨e, hpe⟩ : ∃ e, P.underlying t = some (.slice e) := by
        unfold sliceTQ at hp; split at hp
        · rename_i e he; exact ⟨e, he⟩
        · cases hp
      simp only [Rep] at ra rb
      obtain ⟨a0, cap, rfl, _, _, hrow⟩ := ra
      obtain ⟨ad, cp, rfl, _, ho, _⟩ := rb
      simp only [OwnOk] at ho
      obtain ⟨rfl, _, rfl⟩ := ho
      obtain ⟨b, off, s, rfl, _⟩ := hrow.resolve_left (by simp)
      have hq : ∀ d n, (Op.equalIn (d + 1) t (.slice (some ⟨b, off, none⟩) n cap) (.slice none 0 0)).run P w = .ok false w := fun d n => by simp [Op.equalIn, under_run hpe]
      have hq := hq 9999
      rcases nilBin_ok h with ⟨rfl, rfl⟩ | ⟨rfl, rfl⟩
      · exact .of_sem (u := .bool false) (by simp only [eqGuard, binOp, Op.equal, Op.maxDepth]; simp [hq]) (by simp [Rep])
      · exact .of_sem (u := .bool true) (by simp only [eqGuard, binOp, Op.equal, Op.maxDepth]; simp [hq]) (by simp [Rep])
    · cases h
  · split at h
    · rename_i hp
      obtain ⟨e, hpe⟩ : ∃ e, P.underlying t = some (.slice e) := by
        unfold sliceTQ at hp; split at hp
        · rename_i e he; exact ⟨e, he⟩
        · cases hp
      simp only [Rep] at ra rb
      obtain ⟨a0, cap, rfl, _, ho0, _⟩ := ra
      obtain ⟨ad, cp, rfl, _, ho, _⟩ := rb
      simp only [OwnOk] at ho ho0
      obtain ⟨rfl, _, rfl⟩ := ho
      obtain ⟨rfl, _, rfl⟩ := ho0
      have hq : ∀ d, (Op.equalIn (d + 1) t (.slice none 0 0) (.slice none 0 0)).run P w = .ok true w := fun d => by simp [Op.equalIn, under_run hpe]
      have hq := hq 9999
      rcases nilBin_ok h with ⟨rfl, rfl⟩ | ⟨rfl, rfl⟩
      · exact .of_sem (u := .bool true) (by simp only [eqGuard, binOp, Op.equal, Op.maxDepth]; simp [hq]) (by simp [Rep])
      · exact .of_sem (u := .bool false) (by simp only [eqGuard, binOp, Op.equal, Op.maxDepth]; simp [hq]) (by simp [Rep])
    · cases h
  · rename_i v0
    split at h
    · rename_i hp
      obtain ⟨hes, hp⟩ := hp
      obtain ⟨e, hpe⟩ : ∃ e, P.underlying t = some (.slice e) := by
        unfold sliceTQ at hp; split at hp
        · rename_i e he; exact ⟨e, he⟩
        · cases hp
      obtain ⟨a0, c0, rfl⟩ := isES_spec hes
      simp only [Rep] at ra rb
      subst ra
      obtain ⟨ad, cp, rfl, _, ho, _⟩ := rb
      simp only [OwnOk] at ho
      obtain ⟨rfl, _, rfl⟩ := ho
      have hq : ∀ d, (Op.equalIn (d + 1) t (.slice (some a0) 0 c0) (.slice none 0 0)).run P w = .ok false w := fun d => by simp [Op.equalIn, under_run hpe]
      have hq := hq 9999
      rcases nilBin_ok h with ⟨rfl, rfl⟩ | ⟨rfl, rfl⟩
      · exact .of_sem (u := .bool false) (by simp only [eqGuard, binOp, Op.equal, Op.maxDepth]; simp [hq]) (by simp [Rep])
      · exact .of_sem (u := .bool true) (by simp only [eqGuard, binOp, Op.equal, Op.maxDepth]; simp [hq]) (by simp [Rep])
    · cases h
  · cases h

theorem sliceBnd_ok {x : Option AV} {d y m : Nat} {u : Option Value} (hr : ∀ a z, x = some a → u = some z → Rep σ a z) (hs : x.isSome = u.isSome) (h : sliceBnd x d y = some m) (c : BoundsCode) :
    (match u with | some z => Instr.sliceBound z y c | none => pure d).run P w = .ok m w := by
  cases x with
  | none =>
    cases u with
    | none => simp [sliceBnd] at h; subst h; simp
    | some z => simp at hs
  | some a =>
    cases u with
    | none => simp at hs
    | some z =>
      have r := hr a z rfl rfl
      cases a with
      | int k i =>
        simp only [Rep] at r
        subst r
        simp only [sliceBnd] at h
        split at h
        · rename_i hc
          cases h
          simp [Instr.sliceBound, asIntOf, hc]
        · cases h
      | _ => simp [sliceBnd] at h

theorem RepRow.drop {b s : Nat} : ∀ {off : Nat} {es : List AV} (n : Nat), RepRow σ b s off es → RepRow σ b s (off + n * s) (es.drop n)
  | _, [], n, _ => by simp [RepRow]
  | off, e :: es, n, h => by
    cases n with
    | zero => simpa using h
    | succ n =>
      simp only [RepRow] at h
      have := RepRow.drop n h.2
      rw [List.drop_succ_cons, show off + (n + 1) * s = off + s + n * s from by rw [Nat.add_mul]; omega]
      exact this

theorem RepRow.take {b s : Nat} : ∀ {off : Nat} {es : List AV} (n : Nat), RepRow σ b s off es → RepRow σ b s off (es.take n)
  | _, [], n, _ => by simp [RepRow]
  | off, e :: es, n, h => by
    cases n with
    | zero => simp [RepRow]
    | succ n =>
      simp only [RepRow] at h
      simp only [List.take_succ_cons, RepRow]
      exact ⟨h.1, RepRow.take n h.2⟩

theorem strideQ_spec {t : TypeId} {es : List AV} (h : strideQ P t es = true) : ∃ et s, elemQ P t = some et ∧ szQ P et = some s ∧ ∀ e, es.head? = some e → e.width = some s := by
  unfold strideQ at h
  split at h
  · rename_i et het
    split at h
    · rename_i s hs
      refine ⟨et, s, het, hs, fun e he => ?_⟩
      rw [he] at h
      simpa using h
    · cases h
  · cases h

theorem RepRow.stride {b s n : Nat} {off : Nat} {es : List AV} (h : RepRow σ b s off es) (hne : es ≠ []) (hw : ∀ e, es.head? = some e → e.width = some n) : s = n := by
  cases es with
  | nil => exact absurd rfl hne
  | cons e es =>
    simp only [RepRow] at h
    obtain ⟨⟨u, r, hs, _⟩, _⟩ := h
    rw [← hs]
    exact r.width (hw e rfl)

theorem sliceBnd_le {x : Option AV} {d y m : Nat} (h : sliceBnd x d y = some m) (hd : d ≤ y) : m ≤ y := by
  unfold sliceBnd at h
  split at h
  · cases h; exact hd
  · split at h
    · cases h; omega
    · cases h
  · cases h

theorem sliceBnd_up {x : Option AV} {d y z m : Nat} (h : sliceBnd x d y = some m) (hz : y ≤ z) : sliceBnd x d z = some m := by
  unfold sliceBnd at h ⊢
  split at h
  · exact h
  · split at h
    · rename_i i hc; rw [if_pos ⟨hc.1, by omega⟩]; exact h
    · cases h
  · cases h

theorem sliceLH_spec {n : Nat} {lo hi : Option AV} {x y : Nat} (h : sliceLH n lo hi = some (x, y)) : x ≤ y ∧ y ≤ n ∧ sliceBnd lo 0 y = some x ∧ ∀ c, n ≤ c → sliceBnd hi n c = some y := by
  unfold sliceLH at h
  split at h
  · rename_i hh hhe
    split at h
    · rename_i ll hle
      simp only [Option.some.injEq, Prod.mk.injEq] at h
      obtain ⟨rfl, rfl⟩ := h
      exact ⟨sliceBnd_le hle (Nat.zero_le _), sliceBnd_le hhe (Nat.le_refl _), hle, fun c hc => sliceBnd_up hhe hc⟩
    · cases h
  · cases h

theorem pure_slice3 {t : TypeId} {a : AV} {u : Value} {lo hi mx : Option AV} {l' h' m' : Option Value} {v : AV} (hr : Rep σ a u)
    (hlo : ∀ a z, lo = some a → l' = some z → Rep σ a z) (hlo' : lo.isSome = l'.isSome) (hhi : ∀ a z, hi = some a → h' = some z → Rep σ a z) (hhi' : hi.isSome = h'.isSome)
    (hmx : ∀ a z, mx = some a → m' = some z → Rep σ a z) (hmx' : mx.isSome = m'.isSome)
    (h : slice3A P t lo hi mx a = some v) : PureOk P σ w v (do pure (.value (← Instr.sliceAt t u l' h' m'))) := by
  unfold slice3A at h
  split at h
  · rename_i hc
    obtain ⟨z1, z2, z3, z4⟩ := hc
    split at h
    · rename_i et het
      split at h
      · rename_i sz hsz
        cases h
        have hu := elemQ_spec het
        have isz : ∀ {x : Option AV} {y : Option Value}, (∀ a z, x = some a → y = some z → Rep σ a z) → x.isSome = y.isSome → isZ x = true → ∃ k, y = some (.int k 0) := by
          intro x y hx hy hz
          cases x with
          | none => simp [isZ] at hz
          | some a =>
            cases y with
            | none => simp at hy
            | some z =>
              have r := hx a z rfl rfl
              cases a with
              | int k n =>
                simp only [isZ, beq_iff_eq] at hz
                simp only [Rep] at r
                subst hz r
                exact ⟨k, rfl⟩
              | _ => simp [isZ] at hz
        obtain ⟨k1, rfl⟩ := isz hhi hhi' z1
        obtain ⟨k2, rfl⟩ := isz hmx hmx' z2
        have hl : l' = none ∨ ∃ k3, l' = some (.int k3 0) := by
          rcases z3 with z3 | z3
          · left
            rw [Option.isNone_iff_eq_none] at z3
            subst z3
            cases l' with
            | none => rfl
            | some z => simp at hlo'
          · exact .inr (isz hlo hlo' z3)
        obtain ⟨ad, len, cap, rfl⟩ : ∃ ad len cap, u = .slice ad len cap := by
          cases a <;> simp only [isSl, Bool.false_eq_true] at z4 <;> simp only [Rep] at hr
          · obtain ⟨ad, cap, rfl, _⟩ := hr; exact ⟨_, _, _, rfl⟩
          · obtain ⟨b, cap, _, _, rfl, _⟩ := hr; exact ⟨_, _, _, rfl⟩
        refine .of_sem (u := .slice ad 0 0) ?_ ?_
        · rcases hl with rfl | ⟨k3, rfl⟩ <;> simp [Instr.sliceAt, Instr.slice, Instr.sliceBounds, Instr.sliceBound, asIntOf, under_run hu, szQ_run hsz]
        · simp only [Rep]
          exact ⟨ad, 0, rfl, Nat.le_refl _, rfl, .inl trivial⟩
      · cases h
    · cases h
  · cases h

theorem pure_slice {t : TypeId} {a : AV} {u : Value} {lo hi : Option AV} {l' h' : Option Value} {v : AV} (hr : Rep σ a u)
    (hlo : ∀ a z, lo = some a → l' = some z → Rep σ a z) (hlo' : lo.isSome = l'.isSome) (hhi : ∀ a z, hi = some a → h' = some z → Rep σ a z) (hhi' : hi.isSome = h'.isSome)
    (h : sliceA P t lo hi a = some v) : PureOk P σ w v (do pure (.value (← Instr.sliceAt t u l' h' none))) := by
  cases a with
  | vec o es =>
    simp only [sliceA] at h
    simp only [Rep] at hr
    obtain ⟨ad, cap, rfl, hcap, hown, hrow⟩ := hr
    split at h
    · rename_i hst
      obtain ⟨et, sz, het, hsz, hw⟩ := strideQ_spec hst
      split at h
      · rename_i x y hxy
        cases h
        unfold sliceLH at hxy
        split at hxy
        · rename_i hh hhe
          split at hxy
          · rename_i ll hle
            simp only [Option.some.injEq, Prod.mk.injEq] at hxy
            obtain ⟨rfl, rfl⟩ := hxy
            have hu := elemQ_spec het
            have hhn : hh ≤ es.length := by
              unfold sliceBnd at hhe
              split at hhe
              · cases hhe; exact Nat.le_refl _
              · split at hhe
                · cases hhe; omega
                · cases hhe
              · cases hhe
            have hln : ll ≤ hh := by
              unfold sliceBnd at hle
              split at hle
              · cases hle; exact Nat.zero_le _
              · split at hle
                · cases hle; omega
                · cases hle
              · cases hle
            have hno : hi = none → hh = es.length := by
              rintro rfl
              simp only [sliceBnd, Option.some.injEq] at hhe
              exact hhe.symm
            have hhe' : sliceBnd hi es.length cap = some hh := by
              unfold sliceBnd at hhe ⊢
              split at hhe
              · exact hhe
              · split at hhe
                · rename_i i hc; rw [if_pos ⟨hc.1, by omega⟩]; exact hhe
                · cases hhe
              · cases hhe
            have e1 := sliceBnd_ok (P := P) (w := w) hhi hhi' hhe' .sliceAcap
            have e2 := sliceBnd_ok (P := P) (w := w) hlo hlo' hle .sliceB
            refine .of_sem (u := .slice (if cap = ll then ad else ad.map (·.add (ll * sz))) (hh - ll) (cap - ll)) ?_ ?_
            · cases h' <;> cases l' <;> simp_all [Instr.sliceAt, Instr.slice, Instr.sliceBounds, under_run hu, szQ_run hsz]
            · simp only [Rep]
              refine ⟨(if cap = ll then ad else ad.map (·.add (ll * sz))), cap - ll, ?_, ?_, ?_, ?_⟩
              · rw [show (List.drop ll (List.take hh es)).length = hh - ll from by simp; omega]
              · simp; omega
              · have hlen : (List.drop ll (List.take hh es)).length = hh - ll := by simp; omega
                rw [hlen]
                unfold cutOwn
                split
                · have := hno rfl; simp only [OwnOk] at hown ⊢; omega
                · have := hno rfl; simp only [OwnOk] at hown ⊢; omega
                · trivial
              · by_cases hempty : List.drop ll (List.take hh es) = []
                · exact .inl hempty
                · refine .inr ?_
                  have hlt : ll < hh := by
                    rcases Nat.lt_or_ge ll hh with h1 | h1
                    · exact h1
                    · exact absurd (List.drop_eq_nil_of_le (by simp; omega)) hempty
                  rcases hrow with rfl | ⟨b, off, s, rfl, row⟩
                  · simp at hempty
                  · have hs : s = sz := row.stride (by rintro rfl; simp at hempty) hw
                    subst hs
                    refine ⟨b, off + ll * s, s, ?_, (row.take hh).drop ll⟩
                    rw [if_neg (by omega)]
                    simp [Addr.add_mk]
          · cases hxy
        · cases hxy
      · cases h
    · cases h
  | sl id s off len =>
    simp only [sliceA] at h
    simp only [Rep] at hr
    obtain ⟨b, cap, hloc, hown, rfl, hcap⟩ := hr
    split at h
    · rename_i et het
      split at h
      · rename_i hsz
        split at h
        · rename_i x y hxy
          obtain ⟨h1, h2, h3, h4⟩ := sliceLH_spec hxy
          have hu := elemQ_spec het
          have e1 := sliceBnd_ok (P := P) (w := w) hhi hhi' (h4 (cap - off) (by omega)) .sliceAcap
          have e2 := sliceBnd_ok (P := P) (w := w) hlo hlo' h3 .sliceB
          refine .of_sem (u := .slice (some (if cap - off = x then ⟨b, off * s, none⟩ else ⟨b, off * s + x * s, none⟩)) (y - x) (cap - off - x)) ?_ ?_
          · have hadd : (if cap - off = x then some (⟨b, off * s, none⟩ : Addr) else (some (⟨b, off * s, none⟩ : Addr)).map (·.add (x * s))) = some (if cap - off = x then ⟨b, off * s, none⟩ else ⟨b, off * s + x * s, none⟩) := by
              split
              · rfl
              · simp [Addr.add_mk]
            rw [← hadd]
            cases h' <;> cases l' <;> simp_all [Instr.sliceAt, Instr.slice, Instr.sliceBounds, under_run hu, szQ_run hsz]
          · split at h
            · rename_i h0
              subst h0
              cases h
              simp only [Rep]
              refine ⟨b, cap, hloc, hown, ?_, by omega⟩
              simp
            · split at h
              · rename_i hlt
                cases h
                simp only [Rep]
                refine ⟨b, cap, hloc, hown, ?_, by omega⟩
                rw [if_neg (by omega), Nat.add_mul, Nat.sub_sub]
              · cases h
                simp only [Rep]
                refine ⟨_, _, by rw [show y - x = ([] : List AV).length from by simp; omega], by simp, trivial, .inl trivial⟩
        · cases h
      · cases h
    · cases h
  | str l =>
    simp only [sliceA] at h
    simp only [Rep] at hr
    subst hr
    split at h
    · rename_i hst
      split at h
      · rename_i x y hxy
        cases h
        unfold sliceLH at hxy
        split at hxy
        · rename_i hh hhe
          split at hxy
          · rename_i ll hle
            simp only [Option.some.injEq, Prod.mk.injEq] at hxy
            obtain ⟨rfl, rfl⟩ := hxy
            have hu := isStrQ_spec hst
            refine .of_sem (u := .string ((⟨l.toArray⟩ : ByteArray).extract ll hh)) ?_ ?_
            · have e1 := sliceBnd_ok (P := P) (w := w) hhi hhi' hhe .sliceAlen
              have e2 := sliceBnd_ok (P := P) (w := w) hlo hlo' hle .sliceB
              have hsz : (⟨l.toArray⟩ : ByteArray).size = l.length := by simp [ByteArray.size]
              cases h' <;> cases l' <;> simp_all [Instr.sliceAt, Instr.slice, Instr.sliceBounds, under_run hu]
            · simp only [Rep]
              congr 1
              apply Go.WideShapes.bytes_inj
              simp [List.drop_take]
          · cases hxy
        · cases hxy
      · cases h
    · cases h
  | _ => simp [sliceA] at h

theorem RepL.of_map {α : Type} (f : α → AV) (g : α → Value) (l : List α) (h : ∀ x ∈ l, Rep σ (f x) (g x)) : RepL σ (l.map f) (l.map g) := RepL.map f g l h

theorem pure_len {tys : Array TypeId} {ty : TypeId} {as : List AV} {us : Array Value} {v : AV} (hr : RepL σ as us.toList)
    (h : lenA P tys as = some v) : PureOk P σ w v (do pure (.value (← Builtin.len_ tys ty us))) := by
  obtain ⟨us⟩ := us
  cases as with
  | nil => simp [lenA] at h
  | cons a as =>
    cases as with
    | cons b as => cases a <;> simp [lenA] at h
    | nil =>
      rw [RepL.cons_iff] at hr
      obtain ⟨u, us', e, r, q⟩ := hr
      rw [RepL.nil_iff] at q
      subst q
      simp only at e
      subst e
      cases a with
      | str l =>
        simp only [lenA] at h
        simp only [Rep] at r
        subst r
        split at h
        · rename_i t ht
          split at h
          · rename_i hst
            cases h
            exact .of_sem (u := .int .i64 l.length) (by simp [Builtin.len_, ht, under_run (isStrQ_spec hst), goInt]; rfl) (by simp [Rep])
          · cases h
        · cases h
      | vec o es =>
        simp only [lenA] at h
        simp only [Rep] at r
        obtain ⟨ad, cap, rfl, _⟩ := r
        split at h
        · rename_i t ht
          split at h
          · rename_i hel
            cases h
            obtain ⟨e, he⟩ := Option.ne_none_iff_exists'.1 hel
            exact .of_sem (u := .int .i64 es.length) (by simp [Builtin.len_, ht, under_run (elemQ_spec he), goInt]) (by simp [Rep])
          · cases h
        · cases h
      | sl id s off n =>
        simp only [lenA] at h
        simp only [Rep] at r
        obtain ⟨b, cap, _, _, rfl, _⟩ := r
        split at h
        · rename_i t ht
          split at h
          · rename_i hel
            cases h
            obtain ⟨e, he⟩ := Option.ne_none_iff_exists'.1 hel
            exact .of_sem (u := .int .i64 n) (by simp [Builtin.len_, ht, under_run (elemQ_spec he), goInt]) (by simp [Rep])
          · cases h
        · cases h
      | val v0 =>
        simp only [lenA] at h
        simp only [Rep] at r
        subst r
        split at h
        · rename_i t ht
          split at h
          · rename_i hel
            obtain ⟨hes, hel⟩ := hel
            cases h
            obtain ⟨a0, c0, rfl⟩ := isES_spec hes
            obtain ⟨e, he⟩ := Option.ne_none_iff_exists'.1 hel
            exact .of_sem (u := .int .i64 0) (by simp [Builtin.len_, ht, under_run (elemQ_spec he), goInt]) (by simp [Rep])
          · cases h
        · cases h
      | _ => simp [lenA] at h

theorem pure_field {t : TypeId} {x : AV} {u : Value} {f : Nat} {v : AV} (hr : Rep σ x u) (h : fieldA P t f x = some v) : PureOk P σ w v (do pure (.value (← Instr.field t u f))) := by
  cases x with
  | agg cs =>
    simp only [fieldA] at h
    split at h
    · rename_i fs hfs
      obtain ⟨gs, hg, rfl⟩ := fieldsQ_spec hfs
      split at h
      · rename_i off ft hf
        rw [List.getElem?_map] at hf
        obtain ⟨g, hgf, hge⟩ := Option.map_eq_some_iff.1 hf
        rw [Array.getElem?_toList] at hgf
        have ho : g.offset = off := congrArg Prod.fst hge
        have ht : g.type = ft := congrArg Prod.snd hge
        simp only [Rep] at hr
        obtain ⟨us, rfl, r⟩ := hr
        obtain ⟨y, hy, ry⟩ := ldA_part (P := P) (w := w) r h
        exact .of_sem (u := y) (by simp [Instr.field, under_run hg, hgf, asAgg, ho, ht, hy]) ry
      · cases h
    · cases h
  | _ => simp [fieldA] at h

theorem keyEqA_ok {d : TypeDesc} {k k' : AV} {u u' : Value} {r : Bool} (rk : Rep σ k u) (rk' : Rep σ k' u') (hd : (∃ q, d = .int q) ∧ (∃ q n, k = .int q n) ∨ d = .string ∧ ∃ l, k = .str l) (h : keyEqA k k' = some r) :
    Instr.sameNow d u u' = some r := by
  rcases hd with ⟨⟨q, rfl⟩, q', n, rfl⟩ | ⟨rfl, l, rfl⟩
  · cases k' <;> simp only [keyEqA, reduceCtorEq] at h
    simp only [Rep] at rk rk'
    subst rk rk'
    simpa [Instr.sameNow] using h
  · cases k' <;> simp only [keyEqA, reduceCtorEq] at h
    simp only [Rep] at rk rk'
    subst rk rk'
    simp only [Instr.sameNow]
    simp only [Option.some.injEq] at h ⊢
    rw [← h]
    rw [Bool.eq_iff_iff, Go.MapKept.bytes_beq]
    simp

theorem findA_ok {d : TypeDesc} {k : AV} {u : Value} (rk : Rep σ k u) (hd : (∃ q, d = .int q) ∧ (∃ q n, k = .int q n) ∨ d = .string ∧ ∃ l, k = .str l) : ∀ (es : List (AV × AV × Nat)) (ms : List MapEntry) (i : Nat) (r : Option (Nat × AV)), RepE σ es ms → findA k es i = some r →
    ∃ r', Instr.findNow d u ms i = some r' ∧ ((r = none ∧ r' = none) ∨ ∃ j v x, r = some (j, v) ∧ r' = some (j, x) ∧ Rep σ v x)
  | [], ms, i, r, he, h => by
    simp only [RepE] at he
    subst he
    simp only [findA, Option.some.injEq] at h
    exact ⟨none, rfl, .inl ⟨h.symm, rfl⟩⟩
  | (k', v, b) :: es, ms, i, r, he, h => by
    simp only [RepE] at he
    obtain ⟨m, ms', rfl, r1, r2, r3, r4⟩ := he
    simp only [findA] at h
    cases hk : keyEqA k k' with
    | none => simp [hk] at h
    | some q =>
      have hs := keyEqA_ok rk r1 hd hk
      simp only [Instr.findNow, hs]
      cases q with
      | true =>
        simp only [hk, Option.some.injEq] at h
        exact ⟨_, rfl, .inr ⟨i, v, m.val, h.symm, rfl, r2⟩⟩
      | false =>
        simp only [hk] at h
        exact findA_ok rk hd es ms' (i + 1) r r4 h

theorem zeroV_ok {t : TypeId} {z : AV} (h : zeroV P t = some z) : ∃ u, (zeroValue t).run P w = .ok u w ∧ Rep σ z u := by
  unfold zeroV at h
  split at h
  · rename_i i hi
    obtain ⟨u, hu, rfl⟩ := Option.map_eq_some_iff.1 h
    exact ⟨u, by simp [zeroValue, typeInfo, hi, hu], Rep.ofV u⟩
  · cases h

theorem mapQ_spec {t kt et : TypeId} (h : mapQ P t = some (kt, et)) : P.underlying t = some (.map kt et) := by
  unfold mapQ at h
  split at h
  · rename_i k e he
    simp only [Option.some.injEq, Prod.mk.injEq] at h
    obtain ⟨rfl, rfl⟩ := h
    exact he
  · cases h

/-- The key is of its type, and is looked for as it is here. -/
theorem key_ok {kt : TypeId} {k : AV} {u : Value} (rk : Rep σ k u) (hk : keyOkA P kt k = true) {es : List (AV × AV × Nat)} {ms : List MapEntry} (he : RepE σ es ms) {r : Option (Nat × AV)} (h : findA k es 0 = some r) (em : Bool) :
    (Instr.checkKey em 10000 kt u).run P w = .ok () w ∧ ∃ r', (Instr.findKey kt u ms).run P w = .ok r' w ∧ ((r = none ∧ r' = none) ∨ ∃ j v x, r = some (j, v) ∧ r' = some (j, x) ∧ Rep σ v x) := by
  unfold keyOkA at hk
  cases hu : P.underlying kt with
  | none => simp [hu] at hk
  | some d =>
    cases d <;> simp only [hu, Bool.false_eq_true] at hk
    case int q =>
      cases k <;> simp only [Bool.false_eq_true] at hk
      rename_i q' n
      obtain ⟨r', h1, h2⟩ := findA_ok (d := .int q) rk (.inl ⟨⟨q, rfl⟩, q', n, rfl⟩) es ms 0 r he h
      refine ⟨?_, r', by simp [Instr.findKey, under_run hu, h1], h2⟩
      simp only [Rep] at rk
      subst rk
      exact Go.MapKept.run_checkKey (n := 9999) hu (by simpa [Go.MapKept.IsKey] using hk) em
    case string =>
      cases k <;> simp only [Bool.false_eq_true] at hk
      rename_i l
      obtain ⟨r', h1, h2⟩ := findA_ok (d := .string) rk (.inr ⟨rfl, l, rfl⟩) es ms 0 r he h
      refine ⟨?_, r', by simp [Instr.findKey, under_run hu, h1], h2⟩
      simp only [Rep] at rk
      subst rk
      exact Go.MapKept.run_checkKey (n := 9999) hu (by simp [Go.MapKept.IsKey]) em
    case array n el =>
      cases k <;> simp only [Bool.false_eq_true] at hk
      rename_i cs
      simp only [Bool.and_eq_true, beq_iff_eq] at hk
      obtain ⟨⟨hn, hel⟩, hsz⟩ := hk
      obtain ⟨q, hq⟩ : ∃ q, P.underlying el = some (.int q) := by
        split at hel
        · rename_i q hq; exact ⟨q, hq⟩
        · cases hel
      simp only [Rep] at rk
      obtain ⟨us, rfl, rl⟩ := rk
      have hl := rl.length
      constructor
      · show (Instr.checkKey em (9999 + 1) kt (.agg us.toArray)).run P w = _
        rw [Instr.checkKey]
        simp only [Sem.run_bind, under_run hu, Result.andThen_ok]
        simp only [Std.Legacy.Range.forIn_eq_forIn_range', Std.Legacy.Range.size, Nat.sub_zero, Nat.add_one_sub_one, Nat.div_one]
        have each : ∀ i ∈ List.range' 0 n, i < n := fun i hi => by simpa using hi
        generalize List.range' 0 n = is at each
        induction is with
        | nil => simp
        | cons j is ih =>
          have hj := each j (by simp)
          have hlt : j < us.length := by omega
          have hagg : (isAgg el).run P w = .ok false w := by simp [isAgg, under_run hq]
          have p1 : (part el us.toArray (j * 1)).run P w = .ok us[j] w := by
            simp [part, hagg, hlt]
          have p2 : (Instr.checkKey em 9999 el us[j]).run P w = .ok () w := by
            show (Instr.checkKey em (9998 + 1) el us[j]).run P w = _
            rw [Instr.checkKey]
            simp [under_run hq]
          simp only [List.forIn_cons, Sem.run_bind, szQ_run hsz, Result.andThen_ok, p1, p2, Sem.run_pure]
          exact ih fun i hi => each i (by simp [hi])
      · cases es with
        | nil =>
          simp only [RepE] at he
          subst he
          simp only [findA, Option.some.injEq] at h
          exact ⟨none, by simp [Instr.findKey, under_run hu, Instr.findNow], .inl ⟨h.symm, rfl⟩⟩
        | cons e es =>
          obtain ⟨k', v, b⟩ := e
          simp [findA, keyEqA] at h

theorem pure_lookup (hs : Sim P B W0 H σ w) {t : TypeId} {m k : AV} {um uk : Value} {ok : Bool} {v : AV} (rm : Rep σ m um) (rk : Rep σ k uk) (h : lookupA P H t m k ok = some v) :
    PureOk P σ w v (do pure (.value (← Instr.lookup t um uk ok))) := by
  unfold lookupA at h
  split at h
  · rename_i id
    split at h
    · rename_i es clock hg
      split at h
      · rename_i kt et hmq
        split at h
        · rename_i hk
          have hu := mapQ_spec hmq
          obtain ⟨b, ms, hb, _, hh, re, _⟩ := hs.obj id _ hg
          simp only [Rep] at rm
          obtain ⟨b', hb', rfl⟩ := rm
          rw [hb] at hb'
          cases hb'
          split at h
          · rename_i j v1 hf
            obtain ⟨k1, r', k2, k3⟩ := key_ok (w := w) rk hk re hf (em := ms.isEmpty)
            obtain ⟨j', v', x, e1, rfl, rx⟩ := k3.resolve_left (by simp)
            simp only [Option.some.injEq, Prod.mk.injEq] at e1
            obtain ⟨rfl, rfl⟩ := e1
            cases h
            refine .of_sem (u := if ok then .tuple #[x, .bool true] else x) ?_ ?_
            · simp [Instr.lookup, under_run hu, Go.MapKept.run_getObj_map hh, k1, k2]
            · cases ok
              · simpa using rx
              · simp only [if_true, Rep]
                exact ⟨[x, .bool true], rfl, RepL.cons_iff.2 ⟨_, _, rfl, rx, RepL.cons_iff.2 ⟨_, _, rfl, by simp [Rep], by simp [RepL]⟩⟩⟩
          · rename_i hf
            obtain ⟨k1, r', k2, k3⟩ := key_ok (w := w) rk hk re hf (em := ms.isEmpty)
            have : r' = none := by
              rcases k3 with ⟨_, h2⟩ | ⟨j, v, x, h1, _⟩
              · exact h2
              · simp at h1
            subst this
            split at h
            · rename_i z hz
              obtain ⟨x, hx, rx⟩ := zeroV_ok (σ := σ) (w := w) hz
              cases h
              refine .of_sem (u := if ok then .tuple #[x, .bool false] else x) ?_ ?_
              · simp [Instr.lookup, under_run hu, Go.MapKept.run_getObj_map hh, k1, k2, hx]
              · cases ok
                · simpa using rx
                · simp only [if_true, Rep]
                  exact ⟨[x, .bool false], rfl, RepL.cons_iff.2 ⟨_, _, rfl, rx, RepL.cons_iff.2 ⟨_, _, rfl, by simp [Rep], by simp [RepL]⟩⟩⟩
            · cases h
          · cases h
        · cases h
      · cases h
    · cases h
  · cases h

theorem two_ints {as : List AV} {us : Array Value} (hr : RepL σ as us.toList) {k k' : IntKind} {a b : Int} (h : as = [.int k a, .int k' b]) : us = #[.int k a, .int k' b] := by
  obtain ⟨us⟩ := us
  subst h
  rw [RepL.cons_iff] at hr
  obtain ⟨u, us', e, r, q⟩ := hr
  rw [RepL.cons_iff] at q
  obtain ⟨u2, us2, e2, r2, q2⟩ := q
  rw [RepL.nil_iff] at q2
  simp only [Rep] at r r2
  subst q2 e2 r r2
  simp only at e
  subst e
  rfl

theorem maxA_spec {as : List AV} {v : AV} (h : maxA as = some v) : ∃ k k' a b, as = [.int k a, .int k' b] ∧ v = .int k (if b > a then b else a) := by
  unfold maxA at h
  split at h
  · cases h; exact ⟨_, _, _, _, rfl, rfl⟩
  · cases h

theorem minA_spec {as : List AV} {v : AV} (h : minA as = some v) : ∃ k k' a b, as = [.int k a, .int k' b] ∧ v = .int k (if b < a then b else a) := by
  unfold minA at h
  split at h
  · cases h; exact ⟨_, _, _, _, rfl, rfl⟩
  · cases h

theorem pureOp_sound (hs : Sim P B W0 H σ w) (o : Oper) (ρa : Operand → AV) (ρ : Operand → Value) (hρ : ∀ x ∈ o.op.operands, Rep σ (ρa x) (ρ x)) {v : AV}
    (h : pureOp P o.op ρa H = some v) : PureOk P σ w v (execOp ρ o) := by
  obtain ⟨dst, op, ty, pos, after, guard⟩ := o
  simp only at h hρ
  cases op <;> simp only [pureOp, reduceCtorEq] at h
  case move x => cases h; exact ⟨ρ x, rfl, hρ x (by simp [Op.operands])⟩
  case assign x => cases h; exact ⟨ρ x, rfl, hρ x (by simp [Op.operands])⟩
  case pick c a b =>
    have rc := hρ c (by simp [Op.operands])
    have ra := hρ a (by simp [Op.operands])
    have rb := hρ b (by simp [Op.operands])
    cases hc : ρa c with
    | bool t =>
      simp only [hc, pickA] at h rc
      simp only [Rep] at rc
      cases h
      refine ⟨if t then ρ a else ρ b, by cases t <;> simp [execOp, rc, asBool], ?_⟩
      cases t <;> simpa
    | _ => simp [hc, pickA] at h
  case load t a => exact pure_load hs (hρ a (by simp [Op.operands])) h
  case fieldAddr s x f => exact pure_fieldAddr (hρ x (by simp [Op.operands])) h
  case indexAddr t x i => exact pure_indexAddr (hρ x (by simp [Op.operands])) (hρ i (by simp [Op.operands])) h
  case index t x i => exact pure_index (hρ x (by simp [Op.operands])) (hρ i (by simp [Op.operands])) h
  case binOp op t x y t' =>
    unfold binC at h
    split at h
    · rename_i hb
      have rx := hρ x (by simp [Op.operands])
      have ry := hρ y (by simp [Op.operands])
      generalize ρa x = X at hb rx
      generalize ρa y = Y at hb ry
      unfold bothNil at hb
      split at hb
      · simp only [Rep] at rx ry
        split at h
        · rename_i hc
          obtain ⟨hc1, hc2⟩ := hc
          obtain ⟨ms, hpe⟩ : ∃ ms, P.underlying t = some (.interface ms) := by
            unfold ifaceQ at hc2; split at hc2
            · rename_i e he; exact ⟨e, he⟩
            · cases hc2
          have hcc : (x matches .const _) || (y matches .const _) := by
            simp only [Bool.or_eq_true] at hc1 ⊢
            rcases hc1 with h1 | h1
            · left; cases x <;> simp [isConstO] at h1 ⊢
            · right; cases y <;> simp [isConstO] at h1 ⊢
          have hg : (eqGuard op t x y .nilIface .nilIface).run P w = .ok () w := by
            simp only [Bool.or_eq_true] at hcc
            rcases hcc with h1 | h1
            · cases op <;> cases x <;> simp at h1 <;> simp [eqGuard]
            · cases op <;> cases y <;> simp at h1 <;> cases x <;> simp [eqGuard]
          have hq : ∀ d, (Op.equalIn (d + 1) t .nilIface .nilIface).run P w = .ok true w := fun d => by simp [Op.equalIn, under_run hpe]
          have hq := hq 9999
          rcases nilBin_ok h with ⟨rfl, rfl⟩ | ⟨rfl, rfl⟩
          · exact .of_sem (u := .bool true) (by rw [rx, ry]; simp only [Sem.run_bind, hg, Result.andThen_ok, binOp, Op.equal, Op.maxDepth]; simp [hq]) (by simp [Rep])
          · exact .of_sem (u := .bool false) (by rw [rx, ry]; simp only [Sem.run_bind, hg, Result.andThen_ok, binOp, Op.equal, Op.maxDepth]; simp [hq]) (by simp [Rep])
        · cases h
      · cases hb
    · exact binA_ok (hρ x (by simp [Op.operands])) (hρ y (by simp [Op.operands])) h
  case unOp op t x =>
    have rx := hρ x (by simp [Op.operands])
    generalize ρa x = y at h rx
    unfold unA at h
    split at h
    · rename_i b
      simp only [Rep] at rx
      cases h
      exact ⟨.bool (!b), by simp [execOp, rx, Op.unary], by simp [Rep]⟩
    · rename_i k n
      simp only [Rep] at rx
      cases h
      exact ⟨.int k (k.wrap (0 - n)), by simp [execOp, rx, Op.unary, Op.intArith], by simp [Rep]⟩
    · cases h
  case convert s d x =>
    have rx := hρ x (by simp [Op.operands])
    generalize ρa x = y at h rx
    unfold convA at h
    split at h
    · rename_i k n
      simp only [Rep] at rx
      split at h
      · rename_i hsrc
        split at h
        · rename_i k' hk
          cases h
          have hd := intQ_spec hk
          obtain ⟨ds, hds⟩ : ∃ ds, P.underlying s = some ds := by
            unfold aggQ at hsrc
            cases hu : P.underlying s with
            | none => simp [hu] at hsrc
            | some ds => exact ⟨ds, rfl⟩
          exact ⟨.int k' (k'.wrap n), by simp [execOp, Go.convert, rx, under_run hd, under_run hds, Conv.intToInt], by simp [Rep]⟩
        · cases h
      · cases h
    · cases h
  case extract x i =>
    have rx := hρ x (by simp [Op.operands])
    generalize ρa x = y at h rx
    unfold extractA at h
    split at h
    · simp only [Rep] at rx
      obtain ⟨us, e, r⟩ := rx
      obtain ⟨u, hu, ru⟩ := r.get h
      exact ⟨u, by simp [execOp, e, Instr.extract, hu], ru⟩
    · cases h
  case build t parts =>
    refine pure_build (us := parts.map fun (i, x) => (i, ρ x)) (by simp) ?_ h
    intro i p u hp hu
    simp only [List.getElem?_map] at hp
    simp only [Array.toList_map, List.getElem?_map] at hu
    obtain ⟨q, hq, rfl⟩ := Option.map_eq_some_iff.1 hp
    rw [hq] at hu
    simp only [Option.map_some, Option.some.injEq] at hu
    subst hu
    refine hρ q.2 ?_
    simp only [Op.operands]
    have : q ∈ parts.toList := List.mem_of_getElem? hq
    simp
    exact ⟨q.1, by simpa using this⟩
  case slice t x lo hi mx =>
    cases mx with
    | some m =>
      simp only at h
      refine pure_slice3 (m' := some (ρ m)) (hρ x (by simp [Op.operands])) ?_ (by simp) ?_ (by simp) ?_ (by simp) h
      · intro a z ha hz
        cases lo with
        | none => simp at ha
        | some y => simp at ha hz; subst ha hz; exact hρ y (by simp [Op.operands])
      · intro a z ha hz
        cases hi with
        | none => simp at ha
        | some y => simp at ha hz; subst ha hz; exact hρ y (by simp [Op.operands])
      · intro a z ha hz
        simp at ha hz; subst ha hz; exact hρ m (by simp [Op.operands])
    | none =>
      simp only at h
      refine pure_slice (hρ x (by simp [Op.operands])) ?_ (by simp) ?_ (by simp) h
      · intro a z ha hz
        cases lo with
        | none => simp at ha
        | some y => simp at ha hz; subst ha hz; exact hρ y (by simp [Op.operands])
      · intro a z ha hz
        cases hi with
        | none => simp at ha
        | some y => simp at ha hz; subst ha hz; exact hρ y (by simp [Op.operands])
  case field t x f => exact pure_field (hρ x (by simp [Op.operands])) h
  case lookup t m k ok => exact pure_lookup hs (hρ m (by simp [Op.operands])) (hρ k (by simp [Op.operands])) h
  case makeFunc f first cap =>
    cases h
    refine ⟨.func f (first.map ρ) (cap.map ρ), rfl, ?_⟩
    simp only [Rep]
    refine ⟨first.toList.map ρ, cap.toList.map ρ, by simp [← Array.toList_map], ?_, ?_⟩
    · exact RepL.map _ _ _ fun x hx => hρ x (by simp [Op.operands]; exact .inl (by simpa using hx))
    · exact RepL.map _ _ _ fun x hx => hρ x (by simp [Op.operands]; exact .inr (by simpa using hx))
  case nilCheck x =>
    have rx := hρ x (by simp [Op.operands])
    generalize ρa x = y at h rx
    unfold nilCheckA at h
    split at h
    · cases h
      have rx' := rx
      simp only [Rep] at rx
      obtain ⟨b, hb, e⟩ := rx
      exact ⟨ρ x, by simp [execOp, e], rx'⟩
    · cases h
      have rx' := rx
      simp only [Rep] at rx
      obtain ⟨b, o, e, _⟩ := rx
      exact ⟨ρ x, by simp [execOp, e], rx'⟩
    · cases h
      have rx' := rx
      simp only [Rep] at rx
      obtain ⟨us, vs, e, _⟩ := rx
      exact ⟨ρ x, by simp [execOp, e], rx'⟩
    · cases h
  case call c =>
    cases hcal : c.callee with
    | builtin b =>
      have hargs : RepL σ (c.args.toList.map ρa) (c.args.map ρ).toList := by
        simp only [Array.toList_map]
        exact RepL.map _ _ _ fun x hx => hρ x (by simp [Op.operands, Call.operands, hcal]; exact by simpa using hx)
      simp only [hcal] at h
      cases b <;> simp only [reduceCtorEq] at h
      case len =>
        have := pure_len (P := P) (w := w) (ty := ty) hargs h
        obtain ⟨u, hu, ru⟩ := this
        exact ⟨u, by simpa [execOp, resolve, hcal, invoke, builtin] using hu, ru⟩
      case max =>
        obtain ⟨k, k', a, b, e, rfl⟩ := maxA_spec h
        have e' := two_ints hargs e
        exact ⟨.int k (if b > a then b else a), by simp [execOp, resolve, hcal, invoke, builtin, e', Builtin.max_, Builtin.max2], by simp [Rep]⟩
      case min =>
        obtain ⟨k, k', a, b, e, rfl⟩ := minA_spec h
        have e' := two_ints hargs e
        exact ⟨.int k (if b < a then b else a), by simp [execOp, resolve, hcal, invoke, builtin, e', Builtin.min_, Builtin.min2], by simp [Rep]⟩
    | _ => simp [hcal] at h

end
end Go.Ab
