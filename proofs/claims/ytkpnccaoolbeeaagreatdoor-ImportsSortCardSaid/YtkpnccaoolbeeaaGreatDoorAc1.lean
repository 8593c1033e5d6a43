/- An abstract machine for the model: abstract values, abstract memory, and what the pure operations make of them. Definitions alone; nothing of a program. -/
import Derived.WalkKit
import Derived.Orders
namespace Go.Ab
set_option linter.unusedVariables false
open Go

/-- Who may append to a slice in its place: nobody; it is nil; the one version of the row with this stamp. -/
inductive Own where
  | ro
  | nil
  /-- There is no room behind the elements. -/
  | full
  | own (k : Nat)

/-- Abstract values. A slice bears its elements, a string its bytes; a pointer names an abstract block; 'rptr' points into memory that nobody writes any more, with the cells that lie there. -/
inductive AV where
  | junk
  | any
  | int (k : IntKind) (n : Int)
  | bool (b : Bool)
  | str (l : List UInt8)
  | agg (cs : List AV)
  | tup (cs : List AV)
  | vec (o : Own) (es : List AV)
  | ptr (id off : Nat)
  | rptr (cs : List AV)
  | fn (f : Fn) (first cap : List AV)
  | iface (t : TypeId) (v : AV)
  | val (v : Value)
  /-- A slice of a row that may be written: so many elements of so many cells, from this one on. -/
  | sl (id s off len : Nat)
  | map (id : Nat)
  deriving Inhabited

def AV.cells : AV → List AV
  | .agg cs => cs
  | v => [v]

/-- How many cells it takes; none: not known. -/
def AV.width : AV → Option Nat
  | .junk => none
  | .agg cs => some cs.length
  | .tup _ => none
  | .val v => if v.oneCell' then some 1 else none
  | _ => some 1

/-- One cell that may be stored. -/
def AV.one : AV → Bool
  | .junk | .agg _ | .tup _ => false
  | .val v => v.oneCell'
  | _ => true

/-- What a slice may be handed on as, where nobody appends to it in its place. -/
def Own.bare : Own → Own
  | .own _ => .ro
  | o => o

def AV.bare : AV → AV
  | .vec o es => .vec o.bare es
  | v => v

def AV.erase : AV → AV
  | .agg cs => .agg (cs.map AV.bare)
  | .tup cs => .tup (cs.map fun c => match c with | .agg ds => .agg (ds.map AV.bare) | c => c.bare)
  | v => v.bare

def ofV1 : Value → AV
  | .int k n => .int k n
  | .bool b => .bool b
  | .string s => .str s.data.toList
  | .slice none 0 0 => .vec .nil []
  | v => .val v

def ofV : Value → AV
  | .agg cs => .agg (cs.toList.map ofV1)
  | v => ofV1 v

/-! ### Abstract memory -/

inductive AObj where
  | cells (te : Option TypeId) (cs : List AV)
  /-- A row that may grow: so many elements, of this type. -/
  | tip (n : Nat) (et : TypeId)
  /-- A row that may be written and may grow: so many elements, of this type and of so many cells; the cells. -/
  | row (n : Nat) (et : TypeId) (s : Nat) (cs : List AV)
  /-- A map: keys, values, when each came in; how many came in. -/
  | map (es : List (AV × AV × Nat)) (clock : Nat)

structure AHeap where
  next : Nat
  objs : List (Nat × AObj)

def getL : List (Nat × AObj) → Nat → Option AObj
  | [], _ => none
  | (k, x) :: r, id => if k = id then some x else getL r id

def setL : List (Nat × AObj) → Nat → AObj → List (Nat × AObj)
  | [], _, _ => []
  | (k, x) :: r, id, y => if k = id then (k, y) :: r else (k, x) :: setL r id y

def delL : List (Nat × AObj) → Nat → List (Nat × AObj)
  | [], _ => []
  | (k, x) :: r, id => if k = id then delL r id else (k, x) :: delL r id

def AHeap.del (H : AHeap) (id : Nat) : AHeap := { H with objs := delL H.objs id }
def AHeap.get (H : AHeap) (id : Nat) : Option AObj := if id < H.next then getL H.objs id else none
def AHeap.set (H : AHeap) (id : Nat) (x : AObj) : AHeap := { H with objs := setL H.objs id x }
def AHeap.push (H : AHeap) (x : AObj) : AHeap := { next := H.next + 1, objs := (H.next, x) :: H.objs }
def AHeap.empty : AHeap := { next := 0, objs := [] }

/-! ### What the operations ask of the types -/

def isAggD : TypeDesc → Bool
  | .struct _ => true
  | .array .. => true
  | _ => false

def szQ (P : Program) (t : TypeId) : Option Nat := (P.info? t).map (·.size)
def byQ (P : Program) (t : TypeId) : Option Nat := (P.info? t).map (·.bytes)
def aggQ (P : Program) (t : TypeId) : Option Bool := (P.underlying t).map isAggD
def elemQ (P : Program) (t : TypeId) : Option TypeId := match P.underlying t with | some (.slice e) => some e | _ => none
def isStrQ (P : Program) (t : TypeId) : Bool := match P.underlying t with | some .string => true | _ => false
def fieldsQ (P : Program) (t : TypeId) : Option (List (Nat × TypeId)) := match P.underlying t with | some (.struct fs) => some (fs.toList.map fun f => (f.offset, f.type)) | _ => none
def placesQ (P : Program) (t : TypeId) : Option (List (Nat × Nat)) := match P.underlying t with
  | some (.struct fs) => fs.toList.mapM (fun f => (P.info? f.type).map fun i => (f.offset, i.size))
  | some (.array n el) => (P.info? el).map fun i => (List.range n).map fun j => (j * i.size, i.size)
  | _ => none
def zeroQ (P : Program) (t : TypeId) : Option (List AV) := match P.info? t with | some i => i.zero.map fun v => v.cells.toList.map ofV1 | _ => none
/-- A map's key type and its element type. -/
def mapQ (P : Program) (t : TypeId) : Option (TypeId × TypeId) := match P.underlying t with | some (.map k e) => some (k, e) | _ => none
def zeroV (P : Program) (t : TypeId) : Option AV := match P.info? t with | some i => i.zero.map ofV | _ => none
def intQ (P : Program) (t : TypeId) : Option IntKind := match P.underlying t with | some (.int k) => some k | _ => none

/-! ### Pure operations: the memory stays as it is -/

def ldA (P : Program) (t : TypeId) (cs : List AV) (off : Nat) : Option AV :=
  match aggQ P t with
  | some true =>
    match szQ P t with
    | some n => if off + n ≤ cs.length then some (.agg ((cs.drop off).take n)) else none
    | none => none
  | some false => cs[off]?
  | none => none

def intBin (op : BinOp) (k : IntKind) (a b : Int) : Option AV :=
  match op with
  | .add => some (.int k (k.wrap (a + b)))
  | .sub => some (.int k (k.wrap (a - b)))
  | .mul => some (.int k (k.wrap (a * b)))
  | .quo => if b = 0 then none else some (.int k (k.wrap (a.tdiv b)))
  | .rem => if b = 0 then none else some (.int k (a.tmod b))
  | .eql => some (.bool (a == b))
  | .neq => some (.bool (a != b))
  | .lss => some (.bool (decide (a < b)))
  | .leq => some (.bool (decide (a ≤ b)))
  | .gtr => some (.bool (decide (a > b)))
  | .geq => some (.bool (decide (a ≥ b)))
  | _ => none

def strBin (op : BinOp) (x y : List UInt8) : Option AV :=
  match op with
  | .add => if x.length + y.length ≤ 9223372036854775807 then some (.str (x ++ y)) else none
  | .eql => some (.bool (x == y))
  | .neq => some (.bool (!(x == y)))
  | .lss => some (.bool (Op.bytesLess x y))
  | .leq => some (.bool (Op.bytesLess x y || x == y))
  | .gtr => some (.bool (!(Op.bytesLess x y || x == y)))
  | .geq => some (.bool (!Op.bytesLess x y))
  | _ => none

/-- The kinds of cells that are compared one by one. -/
inductive EK where
  | int
  | bool
  | str

def eqFs (P : Program) (g : TypeId → Option (List EK)) : Nat → List Field → Option (List EK)
  | _, [] => some []
  | off, f :: fs =>
    if f.name = "_" ∨ f.offset ≠ off then none else
    match g f.type with
    | some ks => if szQ P f.type = some ks.length ∧ ks.length ≠ 0 ∧ (aggQ P f.type = some true ∨ (aggQ P f.type = some false ∧ ks.length = 1)) then
        match eqFs P g (off + ks.length) fs with
        | some r => some (ks ++ r)
        | none => none
      else none
    | none => none

/-- The cells of a type whose values are compared cell by cell. -/
def eqQ (P : Program) : Nat → TypeId → Option (List EK)
  | 0, _ => none
  | d + 1, t =>
    match P.underlying t with
    | some .bool => some [.bool]
    | some (.int _) => some [.int]
    | some .string => some [.str]
    | some (.struct fs) => if P.stoodInHeld t = true ∨ P.eqGuardType P.depth t = true then none else eqFs P (eqQ P d) 0 fs.toList
    | _ => none

def eqCell : EK → AV → AV → Option Bool
  | .int, .int k a, .int k' b => if k = k' then some (a == b) else none
  | .bool, .bool a, .bool b => some (a == b)
  | .str, .str a, .str b => some (a == b)
  | _, _, _ => none

def eqCells : List EK → List AV → List AV → Option Bool
  | [], [], [] => some true
  | k :: ks, x :: xs, y :: ys =>
    match eqCell k x y with
    | some b => match eqCells ks xs ys with
      | some r => some (b && r)
      | none => none
    | none => none
  | _, _, _ => none

def eqBin (op : BinOp) (r : Option Bool) : Option AV :=
  match op with
  | .eql => match r with | some b => some (.bool b) | none => none
  | .neq => match r with | some b => some (.bool (!b)) | none => none
  | _ => none

/-- Comparing with a nil pointer, a nil interface. -/
def nilBin (op : BinOp) (b : Bool) : Option AV :=
  match op with
  | .eql => some (.bool b)
  | .neq => some (.bool (!b))
  | _ => none

def ptrQ (P : Program) (t : TypeId) : Bool := match P.underlying t with | some (.pointer _) => true | _ => false
def ifaceQ (P : Program) (t : TypeId) : Bool := match P.underlying t with | some (.interface _) => true | _ => false

def funcQ (P : Program) (t : TypeId) : Bool := match P.underlying t with | some (.func _ _ _) => true | _ => false

def sliceTQ (P : Program) (t : TypeId) : Bool := match P.underlying t with | some (.slice _) => true | _ => false

def shiftA (op : BinOp) (k : IntKind) (a b : Int) : Option AV :=
  if b < 0 then none else
  match op with
  | .shl => some (.int k (k.wrap (a * 2 ^ min b.toNat k.bits)))
  | .shr => some (.int k (a.fdiv (2 ^ min b.toNat k.bits)))
  | _ => none

/-- An empty slice that is not nil. -/
def isES : Value → Bool
  | .slice (some _) 0 _ => true
  | _ => false

def isShift : BinOp → Bool
  | .shl => true
  | .shr => true
  | _ => false

def binA (P : Program) (op : BinOp) (t : TypeId) (x y : AV) : Option AV :=
  match x, y with
  | .int k a, .int k' b => if isShift op = true then shiftA op k a b else if k = k' then intBin op k a b else none
  | .str a, .str b => strBin op a b
  | .bool a, .bool b => if aggQ P t = some false then match eqQ P 4 t with | some [.bool] => eqBin op (some (a == b)) | _ => none else none
  | .agg xs, .agg ys => if aggQ P t = some true then match eqQ P 4 t with | some ks => eqBin op (eqCells ks xs ys) | none => none else none
  | .ptr _ _, .val (.pointer none) => if ptrQ P t = true then nilBin op false else none
  | .rptr _, .val (.pointer none) => if ptrQ P t = true then nilBin op false else none
  | .val (.pointer none), .val (.pointer none) => if ptrQ P t = true then nilBin op true else none
  | .iface _ _, .val .nilIface => if ifaceQ P t = true then nilBin op false else none
  | .fn _ _ _, .val .nilFunc => if funcQ P t = true then nilBin op false else none
  | .sl _ _ _ _, .vec .nil [] => if sliceTQ P t = true then nilBin op false else none
  | .vec _ (_ :: _), .vec .nil [] => if sliceTQ P t = true then nilBin op false else none
  | .vec .nil [], .vec .nil [] => if sliceTQ P t = true then nilBin op true else none
  | .val v, .vec .nil [] => if isES v = true ∧ sliceTQ P t = true then nilBin op false else none
  | _, _ => none

def isConstO : Operand → Bool
  | .const _ => true
  | _ => false

def bothNil : AV → AV → Bool
  | .val .nilIface, .val .nilIface => true
  | _, _ => false

/-- Two nil interfaces are compared where one of them is written as nil. -/
def binC (P : Program) (op : BinOp) (t : TypeId) (c : Bool) (x y : AV) : Option AV :=
  if bothNil x y = true then (if c = true ∧ ifaceQ P t = true then nilBin op true else none) else binA P op t x y

/-- One part of a struct is laid over its cells. -/
def overlay (cs : List AV) (off : Nat) (vs : List AV) : List AV := cs.take off ++ vs ++ cs.drop (off + vs.length)

def fillA (place : Nat → Option (Nat × Nat)) : List AV → List (Nat × AV) → Option (List AV)
  | cs, [] => some cs
  | cs, (i, v) :: rest =>
    match place i with
    | none => none
    | some (off, n) => if v.width = some n ∧ off + n ≤ cs.length then fillA place (overlay cs off v.cells) rest else none

def sliceBnd (x : Option AV) (d y : Nat) : Option Nat :=
  match x with
  | none => some d
  | some (.int _ i) => if 0 ≤ i ∧ i ≤ (y : Int) then some i.toNat else none
  | some _ => none

/-- The first and the second bound of a slice expression, of something so long. -/
def sliceLH (n : Nat) (lo hi : Option AV) : Option (Nat × Nat) :=
  match sliceBnd hi n n with
  | some h => match sliceBnd lo 0 h with
    | some l => some (l, h)
    | none => none
  | none => none

def loadA (P : Program) (H : AHeap) (t : TypeId) : AV → Option AV
  | .rptr cs => ldA P t cs 0
  | .ptr id off => match H.get id with | some (.cells _ cs) => ldA P t cs off | some (.row _ _ _ cs) => ldA P t cs off | _ => none
  | _ => none

def fieldAddrA (P : Program) (s : TypeId) (f : Nat) (a : AV) : Option AV :=
  match fieldsQ P s with
  | some fs => match fs[f]? with
    | some (off, ft) =>
      if szQ P ft = some 0 ∨ szQ P ft = none then none else
      match a with
      | .ptr id o => some (.ptr id (o + off))
      | .rptr cs => if off ≤ cs.length then some (.rptr (cs.drop off)) else none
      | _ => none
    | none => none
  | none => none

def indexAddrA (P : Program) (t : TypeId) : AV → AV → Option AV
  | .vec _ es, .int _ n =>
    if 0 ≤ n then
      match es[n.toNat]? with
      | some e => match elemQ P t with
        | some et => if szQ P et = e.width ∧ szQ P et ≠ none then some (.rptr e.cells) else none
        | none => none
      | none => none
    else none
  | .sl id s off len, .int _ n =>
    if 0 ≤ n ∧ n.toNat < len then
      match elemQ P t with
      | some et => if szQ P et = some s ∧ s ≠ 0 then some (.ptr id ((off + n.toNat) * s)) else none
      | none => none
    else none
  | _, _ => none

/-- A field of a struct that is no variable. -/
def fieldA (P : Program) (s : TypeId) (f : Nat) : AV → Option AV
  | .agg cs => match fieldsQ P s with
    | some fs => match fs[f]? with
      | some (off, ft) => ldA P ft cs off
      | none => none
    | none => none
  | _ => none

def indexA (P : Program) (t : TypeId) : AV → AV → Option AV
  | .str l, .int _ n => if isStrQ P t = true ∧ 0 ≤ n then match l[n.toNat]? with | some b => some (.int .u8 b.toNat) | none => none else none
  | _, _ => none

def unA : UnOp → AV → Option AV
  | .not, .bool b => some (.bool (!b))
  | .neg, .int k n => some (.int k (k.wrap (0 - n)))
  | _, _ => none

def convA (P : Program) (src dst : TypeId) : AV → Option AV
  | .int _ n => if aggQ P src ≠ none then match intQ P dst with | some k => some (.int k (k.wrap n)) | none => none else none
  | _ => none

def extractA (i : Nat) : AV → Option AV
  | .tup l => l[i]?
  | _ => none

def buildA (P : Program) (t : TypeId) (parts : List (Nat × AV)) : Option AV :=
  match zeroQ P t, placesQ P t with
  | some z, some fs => match fillA (fs[·]?) z parts with | some cs => some (.agg cs) | none => none
  | _, _ => none

/-- The elements' cells are as many as their type has. -/
def strideQ (P : Program) (t : TypeId) (es : List AV) : Bool :=
  match elemQ P t with
  | some et => match szQ P et with
    | some s => es.head?.all fun e => e.width == some s
    | none => false
  | none => false

/-- What is left of the room when a slice is cut at its end: nothing was, nothing is. -/
def cutOwn : Own → Option AV → Own
  | .nil, none => .full
  | .full, none => .full
  | _, _ => .ro

def sliceA (P : Program) (t : TypeId) (lo hi : Option AV) : AV → Option AV
  | .str l => if isStrQ P t = true then match sliceLH l.length lo hi with | some (a, b) => some (.str ((l.take b).drop a)) | none => none else none
  | .vec o es => if strideQ P t es = true then match sliceLH es.length lo hi with | some (a, b) => some (.vec (cutOwn o hi) ((es.take b).drop a)) | none => none else none
  | .sl id s off len =>
    match elemQ P t with
    | some et =>
      if szQ P et = some s then
        match sliceLH len lo hi with
        | some (a, b) => if a = 0 then some (.sl id s off b) else if a < b then some (.sl id s (off + a) (b - a)) else some (.vec .ro [])
        | none => none
      else none
    | none => none
  | _ => none

def isZ : Option AV → Bool
  | some (.int _ n) => n == 0
  | _ => false
def isSl : AV → Bool
  | .vec _ _ => true
  | .sl _ _ _ _ => true
  | _ => false

/-- s[0:0:0]: an empty slice without room. -/
def slice3A (P : Program) (t : TypeId) (lo hi mx : Option AV) (a : AV) : Option AV :=
  if isZ hi = true ∧ isZ mx = true ∧ (lo.isNone = true ∨ isZ lo = true) ∧ isSl a = true then
    match elemQ P t with
    | some et => match szQ P et with | some _ => some (.vec .full []) | none => none
    | none => none
  else none

def nilCheckA : AV → Option AV
  | .ptr id o => some (.ptr id o)
  | .rptr cs => some (.rptr cs)
  | .fn (.func f) first cap => some (.fn (.func f) first cap)
  | _ => none

def lenA (P : Program) (tys : Array TypeId) : List AV → Option AV
  | [.str l] => match tys[0]? with | some t => if isStrQ P t = true then some (.int .i64 l.length) else none | none => none
  | [.vec _ es] => match tys[0]? with | some t => if elemQ P t ≠ none then some (.int .i64 es.length) else none | none => none
  | [.sl _ _ _ n] => match tys[0]? with | some t => if elemQ P t ≠ none then some (.int .i64 n) else none | none => none
  | [.val v] => match tys[0]? with | some t => if isES v = true ∧ elemQ P t ≠ none then some (.int .i64 0) else none | none => none
  | _ => none

def maxA : List AV → Option AV
  | [.int k a, .int _ b] => some (.int k (if b > a then b else a))
  | _ => none

def minA : List AV → Option AV
  | [.int k a, .int _ b] => some (.int k (if b < a then b else a))
  | _ => none

def pickA (a b : AV) : AV → Option AV
  | .bool v => some (if v then a else b)
  | _ => none

/-- The same key? -/
def keyEqA : AV → AV → Option Bool
  | .int k a, .int k' b => if k = k' then some (a == b) else none
  | .str a, .str b => some (a == b)
  | _, _ => none

/-- The entry of a key, by its number. -/
def findA (k : AV) : List (AV × AV × Nat) → Nat → Option (Option (Nat × AV))
  | [], _ => some none
  | (k', v, _) :: es, i => match keyEqA k k' with
    | some true => some (some (i, v))
    | some false => findA k es (i + 1)
    | none => none

/-- A key of a map's key type: an int, a string, an array of ints. -/
def keyOkA (P : Program) (kt : TypeId) (k : AV) : Bool :=
  match P.underlying kt with
  | some (.int q) => match k with | .int q' _ => decide (q' = q) | _ => false
  | some .string => match k with | .str _ => true | _ => false
  | some (.array n el) => match k with
    | .agg cs => n == cs.length && (match P.underlying el with | some (.int _) => true | _ => false) && szQ P el == some 1
    | _ => false
  | _ => false

def lookupA (P : Program) (H : AHeap) (t : TypeId) (m k : AV) (ok : Bool) : Option AV :=
  match m with
  | .map id => match H.get id with
    | some (.map es _) => match mapQ P t with
      | some (kt, et) => if keyOkA P kt k = true then
          match findA k es 0 with
          | some (some (_, v)) => some (if ok then .tup [v, .bool true] else v)
          | some none => match zeroV P et with | some z => some (if ok then .tup [z, .bool false] else z) | none => none
          | none => none
        else none
      | none => none
    | _ => none
  | _ => none

def pureOp (P : Program) (o : Op) (ρ : Operand → AV) (H : AHeap) : Option AV :=
  match o with
  | .move x => some (ρ x)
  | .assign x => some (ρ x)
  | .pick c a b => pickA (ρ a) (ρ b) (ρ c)
  | .load t a => loadA P H t (ρ a)
  | .fieldAddr s x f => fieldAddrA P s f (ρ x)
  | .indexAddr t x i => indexAddrA P t (ρ x) (ρ i)
  | .index t x i => indexA P t (ρ x) (ρ i)
  | .binOp op t x y _ => binC P op t (isConstO x || isConstO y) (ρ x) (ρ y)
  | .unOp op _ x => unA op (ρ x)
  | .convert src dst x => convA P src dst (ρ x)
  | .extract x i => extractA i (ρ x)
  | .build t parts => buildA P t (parts.toList.map fun p => (p.1, ρ p.2))
  | .slice t x lo hi mx => match mx with | none => sliceA P t (lo.map ρ) (hi.map ρ) (ρ x) | some m => slice3A P t (lo.map ρ) (hi.map ρ) (some (ρ m)) (ρ x)
  | .field t x f => fieldA P t f (ρ x)
  | .lookup t m k ok => lookupA P H t (ρ m) (ρ k) ok
  | .makeFunc f first cap => some (.fn f (first.toList.map ρ) (cap.toList.map ρ))
  | .nilCheck x => nilCheckA (ρ x)
  | .call c =>
    match c.callee with
    | .builtin .len => lenA P c.argTypes (c.args.toList.map ρ)
    | .builtin .max => maxA (c.args.toList.map ρ)
    | .builtin .min => minA (c.args.toList.map ρ)
    | _ => none
  | _ => none

end Go.Ab
