/- The abstract machine, 2: the machine; allocations, stores, appends, calls are sound. -/
import Derived.Test.YtiagmokcjljliaaGreatDoorAm1
import Derived.Deep.Upon
import Derived.Laws.MakeOwn
import Derived.Laws.IdiomStrings
/- The abstract machine itself: all operations, regions, code, functions. Definitions alone. -/

namespace Go.Ab
set_option linter.unusedVariables false
open Go

/-- Nothing in it hangs on where a block of the caller's lies. -/
def AV.noPtr : AV → Bool
  | .agg cs => go cs
  | .tup cs => go cs
  | .vec o es => (match o with | .own _ => false | _ => true) && go es
  | .ptr _ _ => false
  | .sl _ _ _ _ => false
  | .map _ => false
  | .rptr cs => go cs
  | .fn _ first cap => go first && go cap
  | .iface _ v => v.noPtr
  | _ => true
where go : List AV → Bool
  | [] => true
  | c :: cs => c.noPtr && go cs


def bnd {α β : Type} (x : Option α) (f : α → Option β) : Option β := match x with | some a => f a | none => none
def sel {α : Type} (c : Bool) (x y : α) : α := if c then x else y

def mapO {α β : Type} (f : α → Option β) : List α → Option (List β)
  | [] => some []
  | x :: r => bnd (f x) fun y => bnd (mapO f r) fun ys => some (y :: ys)

def allOne : List AV → Bool
  | [] => true
  | c :: cs => c.one && allOne cs

/-- A row's cells, an element at a time. -/
def chunkA (agg : Bool) (s : Nat) : Nat → List AV → List AV
  | 0, _ => []
  | n + 1, cs => (if agg then .agg (cs.take s) else cs.headD .junk) :: chunkA agg s n (cs.drop s)

/-- A value without pointers, where nobody writes the memory any more. -/
def frz (P : Program) (H : AHeap) : Nat → AV → Option AV
  | 0, _ => none
  | n + 1, v => match v with
    | .agg cs => bnd (mapO (frz P H n) cs) fun ds => some (.agg ds)
    | .tup cs => bnd (mapO (frz P H n) cs) fun ds => some (.tup ds)
    | .vec o es => bnd (mapO (frz P H n) es) fun ds => some (.vec o.bare ds)
    | .rptr cs => bnd (mapO (frz P H n) cs) fun ds => some (.rptr ds)
    | .fn f a b => bnd (mapO (frz P H n) a) fun a' => bnd (mapO (frz P H n) b) fun b' => some (.fn f a' b')
    | .iface t x => bnd (frz P H n x) fun y => some (.iface t y)
    | .ptr id off => match H.get id with
      | some (.cells _ cs) => if allOne (cs.drop off) = true then bnd (mapO (frz P H n) (cs.drop off)) fun ds => some (.rptr ds) else none
      | some (.row _ _ _ cs) => bnd (mapO (frz P H n) (cs.drop off)) fun ds => some (.rptr ds)
      | _ => none
    | .sl id s off len => match H.get id with
      | some (.row m et s' cs) => match aggQ P et with
        | some g => if s' = s ∧ off + len ≤ m ∧ (g = true ∨ s = 1) then bnd (mapO (frz P H n) (chunkA g s len (cs.drop (off * s)))) fun ds => some (.vec .ro ds) else none
        | none => none
      | _ => none
    | .map _ => none
    | v => some v

abbrev CallO := FuncId → List AV → AHeap → Option (AV × AHeap)
abbrev Frm := Nat → AV

def undefA : AV := .val (.tuple #[])

def ev (α : Frm) : Operand → AV
  | .tmp t => α t
  | .const v => ofV v
  | .global g => .val (.pointer (some ⟨g, 0, none⟩))
  | .func f => .fn (.func f) [] []

def put (α : Frm) (dst : Option Tmp) (v : AV) : Frm :=
  match dst with
  | some d => fun i => if i = d then v else α i
  | none => α

structure Env where
  P : Program
  /-- The functions whose text is run here. -/
  G : FuncId → Bool
  /-- The functions that neither take nor give pointers: they are run in a memory of their own. -/
  cl : FuncId → Bool
  /-- The slices of these types may be written where they stand. -/
  mutT : TypeId → Bool
  /-- These functions defer one closure's call. -/
  df : FuncId → Bool
  /-- The regions of these numbers are looked at while they run. -/
  dyn : Nat → Bool
  /-- The others, by contracts. -/
  ext : CallO
  /-- These regions (of those that are looked at) are run in all their orders; they call nothing. -/
  any : Array Oper → Bool := fun _ => false

/-- A call in a memory of its own. -/
def closedCall (P : Program) (call : CallO) (f : FuncId) (args : List AV) : Option AV :=
  if AV.noPtr.go (args.map AV.erase) = true then
    match call f (args.map AV.erase) .empty with
    | some (v, H) => if v.erase.noPtr = true then some v.erase else bnd (frz P H 100 v) fun v' => if v'.noPtr = true then some v' else none
    | none => none
  else none

/-- The function that is called, and what is put ahead of the arguments and behind them. -/
def target : AV → Option (FuncId × List AV × List AV)
  | .fn (.func f) first cap => some (f, first, cap)
  | _ => none

def allWidth (n : Nat) : List AV → Bool
  | [] => true
  | c :: cs => (c.width == some n) && allWidth n cs

def allOneL : List AV → Bool
  | [] => true
  | c :: cs => allOne c.cells && allOneL cs

def storeA (P : Program) (t : TypeId) (a x : AV) (H : AHeap) : Option (AV × AHeap) :=
  match a with
  | .ptr id off => match H.get id with
    | some (.cells te cs) =>
      if szQ P t = x.width ∧ x.width ≠ none ∧ off + x.cells.length ≤ cs.length ∧ allOne x.cells = true then some (undefA, H.set id (.cells te (overlay cs off x.cells))) else none
    | some (.row n et s cs) =>
      if szQ P t = x.width ∧ x.width ≠ none ∧ off + x.cells.length ≤ cs.length ∧ allOne x.cells = true then some (undefA, H.set id (.row n et s (overlay cs off x.cells))) else none
    | _ => none
  | _ => none

def allocA (P : Program) (t : TypeId) (H : AHeap) : Option (AV × AHeap) :=
  match zeroQ P t with
  | some z => some (.ptr H.next 0, H.push (.cells (some t) z))
  | none => none

def boxA (x : AV) (H : AHeap) : Option (AV × AHeap) :=
  if x.width ≠ none then some (.ptr H.next 0, H.push (.cells none x.cells)) else none

/-- Elements one behind the other: 0, 1, 2 .. -/
def inOrder : Nat → List (Nat × AV) → Bool
  | _, [] => true
  | n, (i, _) :: r => (i == n) && inOrder (n + 1) r

def buildSliceA (P : Program) (t : TypeId) (len : Nat) (parts : List (Nat × AV)) (H : AHeap) : Option (AV × AHeap) :=
  match elemQ P t with
  | some et => match szQ P et, zeroQ P et with
    | some s, some z =>
      if parts.length = len ∧ inOrder 0 parts = true ∧ allWidth s (parts.map fun p => p.2.erase) = true ∧ allOneL (parts.map fun p => p.2.erase) = true ∧ s ≠ 0 ∧ z.length = s ∧ len * s ≤ 16777216 then
        some (.vec .full (parts.map fun p => p.2.erase), H)
      else none
    | _, _ => none
  | none => none

/-- What is appended: so many elements, and their cells. -/
def srcA (P : Program) (H : AHeap) (s : Nat) : AV → Option (Nat × List AV)
  | .vec _ fs => if allWidth s fs = true then some (fs.length, fs.flatMap AV.cells) else none
  | .sl id s' off len => match H.get id with
    | some (.row m _ s2 cs) => if s' = s ∧ off + len ≤ m ∧ s2 = s then some (len, (cs.drop (off * s)).take (len * s)) else none
    | _ => none
  | .val v => if isES v = true then some (0, []) else none
  | _ => none

/-- Appending so many elements, with these cells, to a row that may be written. -/
def appendSrc (et s by_ : Nat) (x : AV) (m : Nat) (src : List AV) (H : AHeap) : Option (AV × AHeap) :=
    match x with
    | .vec o es =>
      if m = 0 then some (x, H) else
      match o with
      | .own _ => none
      | .ro => none
      | _ => if allWidth s es = true ∧ (es.length + m) * by_ ≤ 140737488355328 ∧ es.length + m ≤ 9223372036854775807 then some (.sl H.next s 0 (es.length + m), H.push (.row (es.length + m) et s (es.flatMap AV.cells ++ src))) else none
    | .sl id s' off len =>
      if m = 0 then some (x, H) else
      match H.get id with
      | some (.row n et' s2 cs) =>
        if s' = s ∧ et' = et ∧ s2 = s ∧ off = 0 ∧ len ≤ n ∧ (len + m) * by_ ≤ 140737488355328 ∧ len + m ≤ 9223372036854775807 then some (.sl H.next s 0 (len + m), (H.del id).push (.row (len + m) et s (cs.take (len * s) ++ src)))
        else none
      | _ => none
    | _ => none

/-- Appending to a row that may be written. -/
def appendRow (P : Program) (et s by_ : Nat) (x y : AV) (H : AHeap) : Option (AV × AHeap) :=
  match srcA P H s y with
  | none => none
  | some (m, src) => appendSrc et s by_ x m src H

/-- Appending where nobody writes what is there. -/
def appendVec (P : Program) (t1 : TypeId) (et by_ : Nat) (o : Own) (es fs : List AV) (H : AHeap) : Option (AV × AHeap) :=
  if strideQ P t1 es = true ∧ strideQ P t1 fs = true ∧ (es.length + fs.length) * by_ ≤ 140737488355328 ∧ es.length + fs.length ≤ 9223372036854775807 then
    match o with
    | .nil => if es.length = 0 then (if fs.length = 0 then some (.vec .nil [], H) else some (.vec (.own H.next) fs, H.push (.tip fs.length et))) else none
    | .full => if fs.length = 0 then some (.vec .full es, H) else some (.vec (.own H.next) (es ++ fs), H.push (.tip (es.length + fs.length) et))
    | .own k => match H.get k with
      | some (.tip n et') => if n = es.length ∧ et' = et then some (.vec (.own k) (es ++ fs), H.set k (.tip (es.length + fs.length) et)) else none
      | _ => none
    | .ro => if fs.length = 0 then some (.vec .ro es, H) else none
  else none

/-- Is it to be appended where nobody writes what is there? -/
def persist (mutT : TypeId → Bool) (t : TypeId) (x y : AV) : Option (Own × List AV × List AV) :=
  match x, y with
  | .vec o es, .vec _ fs => match o with
    | .nil => if mutT t = true then none else some (.nil, es, fs)
    | .full => if mutT t = true then none else some (.full, es, fs)
    | o => some (o, es, fs)
  | _, _ => none

/-- The bytes' slices. -/
def bytesQ (P : Program) (d : TypeId) : Bool := match elemQ P d with
  | some et => (match P.underlying et with | some (.int .u8) => true | _ => false) && szQ P et == some 1
  | none => false

/-- A string's bytes behind a slice's. -/
def appendStr (P : Program) (t1 t2 et s by_ : Nat) (x : AV) (l : List UInt8) (H : AHeap) : Option (AV × AHeap) :=
  if bytesQ P t1 = true ∧ isStrQ P t2 = true ∧ s = 1 then appendSrc et s by_ x l.length (l.map fun b => .int .u8 b.toNat) H else none

def appendA (mutT : TypeId → Bool) (P : Program) (t1 t2 : TypeId) (x y : AV) (H : AHeap) : Option (AV × AHeap) :=
  match elemQ P t1 with
  | some et => match szQ P et, byQ P et, zeroQ P et with
    | some s, some by_, some z =>
      match y with
      | .str l => if s ≠ 0 ∧ z.length = s then appendStr P t1 t2 et s by_ x l H else none
      | y =>
      if t1 = t2 ∧ s ≠ 0 ∧ z.length = s then
        match persist mutT t1 x y with
        | some (o, es, fs) => appendVec P t1 et by_ o es fs H
        | none => appendRow P et s by_ x y H
      else none
    | _, _, _ => none
  | none => none

def makeSliceA (P : Program) (t : TypeId) (len cap : AV) (H : AHeap) : Option (AV × AHeap) :=
  match len, cap, elemQ P t with
  | .int _ n, .int _ m, some et =>
    match szQ P et, byQ P et, zeroQ P et with
    | some s, some by_, some z => if n = m ∧ 0 ≤ n ∧ n ≤ 16777216 ∧ s ≠ 0 ∧ z.length = s ∧ allOne z = true ∧ n.toNat * by_ ≤ 140737488355328 then some (.sl H.next s 0 n.toNat, H.push (.row n.toNat et s (List.replicate n.toNat z).flatten)) else none
    | _, _, _ => none
  | _, _, _ => none

def makeMapA (H : AHeap) : AV × AHeap := (.map H.next, H.push (.map [] 0))

def setAt (es : List (AV × AV × Nat)) (i : Nat) (k v : AV) : List (AV × AV × Nat) := es.take i ++ (match es[i]? with | some (_, _, b) => [(k, v, b)] | none => []) ++ es.drop (i + 1)

def mapUpdateA (P : Program) (t : TypeId) (m k v : AV) (H : AHeap) : Option (AV × AHeap) :=
  match m with
  | .map id => match H.get id with
    | some (.map es clock) => match mapQ P t with
      | some (kt, et) => if keyOkA P kt k = true ∧ szQ P et = v.width ∧ v.width ≠ none then
          match findA k es 0 with
          | some (some (i, _)) => some (undefA, H.set id (.map (setAt es i k v) clock))
          | some none => some (undefA, H.set id (.map (es ++ [(k, v, clock)]) (clock + 1)))
          | none => none
        else none
      | none => none
    | _ => none
  | _ => none

def callA (E : Env) (call : CallO) (f : AV) (args : List AV) (H : AHeap) : Option (AV × AHeap) :=
  match target f with
  | some (f, first, cap) =>
    if E.cl f = true then bnd (closedCall E.P call f (first ++ args ++ cap)) fun v => some (v, H)
    else call f (first ++ args ++ cap) H
  | none => none

def appendOp (mutT : TypeId → Bool) (P : Program) (tys : List TypeId) (args : List AV) (H : AHeap) : Option (AV × AHeap) :=
  match args, tys with
  | [x, y], [t1, t2] => appendA mutT P t1 t2 x y H
  | _, _ => none

/-- A map is asked how many entries it has? -/
def mapT (P : Program) (tys : Array TypeId) : Bool := match tys[0]? with
  | some t => (mapQ P t).isSome
  | none => false

/-- How long: a map's entries are counted in the memory. -/
def lenOp (P : Program) (tys : Array TypeId) (args : List AV) (H : AHeap) : Option (AV × AHeap) :=
  match args with
  | [.map id] => if mapT P tys = true then match H.get id with | some (.map es _) => some (.int .i64 es.length, H) | _ => none else none
  | args => bnd (lenA P tys args) fun v => some (v, H)

/-- delete(m, k). -/
def deleteOp (P : Program) (tys : Array TypeId) (args : List AV) (H : AHeap) : Option (AV × AHeap) :=
  match args with
  | [.map id, k] => match tys[0]? with
    | some t => match mapQ P t with
      | some (kt, _) => match H.get id with
        | some (.map es clock) => if keyOkA P kt k = true then
            match findA k es 0 with
            | some (some (i, _)) => some (undefA, H.set id (.map (es.eraseIdx i) clock))
            | some none => some (undefA, H)
            | none => none
          else none
        | _ => none
      | none => none
    | none => none
  | _ => none

/-- clear(s), of a slice that may be written. -/
def clearOp (P : Program) (tys : Array TypeId) (args : List AV) (H : AHeap) : Option (AV × AHeap) :=
  match args with
  | [.vec _ []] => match tys[0]? with
    | some t => if elemQ P t ≠ none then some (undefA, H) else none
    | none => none
  | [.sl id s off len] => match tys[0]? with
    | some t => match elemQ P t with
      | some e => match zeroQ P e, H.get id with
        | some z, some (.row n et s2 cs) => if s2 = s ∧ z.length = s ∧ off + len ≤ n ∧ len ≠ 0 ∧ allOne z = true then some (undefA, H.set id (.row n et s2 (overlay cs (off * s) (List.replicate len z).flatten))) else none
        | _, _ => none
      | none => none
    | none => none
  | _ => none

def stepCall (E : Env) (call : CallO) (c : Call) (ρ : Operand → AV) (H : AHeap) : Option (AV × AHeap) :=
  match c.callee with
  | .value f => callA E call (ρ f) (c.args.toList.map ρ) H
  | .builtin .append => appendOp E.mutT E.P c.argTypes.toList (c.args.toList.map ρ) H
  | .builtin .delete => deleteOp E.P c.argTypes (c.args.toList.map ρ) H
  | .builtin .clear => clearOp E.P c.argTypes (c.args.toList.map ρ) H
  | .builtin .len => lenOp E.P c.argTypes (c.args.toList.map ρ) H
  | _ => bnd (pureOp E.P (.call c) ρ H) fun v => some (v, H)

/-- A row of bytes. -/
def bytesA : List AV → Option (List UInt8)
  | [] => some []
  | .int .u8 n :: r => if 0 ≤ n ∧ n < 256 then bnd (bytesA r) fun l => some (UInt8.ofNat n.toNat :: l) else none
  | _ :: _ => none

/-- A string as bytes; all else as ever. -/
def convOp (P : Program) (s d : TypeId) (v : AV) (H : AHeap) : Option (AV × AHeap) :=
  match v with
  | .str l => if isStrQ P s = true ∧ bytesQ P d = true ∧ l.length ≤ 1099511627776 then some (.vec .ro (l.map fun b => .int .u8 b.toNat), H) else none
  | .vec _ (e :: es) => if isStrQ P d = true ∧ bytesQ P s = true then bnd (bytesA (e :: es)) fun l => some (.str l, H) else none
  | v => bnd (convA P s d v) fun u => some (u, H)

def stepOp (E : Env) (call : CallO) (op : Op) (ρ : Operand → AV) (H : AHeap) : Option (AV × AHeap) :=
  match op with
  | .alloc t => allocA E.P t H
  | .box _ x => boxA (ρ x) H
  | .store t a x => storeA E.P t (ρ a) (ρ x) H
  | .makeSlice t len cap => makeSliceA E.P t (ρ len) (ρ cap) H
  | .convert s d x => convOp E.P s d (ρ x) H
  | .makeMap _ r => match r with | none => some (makeMapA H) | some _ => none
  | .mapUpdate t m k v => mapUpdateA E.P t (ρ m) (ρ k) (ρ v) H
  | .insert t m k v => mapUpdateA E.P t (ρ m) (ρ k) (ρ v) H
  | .buildSlice t len parts => buildSliceA E.P t len (parts.toList.map fun p => (p.1, ρ p.2)) H
  | .call c => stepCall E call c ρ H
  | op => bnd (pureOp E.P op ρ H) fun v => some (v, H)

/-- What an operation asks of the memory: nothing; it reads; it writes. -/
inductive Kd where
  | ins
  | rd
  | wr
  deriving DecidableEq

def kdOf (E : Env) (o : Op) : Kd :=
  match o with
  | .load _ _ => .rd
  | .lookup _ _ _ _ => .rd
  | .alloc _ => .wr
  | .box _ _ => .wr
  | .store _ _ _ => .wr
  | .makeSlice _ _ _ => .wr
  | .makeMap _ _ => .wr
  | .mapUpdate _ _ _ _ => .wr
  | .insert _ _ _ _ => .wr
  | .call c =>
    match c.callee with
    | .value (.func f) => if E.cl f = true then .ins else .wr
    | .value _ => .wr
    | .builtin .append => .wr
    | .builtin .delete => .wr
    | .builtin .clear => .wr
    | .builtin .len => if mapT E.P c.argTypes = true then .rd else .ins
    | _ => .ins
  | _ => .ins

def sameVal : Value → Value → Bool
  | .pointer a, v => match v with | .pointer b => decide (a = b) | _ => false
  | .nilIface, v => match v with | .nilIface => true | _ => false
  | .nilFunc, v => match v with | .nilFunc => true | _ => false
  | .map a, v => match v with | .map b => a.isNone && b.isNone | _ => false
  | _, _ => false

def sameFn : Fn → Fn → Bool
  | .func f, g => match g with | .func f' => f == f' | _ => false
  | _, _ => false

def sameOwn : Own → Own → Bool
  | .ro, .ro => true
  | .nil, .nil => true
  | .full, .full => true
  | .own a, .own b => a == b
  | _, _ => false

mutual
def sameAV : AV → AV → Bool
  | .int k a, v => match v with | .int k' b => decide (k = k') && a == b | _ => false
  | .bool a, v => match v with | .bool b => a == b | _ => false
  | .str a, v => match v with | .str b => a == b | _ => false
  | .agg xs, v => match v with | .agg ys => sameL xs ys | _ => false
  | .tup xs, v => match v with | .tup ys => sameL xs ys | _ => false
  | .ptr a b, v => match v with | .ptr c d => a == c && b == d | _ => false
  | .sl a b c d, v => match v with | .sl a' b' c' d' => a == a' && b == b' && c == c' && d == d' | _ => false
  | .map a, v => match v with | .map b => a == b | _ => false
  | .rptr xs, v => match v with | .rptr ys => sameL xs ys | _ => false
  | .vec o xs, v => match v with | .vec o' ys => sameOwn o o' && sameL xs ys | _ => false
  | .val a, v => match v with | .val b => sameVal a b | _ => false
  | .fn f a b, v => match v with | .fn g c d => sameFn f g && sameL a c && sameL b d | _ => false
  | .junk, v => match v with | .junk => true | _ => false
  | .any, v => match v with | .any => true | _ => false
  | .iface t x, v => match v with | .iface t' y => decide (t = t') && sameAV x y | _ => false
def sameL : List AV → List AV → Bool
  | [], ys => match ys with | [] => true | _ => false
  | x :: xs, ys => match ys with | y :: ys => sameAV x y && sameL xs ys | [] => false
end

/-- Does operation j come behind operation k, in every order? -/
def behind (ops : Array Oper) : Nat → Nat → Nat → Bool
  | 0, _, _ => false
  | n + 1, j, k => match ops[j]? with
    | some o => o.after.any fun e => Region.binds .any e && (e.on == k || behind ops n e.on k)
    | none => false

/-- A read gives the same value here. -/
def reads (E : Env) (call : CallO) (o : Oper) (α : Frm) (v : AV) (H : AHeap) : Bool :=
  match stepOp E call o.op (ev α) H with
  | some (u, _) => sameAV u v
  | none => false

def wantedA (ops : Array Oper) (g : Option (Nat × Bool)) (α : Frm) : Option Bool :=
  match g with
  | none => some true
  | some (j, b) => match (ops[j]?).bind (·.dst) with
    | some d => match α d with
      | .bool c => some (c == b)
      | .val (.tuple _) => some false
      | _ => none
    | none => none

def execOps (E : Env) (call : CallO) (all : Array Oper) : List Oper → Frm → AHeap → Option (Frm × AHeap)
  | [], α, H => some (α, H)
  | o :: rest, α, H =>
    bnd (wantedA all o.guard α) fun b =>
      sel b (bnd (stepOp E call o.op (ev α) H) fun r => execOps E call all rest (put α o.dst r.1) r.2)
        (execOps E call all rest (put α o.dst undefA) H)

/-- The same, and each read is looked at again in all memories in which another order may make it. -/
def execOpsD (E : Env) (call : CallO) (all : Array Oper) : Nat → List Oper → List (Nat × Oper × Frm × AV) → List (Nat × AHeap) → Frm → AHeap → Option (Frm × AHeap)
  | _, [], _, _, α, H => some (α, H)
  | k, o :: rest, rs, ws, α, H =>
    bnd (wantedA all o.guard α) fun b =>
      sel b (bnd (stepOp E call o.op (ev α) H) fun r =>
          match kdOf E o.op with
          | .ins => execOpsD E call all (k + 1) rest rs ws (put α o.dst r.1) r.2
          | .rd => sel (ws.all fun w => behind all all.size k w.1 || reads E call o α r.1 w.2) (execOpsD E call all (k + 1) rest ((k, o, α, r.1) :: rs) ws (put α o.dst r.1) r.2) none
          | .wr => sel (rs.all fun q => behind all all.size k q.1 || reads E call q.2.1 q.2.2.1 q.2.2.2 r.2) (execOpsD E call all (k + 1) rest rs ((k, H) :: ws) (put α o.dst r.1) r.2) none)
        (execOpsD E call all (k + 1) rest rs ws (put α o.dst undefA) H)

def heapApart (a b : Kd) : Bool :=
  match a, b with
  | .ins, _ => true
  | _, .ins => true
  | .rd, .rd => true
  | _, _ => false

def freeH (E : Env) (ops : Array Oper) (listed : Array Bool) (i : Nat) : Bool :=
  match ops[i]? with
  | none => false
  | some oi => (List.range ops.size).all fun j => j == i || listed.getD j true || match ops[j]? with
      | some oj => oj.after.any (fun e => Region.binds .any e && e.on == i) || (oi.apart ops oj && heapApart (kdOf E oi.op) (kdOf E oj.op))
      | none => true

def sameEs : List (AV × AV × Nat) → List (AV × AV × Nat) → Bool
  | [], l => match l with | [] => true | _ => false
  | (a, b, n) :: r, l => match l with | (c, d, m) :: l => sameAV a c && sameAV b d && decide (n = m) && sameEs r l | [] => false

def sameObj : AObj → AObj → Bool
  | .cells t cs, v => match v with | .cells t' ds => decide (t = t') && sameL cs ds | _ => false
  | .tip n t, v => match v with | .tip m t' => decide (n = m) && decide (t = t') | _ => false
  | .row n t s cs, v => match v with | .row m t' s' ds => decide (n = m) && decide (t = t') && decide (s = s') && sameL cs ds | _ => false
  | .map es c, v => match v with | .map fs d => sameEs es fs && decide (c = d) | _ => false

def sameOL : List (Nat × AObj) → List (Nat × AObj) → Bool
  | [], l => match l with | [] => true | _ => false
  | (i, x) :: r, l => match l with | (j, y) :: l => decide (i = j) && sameObj x y && sameOL r l | [] => false

/-- The same at all slots that the operations write, and the same memory. -/
def sameEnd (ops : Array Oper) (α' : Frm) (H' : AHeap) (α : Frm) (H : AHeap) : Bool :=
  (ops.toList.all fun o => match o.dst with | some d => sameAV (α d) (α' d) | none => true) && decide (H.next = H'.next) && sameOL H.objs H'.objs

def noCall : CallO := fun _ _ _ => none

/-- All orders; where an operation may go first, it does. -/
def anyB (E : Env) (ops : Array Oper) (chk : Frm → AHeap → Bool) : Nat → Array Bool → Frm → AHeap → Bool
  | 0, listed, α, H => (Region.ready .any ops listed).isEmpty && chk α H
  | fuel + 1, listed, α, H =>
    let go (i : Nat) : Bool := match ops[i]? with
      | some o => match wantedA ops o.guard α with
        | some true => match stepOp E noCall o.op (ev α) H with
          | some (v, H') => anyB E ops chk fuel (listed.setIfInBounds i true) (put α o.dst v) H'
          | none => false
        | some false => anyB E ops chk fuel (listed.setIfInBounds i true) (put α o.dst undefA) H
        | none => false
      | none => false
    match (Region.ready .any ops listed).find? (freeH E ops listed) with
    | some i => go i
    | none => (!(Region.ready .any ops listed).isEmpty || chk α H) && (Region.ready .any ops listed).all go

def execOpsB (E : Env) (ops : Array Oper) (α : Frm) (H : AHeap) : Option (Frm × AHeap) :=
  match execOps E noCall ops ops.toList α H with
  | some r => sel (anyB E ops (sameEnd ops r.1 r.2) ops.size (Array.replicate ops.size false) α H) (some r) none
  | none => none

inductive Ex where
  | normal
  | exit (id : Nat)
  | ret

abbrev Res := Ex × Frm × AHeap

/-- What follows behind a piece of code that may have left. -/
def andThen (r : Res) (f : Frm → AHeap → Option Res) : Option Res :=
  match r with
  | (.normal, α, H) => f α H
  | r => some r

def unblock (id : Nat) (r : Res) : Res :=
  match r with
  | (.exit j, α, H) => if j = id then (.normal, α, H) else (.exit j, α, H)
  | r => r

def loopN (f : Frm → AHeap → Option Res) : Nat → Frm → AHeap → Option Res
  | 0, _, _ => none
  | n + 1, α, H => bnd (f α H) fun r => andThen r (loopN f n)

def condA (α : Frm) (c : Operand) (x y : Option Res) : Option Res :=
  match ev α c with
  | .bool v => sel v x y
  | _ => none

def execC (E : Env) (call : CallO) (loop : (Frm → AHeap → Option Res) → Frm → AHeap → Option Res) : Code → Frm → AHeap → Option Res
  | .skip, α, H => some (.normal, α, H)
  | .region id ops draw, α, H => bnd (sel (draw && E.dyn id) (sel (E.any ops) (execOpsB E ops α H) (execOpsD E call ops 0 ops.toList [] [] α H)) (execOps E call ops ops.toList α H)) fun r => some (.normal, r.1, r.2)
  | .seq a b, α, H => bnd (execC E call loop a α H) fun r => andThen r (execC E call loop b)
  | .cond c a b, α, H => condA α c (execC E call loop a α H) (execC E call loop b α H)
  | .block id c, α, H => bnd (execC E call loop c α H) fun r => some (unblock id r)
  | .loop c, α, H => loop (execC E call loop c) α H
  | .exit id, α, H => some (.exit id, α, H)
  | .ret, α, H => some (.ret, α, H)
  | _, _, _ => none

def resultsA (P : Program) (α : Frm) (H : AHeap) : List ResultVar → Option (List AV)
  | [] => some []
  | .tmp t :: r => bnd (resultsA P α H r) fun vs => some (α t :: vs)
  | .cell a t :: r => bnd (match α a with | .ptr id off => loadA P H t (.ptr id off) | _ => none) fun v => bnd (resultsA P α H r) fun vs => some (v :: vs)

def tupled : List AV → AV
  | [v] => v
  | vs => .tup vs

def frm0 (args : List AV) : Frm := fun i => (args[i]?).getD undefA

def finish (P : Program) (rs : List ResultVar) (r : Res) : Option (AV × AHeap) :=
  match r with
  | (.exit _, _, _) => none
  | (_, α, H) => bnd (resultsA P α H rs) fun vs => some (tupled vs, H)

def execB (E : Env) (call : CallO) (loop : (Frm → AHeap → Option Res) → Frm → AHeap → Option Res) (f : FuncId) (args : List AV) (H : AHeap) : Option (AV × AHeap) :=
  match E.P.funcs[f]? with
  | some fn => match fn.body with
    | some c => if args.length ≤ fn.ntmps then bnd (execC E call loop c (frm0 args) H) (finish E.P fn.results.toList) else none
    | none => none
  | none => none

/-- A region that makes a closure and defers its call. -/
def isDef : Code → Option (Oper × Oper)
  | .region _ ops draw =>
    match draw, ops.toList with
    | false, [o, d] => match o.op, o.dst, o.guard, d.op, d.guard, d.dst with
      | .makeFunc _ _ _, some t, none, .defer c, none, none => match c.callee with
        | .value (.tmp t') => if t = t' ∧ c.args.toList.isEmpty = true then some (o, d) else none
        | _ => none
      | _, _, _, _, _, _ => none
    | _, _ => none
  | _ => none

/-- A function that defers one closure's call: the frame and the memory behind its text, and the closure. -/
def execDef (E : Env) (call : CallO) (loop : (Frm → AHeap → Option Res) → Frm → AHeap → Option Res) : Code → Frm → AHeap → Option (Res × AV)
  | .seq a b, α, H =>
    match isDef a with
    | some (o, _) => bnd (stepOp E call o.op (ev α) H) fun r => bnd (execC E call loop b (put α o.dst r.1) r.2) fun q => some (q, r.1)
    | none => bnd (execC E call loop a α H) fun r => match r with
      | (.normal, α', H') => execDef E call loop b α' H'
      | _ => none
  | _, _, _ => none

def execBD (E : Env) (call : CallO) (loop : (Frm → AHeap → Option Res) → Frm → AHeap → Option Res) (f : FuncId) (args : List AV) (H : AHeap) : Option (AV × AHeap) :=
  match E.P.funcs[f]? with
  | some fn => match fn.body with
    | some c => if args.length ≤ fn.ntmps then
        bnd (execDef E call loop c (frm0 args) H) fun r =>
          match r.1, target r.2 with
          | (.exit _, _, _), _ => none
          | (_, α, H'), some (g, first, cap) => if E.G g = true ∧ E.df g = false then bnd (call g (first ++ cap) H') fun q => finish E.P fn.results.toList (.ret, α, q.2) else none
          | _, none => none
      else none
    | none => none
  | none => none

def execF (E : Env) : Nat → CallO
  | 0, _, _, _ => none
  | n + 1, f, args, H => if E.G f = true then if E.df f = true then execBD E (execF E n) (fun g => loopN g n) f args H else execB E (execF E n) (fun g => loopN g n) f args H else E.ext f args H

end Go.Ab

/- The operations that write or make memory, against the model. -/
namespace Go.Ab
set_option linter.unusedVariables false
open Go Go.RowKit

section
variable {P : Program} {B : Nat → Prop} {W0 : World} {H : AHeap} {σ : St} {w : World}

theorem ObjOk.blk {id : Nat} {x : AObj} (h : ObjOk P B σ w id x) : ∃ b, Ab.blk σ id x = some b ∧ ¬ B b ∧ b < w.heap.size := by
  cases x with
  | cells te cs =>
    obtain ⟨b, c, e, h1, h2, h3, _⟩ := h
    exact ⟨b, h1, h2, (Array.getElem?_eq_some_iff.1 h3).1⟩
  | tip n et =>
    obtain ⟨b, cap, c, s, h1, h2, h3, _⟩ := h
    exact ⟨b, by simp [Ab.blk, h1], h2, (Array.getElem?_eq_some_iff.1 h3).1⟩
  | row n et s cs =>
    obtain ⟨b, cap, c, h1, _, h2, h3, _⟩ := h
    exact ⟨b, h1, h2, (Array.getElem?_eq_some_iff.1 h3).1⟩
  | map es clock =>
    obtain ⟨b, ms, h1, h2, h3, _⟩ := h
    exact ⟨b, h1, h2, (Array.getElem?_eq_some_iff.1 h3).1⟩

theorem ObjOk.keep {σ' : St} {w' : World} {id : Nat} {x : AObj} (h : ObjOk P B σ w id x) (hle : σ.le σ')
    (hb : ∀ b, Ab.blk σ id x = some b → w'.heap[b]? = w.heap[b]? ∧ ∀ o, σ'.cells b o = σ.cells b o) (hown : ∀ n, σ'.own id n = σ.own id n) : ObjOk P B σ' w' id x := by
  cases x with
  | cells te cs =>
    obtain ⟨b, c, e, h1, h2, h3, h4, h5, h6⟩ := h
    obtain ⟨q1, q2⟩ := hb b h1
    exact ⟨b, c, e, hle.loc _ _ h1, h2, q1.trans h3, h4.mono hle, fun o => (q2 o).trans (h5 o), h6⟩
  | tip n et =>
    obtain ⟨b, cap, c, s, h1, h2, h3, h4, h5, h6, h7, h8, h9⟩ := h
    obtain ⟨q1, q2⟩ := hb b (by simp [Ab.blk, h1])
    exact ⟨b, cap, c, s, hle.own _ _ _ h1, h2, q1.trans h3, h4, h5, h6, h7, fun o ho => (q2 o).trans (h8 o ho), fun m hm => (hown m).trans (h9 m hm)⟩
  | row n et s cs =>
    obtain ⟨b, cap, c, h1, h1', h2, h3, h4, h5, h6, h7, h8, h9, h10, h11, h12⟩ := h
    obtain ⟨q1, q2⟩ := hb b h1
    exact ⟨b, cap, c, hle.loc _ _ h1, hle.own _ _ _ h1', h2, q1.trans h3, h4, h5, h6, h7, h8, h9, h10.mono hle, h11, fun o => (q2 o).trans (h12 o)⟩
  | map es clock =>
    obtain ⟨b, ms, h1, h2, h3, h4, h5⟩ := h
    obtain ⟨q1, q2⟩ := hb b h1
    exact ⟨b, ms, hle.loc _ _ h1, h2, q1.trans h3, h4.mono hle, fun o => (q2 o).trans (h5 o)⟩

theorem blk_keep {σ' : St} {id : Nat} {x : AObj} {b : Nat} (hle : σ.le σ') (h : blk σ id x = some b) : blk σ' id x = some b := by
  cases x with
  | cells te cs => exact hle.loc _ _ h
  | row n et s cs => exact hle.loc _ _ h
  | map es clock => exact hle.loc _ _ h
  | tip n et =>
    simp only [blk] at h ⊢
    obtain ⟨p, hp, rfl⟩ := Option.map_eq_some_iff.1 h
    rw [hle.own _ _ _ hp]; rfl

theorem AHeap.get_lt {H : AHeap} {id : Nat} {x : AObj} (h : H.get id = some x) : id < H.next := by
  unfold AHeap.get at h
  split at h
  · assumption
  · cases h

theorem AHeap.get_push (H : AHeap) (x : AObj) (id : Nat) : (H.push x).get id = if H.next = id then some x else H.get id := by
  simp only [AHeap.get, AHeap.push, getL]
  by_cases h1 : id < H.next
  · rw [if_pos (by omega), if_pos h1]
  · by_cases h2 : H.next = id
    · rw [if_pos (by omega), if_pos h2, if_pos h2]
    · rw [if_neg (by omega), if_neg h2, if_neg h1]

theorem getL_setL : ∀ (l : List (Nat × AObj)) (id : Nat) (y : AObj) (k : Nat), getL (setL l id y) k = if id = k then (getL l id).map fun _ => y else getL l k
  | [], id, y, k => by simp [setL, getL]
  | (j, x) :: l, id, y, k => by
    have ih := getL_setL l id y k
    by_cases hj : j = id
    · subst hj
      simp only [setL, if_pos, getL]
      by_cases hk : j = k <;> simp [hk]
    · simp only [setL, if_neg hj, getL]
      by_cases hk : j = k
      · subst hk
        simp [Ne.symm hj]
      · simp only [if_neg hk]
        exact ih

theorem AHeap.get_set (H : AHeap) (id : Nat) (y : AObj) (k : Nat) : (H.set id y).get k = if id = k then (H.get id).map (fun _ => y) else H.get k := by
  have := getL_setL H.objs id y k
  simp only [AHeap.get, AHeap.set, this]
  by_cases e : id = k
  · subst e
    by_cases h : id < H.next
    · simp [h]
    · simp [h]
  · simp [e]

theorem Sim.size (hs : Sim P B W0 H σ w) : ∀ k, B k → k < w.heap.size := fun k hk => Nat.lt_of_lt_of_le (hs.base.lt k hk) hs.below.size
/-- The same blocks, and all that came since. -/
theorem Sim.baseNow (hs : Sim P B W0 H σ w) : Base P (· < w.heap.size) w :=
  ⟨fun _ h => h, fun b o p hk => by
    obtain ⟨hB, v, hv, hp⟩ := hs.base.tab b o p hk
    have h1 := hs.below.block b hB
    exact ⟨hs.size b hB, v, by simpa only [World.cell?, h1] using hv, hp⟩⟩
theorem Sim.notNew (hs : Sim P B W0 H σ w) : ¬ B w.heap.size := fun h => Nat.lt_irrefl _ (hs.size _ h)

theorem Sim.cells_lt (hs : Sim P B W0 H σ w) {b o : Nat} {v : Value} (h : σ.cells b o = some v) : b < w.heap.size := by
  have := hs.cells b o v h
  unfold World.cell? at this
  rcases Nat.lt_or_ge b w.heap.size with h' | h'
  · exact h'
  · simp [Array.getElem?_eq_none h'] at this

theorem Sim.cells_new (hs : Sim P B W0 H σ w) (o : Nat) : σ.cells w.heap.size o = none := by
  cases h : σ.cells w.heap.size o with
  | none => rfl
  | some v => exact absurd (hs.cells_lt h) (Nat.lt_irrefl _)

theorem heap_new (w : World) (o : Obj) : (w.alloc o).heap[w.heap.size]? = some o := by
  show (w.heap.push o)[w.heap.size]? = some o
  simp

theorem heap_old (w : World) (o : Obj) {k : Nat} (h : k < w.heap.size) : (w.alloc o).heap[k]? = w.heap[k]? := Below.heap_alloc w o k h

theorem cell_of_heap {w w' : World} {b : Nat} (h : w'.heap[b]? = w.heap[b]?) (o : Nat) : w'.cell? ⟨b, o, none⟩ = w.cell? ⟨b, o, none⟩ := by
  simp [World.cell?, h]

/-- A new block of one's own. -/
def St.bind (σ : St) (id b : Nat) : St := { σ with loc := fun i => if i = id then some b else σ.loc i }

theorem Sim.bind_le (hs : Sim P B W0 H σ w) (b : Nat) : σ.le (σ.bind H.next b) := by
  refine ⟨fun _ _ _ h => h, fun i c h => ?_, fun _ _ _ h => h⟩
  simp only [St.bind]
  split
  · rename_i hi; subst hi; rw [(hs.fresh H.next (Nat.le_refl _)).1] at h; cases h
  · exact h

theorem Sim.push (hs : Sim P B W0 H σ w) {cs : List AV} {c : Array Value} (e : TypeId) {te : Option TypeId} (hte : ∀ t, te = some t → e = t) (hr : RepL σ cs c.toList) :
    Sim P B W0 (H.push (.cells te cs)) (σ.bind H.next w.heap.size) (w.alloc (.cells c e)) := by
  have hle := hs.bind_le w.heap.size
  refine ⟨hs.below.alloc hs.size _, hs.base, ?_, hs.one, ?_, ?_, ?_, ?_⟩
  · intro b o v h
    rw [cell_of_heap (heap_old w _ (hs.cells_lt h))]
    exact hs.cells b o v h
  · intro id hid
    have hid' : H.next + 1 ≤ id := hid
    have := hs.fresh id (by omega)
    exact ⟨by simp only [St.bind]; rw [if_neg (by omega)]; exact this.1, this.2⟩
  · intro id x h
    rw [AHeap.get_push] at h
    show id < H.next + 1
    split at h
    · omega
    · have := hs.keys id x h; omega
  · intro id x h
    rw [AHeap.get_push] at h
    split at h
    · rename_i hid
      subst hid
      cases h
      exact ⟨w.heap.size, c, e, by simp [St.bind], hs.notNew, heap_new w _, hr.mono hle, fun o => hs.cells_new o, hte⟩
    · have ho := hs.obj id x h
      refine ho.keep hle (fun b hb => ?_) (fun _ => rfl)
      obtain ⟨b', hb', _, hlt⟩ := ho.blk
      rw [hb] at hb'
      cases hb'
      exact ⟨heap_old w _ hlt, fun _ => rfl⟩
  · intro id id' x x' h h' hb
    rw [AHeap.get_push] at h h'
    have key : ∀ i y, H.get i = some y → ∃ b, blk (σ.bind H.next w.heap.size) i y = some b ∧ b < w.heap.size := fun i y hy => by
      obtain ⟨b, h1, _, h3⟩ := (hs.obj i y hy).blk
      exact ⟨b, blk_keep hle h1, h3⟩
    split at h
    · rename_i e1
      split at h'
      · rename_i e2; omega
      · cases h
        obtain ⟨b, h1, h2⟩ := key id' x' h'
        rw [h1, ← e1] at hb
        simp [blk, St.bind] at hb
        omega
    · split at h'
      · rename_i e2
        cases h'
        obtain ⟨b, h1, h2⟩ := key id x h
        rw [h1, ← e2] at hb
        simp [blk, St.bind] at hb
        omega
      · obtain ⟨b, h1, _, _⟩ := (hs.obj id x h).blk
        obtain ⟨b', h1', _, _⟩ := (hs.obj id' x' h').blk
        rw [blk_keep hle h1, blk_keep hle h1'] at hb
        exact hs.inj id id' x x' h h' (by rw [h1, h1', hb])

theorem RepL.bindW {cs : List AV} {us : List Value} (hs : Sim P B W0 H σ w) (h : RepL σ cs us) (b : Nat) : RepL (σ.bind H.next b) cs us := h.mono (hs.bind_le b)

/-- What an operation is asked: it yields a value, or calls a function that hands one back. -/
def UponA (P : Program) (r : Result Next) (Post : Value → World → Prop) : Prop :=
  match r with
  | .ok (.value u) w' => Post u w'
  | .ok .skip w' => Post undef w'
  | .ok (.enter f args) w' => Calls P f args w' (fun e w'' => ∃ u, e = .returned u ∧ Post u w'')
  | _ => False

def Goes (P : Program) (B : Nat → Prop) (W0 : World) (σ : St) (v : AV) (H' : AHeap) (u : Value) (w' : World) : Prop := ∃ σ', Ext B σ σ' ∧ Sim P B W0 H' σ' w' ∧ Rep σ' v u

theorem alloc_sound (hs : Sim P B W0 H σ w) {t : TypeId} {v : AV} {H' : AHeap} (h : allocA P t H = some (v, H')) :
    UponA P ((do pure (Next.value (← Instr.alloc t true (.tuple #[]))) : Sem Next).run P w) (Goes P B W0 σ v H') := by
  unfold allocA at h
  split at h
  · rename_i z hz
    simp only [Option.some.injEq, Prod.mk.injEq] at h
    obtain ⟨rfl, rfl⟩ := h
    obtain ⟨i, zv, hi, hzv, rfl⟩ := zeroQ_spec hz
    have hrun : (Instr.alloc t true (.tuple #[])).run P w = .ok (.pointer (some ⟨w.heap.size, 0, none⟩)) (w.alloc (.cells zv.cells t)) := by
      simp [Instr.alloc, zeroValue, typeInfo, hi, hzv, newVar, newRow]
    simp only [Sem.run_bind, hrun, Result.andThen_ok, Sem.run_pure, UponA]
    refine ⟨_, ⟨hs.bind_le _, fun _ _ _ => rfl⟩, hs.push t (fun _ h => Option.some.inj h) (RepL.ofV1 _), ?_⟩
    simp [Rep, St.bind]
  · cases h

theorem box_sound (hs : Sim P B W0 H σ w) {t : TypeId} {x v : AV} {u : Value} {H' : AHeap} (hr : Rep σ x u) (h : boxA x H = some (v, H')) :
    UponA P ((do pure (Next.value (← Instr.box t u)) : Sem Next).run P w) (Goes P B W0 σ v H') := by
  unfold boxA at h
  split at h
  · rename_i hw
    simp only [Option.some.injEq, Prod.mk.injEq] at h
    obtain ⟨rfl, rfl⟩ := h
    have hrun : (Instr.box t u).run P w = .ok (.pointer (some ⟨w.heap.size, 0, none⟩)) (w.alloc (.cells u.cells t)) := by
      simp [Instr.box, newVar, newRow]
    simp only [Sem.run_bind, hrun, Result.andThen_ok, Sem.run_pure, UponA]
    refine ⟨_, ⟨hs.bind_le _, fun _ _ _ => rfl⟩, hs.push t (fun _ h => by cases h) (hr.cells hw), ?_⟩
    simp [Rep, St.bind]
  · cases h

theorem allOne_spec : ∀ {cs : List AV} {us : List Value}, allOne cs = true → RepL σ cs us → ∀ u ∈ us, u.oneCell' = true
  | [], us, _, hr, u, hu => by rw [RepL.nil_iff] at hr; subst hr; cases hu
  | c :: cs, us, h, hr, u, hu => by
    rw [RepL.cons_iff] at hr
    obtain ⟨x, us', rfl, r, q⟩ := hr
    simp only [allOne, Bool.and_eq_true] at h
    cases hu with
    | tail _ hu => exact allOne_spec h.2 q u hu
    | head =>
      have h1 := h.1
      cases c <;> simp only [AV.one, Bool.false_eq_true] at h1 <;> simp only [Rep] at r
      case any => exact r
      case int => subst r; rfl
      case bool => subst r; rfl
      case str => subst r; rfl
      case vec => obtain ⟨a, cap, rfl, _⟩ := r; rfl
      case ptr => obtain ⟨b, _, rfl⟩ := r; rfl
      case rptr => obtain ⟨b, o, rfl, _⟩ := r; rfl
      case fn => obtain ⟨us, vs, rfl, _⟩ := r; rfl
      case iface => obtain ⟨x, rfl, _⟩ := r; rfl
      case sl => obtain ⟨b, cap, _, _, rfl, _⟩ := r; rfl
      case map => obtain ⟨b, _, rfl⟩ := r; rfl
      case val => subst r; exact h1

theorem Sim.set_cells (hs : Sim P B W0 H σ w) {id b : Nat} {cs cs' : List AV} {te : Option TypeId} (hg : H.get id = some (.cells te cs)) (hb : σ.loc id = some b) {c c' : Array Value} {e : TypeId}
    (hh : w.heap[b]? = some (.cells c e (0, 0))) (hr : RepL σ cs' c'.toList) : Sim P B W0 (H.set id (.cells te cs')) σ (w.setRow b c') := by
  have hB : ¬ B b := by
    obtain ⟨b', c0, e0, h1, h2, _⟩ := hs.obj id _ hg
    rw [hb] at h1; cases h1; exact h2
  have hnone : ∀ o, σ.cells b o = none := by
    obtain ⟨b', c0, e0, h1, _, _, _, h5, _⟩ := hs.obj id _ hg
    rw [hb] at h1; cases h1; exact h5
  have hte : ∀ t, te = some t → e = t := by
    obtain ⟨b', c0, e0, h1, _, h3, _, _, h6⟩ := hs.obj id _ hg
    rw [hb] at h1; cases h1
    rw [hh] at h3; cases h3; exact h6
  have hother : ∀ k, k ≠ b → (w.setRow b c').heap[k]? = w.heap[k]? := fun k hk => setRow_other w b k c' hk
  have hblk : ∀ k x, (H.set id (.cells te cs')).get k = some x → ∃ y, H.get k = some y ∧ blk σ k x = blk σ k y ∧ (k ≠ id → x = y) := by
    intro k x hk
    rw [AHeap.get_set] at hk
    split at hk
    · rename_i e1
      subst e1
      rw [hg] at hk
      cases hk
      exact ⟨_, hg, rfl, fun h => absurd rfl h⟩
    · exact ⟨x, hk, rfl, fun _ => rfl⟩
  refine ⟨hs.below.trans ⟨rfl, rfl, rfl, by simp, fun k hk => hother k (by rintro rfl; exact hB hk)⟩, hs.base, ?_, hs.one, hs.fresh, ?_, ?_, ?_⟩
  · intro b' o v h
    have : b' ≠ b := by rintro rfl; rw [hnone] at h; cases h
    rw [cell_of_heap (hother b' this)]
    exact hs.cells b' o v h
  · intro k x hk
    obtain ⟨y, hy, _⟩ := hblk k x hk
    exact hs.keys k y hy
  · intro k x hk
    by_cases hkid : k = id
    · subst hkid
      rw [AHeap.get_set, if_pos rfl, hg] at hk
      cases hk
      exact ⟨b, c', e, hb, hB, setRow_heap w b c c' e (0, 0) hh, hr, hnone, hte⟩
    · obtain ⟨y, hy, _, hxy⟩ := hblk k x hk
      have := hxy hkid
      subst this
      have ho := hs.obj k x hy
      refine ho.keep σ.le_refl (fun b' hb' => ⟨hother b' ?_, fun _ => rfl⟩) (fun _ => rfl)
      rintro rfl
      exact hkid (hs.inj k id x _ hy hg (by rw [hb']; simp [blk, hb]))
  · intro k k' x x' hk hk' hbb
    obtain ⟨y, hy, e1, _⟩ := hblk k x hk
    obtain ⟨y', hy', e2, _⟩ := hblk k' x' hk'
    exact hs.inj k k' y y' hy hy' (by rw [← e1, ← e2, hbb])

theorem getL_delL : ∀ (l : List (Nat × AObj)) (id k : Nat), getL (delL l id) k = if id = k then none else getL l k
  | [], id, k => by simp [delL, getL]
  | (j, x) :: l, id, k => by
    have ih := getL_delL l id k
    simp only [delL]
    by_cases hj : j = id
    · subst hj
      rw [if_pos rfl, ih]
      by_cases hk : j = k
      · simp [hk]
      · simp [hk, getL]
    · rw [if_neg hj]
      simp only [getL, ih]
      by_cases hjk : j = k
      · subst hjk; simp [Ne.symm hj]
      · simp [hjk]

theorem AHeap.get_del (H : AHeap) (id k : Nat) : (H.del id).get k = if id = k then none else H.get k := by
  have := getL_delL H.objs id k
  simp only [AHeap.get, AHeap.del, this]
  by_cases e : id = k
  · simp [e]
  · simp [e]

/-- An object that nobody reads any more. -/
theorem Sim.del (hs : Sim P B W0 H σ w) (id : Nat) : Sim P B W0 (H.del id) σ w := by
  have hsub : ∀ k x, (H.del id).get k = some x → H.get k = some x := fun k x h => by
    rw [AHeap.get_del] at h
    split at h
    · cases h
    · exact h
  exact ⟨hs.below, hs.base, hs.cells, hs.one, hs.fresh, fun k x h => hs.keys k x (hsub k x h), fun k x h => hs.obj k x (hsub k x h), fun k k' x x' h h' e => hs.inj k k' x x' (hsub k x h) (hsub k' x' h') e⟩

/-- Where a new object lies, and in how much room. -/
def St.bindR (σ : St) (id b cap : Nat) : St :=
  { σ with loc := fun i => if i = id then some b else σ.loc i, own := fun i n => if i = id ∧ n = 0 then some (b, cap) else σ.own i n }

theorem Sim.bindR_le (hs : Sim P B W0 H σ w) (b cap : Nat) : σ.le (σ.bindR H.next b cap) := by
  refine ⟨fun _ _ _ h => h, fun i c h => ?_, fun i n x h => ?_⟩
  · simp only [St.bindR]
    split
    · rename_i hi; subst hi; rw [(hs.fresh H.next (Nat.le_refl _)).1] at h; cases h
    · exact h
  · simp only [St.bindR]
    split
    · rename_i hi; obtain ⟨rfl, rfl⟩ := hi; rw [(hs.fresh H.next (Nat.le_refl _)).2] at h; cases h
    · exact h

/-- A new object, in a block that no other one has. -/
theorem Sim.pushAt (hs : Sim P B W0 H σ w) {b cap : Nat} {w' : World} {x : AObj} (hB : ¬ B b) (hb : ∀ k, k ≠ b → k < w.heap.size → w'.heap[k]? = w.heap[k]?) (hbel : BelowS B W0 w')
    (hfree : ∀ id y, H.get id = some y → blk σ id y ≠ some b) (hnone : ∀ o, σ.cells b o = none) (hx : blk (σ.bindR H.next b cap) H.next x = some b) (hok : ObjOk P B (σ.bindR H.next b cap) w' H.next x) :
    Sim P B W0 (H.push x) (σ.bindR H.next b cap) w' ∧ Ext B σ (σ.bindR H.next b cap) := by
  have hle := hs.bindR_le b cap
  refine ⟨⟨hbel, hs.base, ?_, hs.one, ?_, ?_, ?_, ?_⟩, hle, fun _ _ _ => rfl⟩
  · intro b' o v h
    have h1 : σ.cells b' o = some v := h
    have hne : b' ≠ b := by rintro rfl; rw [hnone] at h1; cases h1
    rw [cell_of_heap (hb b' hne (hs.cells_lt h1))]
    exact hs.cells b' o v h1
  · intro id hid
    have hid' : H.next + 1 ≤ id := hid
    have := hs.fresh id (by omega)
    refine ⟨by simp only [St.bindR]; rw [if_neg (by omega)]; exact this.1, fun n => ?_⟩
    simp only [St.bindR]; rw [if_neg (by omega)]; exact this.2 n
  · intro id y h
    rw [AHeap.get_push] at h
    show id < H.next + 1
    split at h
    · omega
    · have := hs.keys id y h; omega
  · intro id y h
    rw [AHeap.get_push] at h
    split at h
    · rename_i hid
      subst hid
      cases h
      exact hok
    · have ho := hs.obj id y h
      have hlt := hs.keys id y h
      refine ho.keep hle (fun b' hb' => ⟨hb b' ?_ ?_, fun _ => rfl⟩) (fun n => ?_)
      · rintro rfl; exact hfree id y h hb'
      · obtain ⟨b2, hb2, _, hlt2⟩ := ho.blk
        rw [hb'] at hb2; cases hb2; exact hlt2
      · simp only [St.bindR]; rw [if_neg (by omega)]
  · intro id id' y y' h h' he
    rw [AHeap.get_push] at h h'
    have key : ∀ i z, H.get i = some z → ∃ b', blk (σ.bindR H.next b cap) i z = some b' ∧ blk σ i z = some b' ∧ b' ≠ b := fun i z hz => by
      obtain ⟨b', h1, _, _⟩ := (hs.obj i z hz).blk
      refine ⟨b', blk_keep hle h1, h1, ?_⟩
      rintro rfl
      exact hfree i z hz h1
    split at h
    · rename_i e1
      split at h'
      · rename_i e2; omega
      · cases h
        obtain ⟨b', h1, _, h3⟩ := key id' y' h'
        rw [h1, ← e1, hx] at he
        cases he
        exact absurd rfl h3
    · split at h'
      · rename_i e2
        cases h'
        obtain ⟨b', h1, _, h3⟩ := key id y h
        rw [h1, ← e2, hx] at he
        cases he
        exact absurd rfl h3
      · obtain ⟨b1, h1, g1, _⟩ := key id y h
        obtain ⟨b2, h2, g2, _⟩ := key id' y' h'
        rw [h1, h2] at he
        exact hs.inj id id' y y' h h' (by rw [g1, g2, he])

/-- A new object in a new block. -/
theorem Sim.pushNew (hs : Sim P B W0 H σ w) {cap : Nat} {w1 : World} {o : Obj} {x : AObj} (hw1 : w1.heap = w.heap) (hbel : BelowS B W0 w1)
    (hx : blk (σ.bindR H.next w.heap.size cap) H.next x = some w.heap.size) (hok : (w1.alloc o).heap[w.heap.size]? = some o → ObjOk P B (σ.bindR H.next w.heap.size cap) (w1.alloc o) H.next x) :
    Sim P B W0 (H.push x) (σ.bindR H.next w.heap.size cap) (w1.alloc o) ∧ Ext B σ (σ.bindR H.next w.heap.size cap) := by
  have hsize : w1.heap.size = w.heap.size := by rw [hw1]
  refine hs.pushAt hs.notNew (fun k hk hlt => ?_) (hbel.alloc (fun k hk => by rw [hsize]; exact hs.size k hk) _) (fun id y hy he => ?_) (fun o => hs.cells_new o) hx (hok ?_)
  · rw [heap_old w1 _ (by omega), hw1]
  · obtain ⟨b, h1, _, h3⟩ := (hs.obj id y hy).blk
    rw [h1] at he
    cases he
    exact absurd h3 (Nat.lt_irrefl _)
  · rw [← hsize]; exact heap_new w1 o

/-- An object that is written. -/
theorem Sim.setAt (hs : Sim P B W0 H σ w) {id b : Nat} {x y : AObj} {w' : World} (hg : H.get id = some x) (hbx : blk σ id x = some b) (hby : blk σ id y = some b) (hb : ∀ k, k ≠ b → w'.heap[k]? = w.heap[k]?) (hbel : BelowS B W0 w')
    (hnone : ∀ o, σ.cells b o = none) (hok : ObjOk P B σ w' id y) : Sim P B W0 (H.set id y) σ w' := by
  have hblk : ∀ k z, (H.set id y).get k = some z → ∃ z', H.get k = some z' ∧ blk σ k z = blk σ k z' ∧ (k ≠ id → z = z') := by
    intro k z hk
    rw [AHeap.get_set] at hk
    split at hk
    · rename_i e1
      subst e1
      rw [hg] at hk
      cases hk
      exact ⟨_, hg, by rw [hbx, hby], fun h => absurd rfl h⟩
    · exact ⟨z, hk, rfl, fun _ => rfl⟩
  refine ⟨hbel, hs.base, ?_, hs.one, hs.fresh, ?_, ?_, ?_⟩
  · intro b' o v h
    have : b' ≠ b := by rintro rfl; rw [hnone] at h; cases h
    rw [cell_of_heap (hb b' this)]
    exact hs.cells b' o v h
  · intro k z hk
    obtain ⟨z', hz', _⟩ := hblk k z hk
    exact hs.keys k z' hz'
  · intro k z hk
    by_cases hkid : k = id
    · subst hkid
      rw [AHeap.get_set, if_pos rfl, hg] at hk
      cases hk
      exact hok
    · obtain ⟨z', hz', _, hxy⟩ := hblk k z hk
      have := hxy hkid
      subst this
      have ho := hs.obj k z hz'
      refine ho.keep σ.le_refl (fun b' hb' => ⟨hb b' ?_, fun _ => rfl⟩) (fun _ => rfl)
      rintro rfl
      exact hkid (hs.inj k id z _ hz' hg (by rw [hb', hbx]))
  · intro k k' z z' hk hk' hbb
    obtain ⟨q, hq, e1, _⟩ := hblk k z hk
    obtain ⟨q', hq', e2, _⟩ := hblk k' z' hk'
    exact hs.inj k k' q q' hq hq' (by rw [← e1, ← e2, hbb])

theorem take_overlay {α : Type} (l m : List α) (off N : Nat) (h1 : off + m.length ≤ N) (h2 : N ≤ l.length) : (l.take off ++ m ++ l.drop (off + m.length)).take N = (l.take N).take off ++ m ++ (l.take N).drop (off + m.length) := by
  apply List.ext_getElem?
  intro i
  by_cases hN : i < N
  · rw [List.getElem?_take_of_lt hN]
    by_cases ho : i < off
    · rw [List.append_assoc, List.getElem?_append_left (by simp; omega), List.append_assoc, List.getElem?_append_left (by simp; omega), List.getElem?_take_of_lt ho, List.getElem?_take_of_lt ho, List.getElem?_take_of_lt hN]
    · have e1 : (l.take off).length = off := by simp; omega
      have e2 : ((l.take N).take off).length = off := by simp; omega
      have L : ∀ X : List α, (l.take off ++ (m ++ X))[i]? = (m ++ X)[i - off]? := fun X => by rw [List.getElem?_append_right (by omega), e1]
      have R : ∀ X : List α, ((l.take N).take off ++ (m ++ X))[i]? = (m ++ X)[i - off]? := fun X => by rw [List.getElem?_append_right (by omega), e2]
      rw [List.append_assoc, List.append_assoc, L, R]
      by_cases hm : i - off < m.length
      · rw [List.getElem?_append_left hm, List.getElem?_append_left hm]
      · rw [List.getElem?_append_right (by omega), List.getElem?_append_right (by omega), List.getElem?_drop, List.getElem?_drop, List.getElem?_take_of_lt (by omega)]
  · rw [List.getElem?_eq_none (by simp; omega), List.getElem?_eq_none (by simp; omega)]

/-- Cells of a row are written. -/
theorem Sim.set_row (hs : Sim P B W0 H σ w) {id n s o : Nat} {et : TypeId} {cs xs : List AV} {us : List Value} (hg : H.get id = some (.row n et s cs)) (hr : RepL σ xs us) (hone : ∀ u ∈ us, u.oneCell' = true) (hfit : o + xs.length ≤ cs.length) :
    ∃ b cap c, σ.loc id = some b ∧ σ.own id 0 = some (b, cap) ∧ w.heap[b]? = some (.cells c et (0, 0)) ∧ o + us.length ≤ c.size ∧
      Sim P B W0 (H.set id (.row n et s (overlay cs o xs))) σ (w.setRow b (c.toList.take o ++ us ++ c.toList.drop (o + us.length)).toArray) := by
  obtain ⟨b, cap, c, h1, h1', h2, h3, h4, h5, h6, h7, h8, h9, h10, h11, h12⟩ := hs.obj id _ hg
  have hl := hr.length
  have hns : n * s ≤ c.size := by rw [h6]; exact Nat.mul_le_mul_right _ h7
  have hcl : c.toList.length = c.size := by simp
  refine ⟨b, cap, c, h1, h1', h3, by omega, ?_⟩
  have htake := take_overlay c.toList us o (n * s) (by omega) (by omega)
  refine hs.setAt (b := b) hg h1 h1 (fun k hk => setRow_other w b k _ hk) (hs.below.trans ⟨rfl, rfl, rfl, by simp, fun k hk => setRow_other w b k _ (by rintro rfl; exact h2 hk)⟩) h12
    ⟨b, cap, _, h1, h1', h2, setRow_heap w b c _ et (0, 0) h3, h4, h5, ?_, h7, h8, ?_, ?_, ?_, h12⟩
  · simp only [List.size_toArray, List.length_append, List.length_take, List.length_drop]
    omega
  · unfold overlay
    simp only [List.length_append, List.length_take, List.length_drop]
    omega
  · rw [htake]
    unfold overlay
    rw [← hl]
    exact ((h10.take _).append hr).append (h10.drop _)
  · rw [htake]
    intro v hv
    rcases List.mem_append.1 hv with hv | hv
    · rcases List.mem_append.1 hv with hv | hv
      · exact h11 v (List.mem_of_mem_take hv)
      · exact hone v hv
    · exact h11 v (List.mem_of_mem_drop hv)

theorem store_sound (hs : Sim P B W0 H σ w) {t : TypeId} {a x v : AV} {ua ux : Value} {H' : AHeap} (ra : Rep σ a ua) (rx : Rep σ x ux) (h : storeA P t a x H = some (v, H')) :
    UponA P ((do Instr.storeAt t ua ux; pure Next.skip : Sem Next).run P w) (Goes P B W0 σ v H') := by
  cases a with
  | ptr id off =>
    simp only [storeA] at h
    split at h
    · rename_i cs hg
      split at h
      · rename_i hc
        obtain ⟨h1, h2, h3, h4⟩ := hc
        simp only [Option.some.injEq, Prod.mk.injEq] at h
        obtain ⟨rfl, rfl⟩ := h
        obtain ⟨b, c, e, hb, hB, hh, hr, hn⟩ := hs.obj id _ hg
        simp only [Rep] at ra
        obtain ⟨b', hb', rfl⟩ := ra
        rw [hb] at hb'
        cases hb'
        have hcells := rx.cells h2
        have hlen := hcells.length
        have hclen := hr.length
        simp only [Array.length_toList] at hlen hclen
        obtain ⟨n, hn'⟩ := Option.ne_none_iff_exists'.1 h2
        have hsz : (sizeOf t).run P w = .ok ux.cells.size w := by
          rw [rx.width hn']
          exact szQ_run (by rw [h1, hn'])
        have hst := run_storeCells_at (P := P) b off e ux.cells.toList 0 c w hh (by simp; omega) (allOne_spec h4 hcells)
        simp only [Nat.add_zero] at hst
        have hrun : (Instr.storeAt t (.pointer (some ⟨b, off, none⟩)) ux).run P w = .ok () (w.setRow b (c.toList.take off ++ ux.cells.toList ++ c.toList.drop (off + ux.cells.toList.length)).toArray) := by
          simp only [Instr.storeAt, Instr.sureAddr, storeVar, Sem.run_bind, Sem.run_pure, Result.andThen_ok, hsz]
          simpa using hst
        simp only [Sem.run_bind, hrun, Result.andThen_ok, Sem.run_pure, UponA]
        refine ⟨σ, Ext.refl _ _, hs.set_cells hg hb hh ?_, by simp [undefA, Rep, undef]⟩
        rw [show ux.cells.toList.length = x.cells.length from by simpa using hlen]
        exact ((hr.take _).append hcells).append (hr.drop _)
      · cases h
    · rename_i n et s cs hg
      split at h
      · rename_i hc
        obtain ⟨h1, h2, h3, h4⟩ := hc
        simp only [Option.some.injEq, Prod.mk.injEq] at h
        obtain ⟨rfl, rfl⟩ := h
        have hcells := rx.cells h2
        obtain ⟨b, cap, c, hb, hown, hh, hfit, hsim⟩ := hs.set_row (o := off) hg hcells (allOne_spec h4 hcells) h3
        simp only [Rep] at ra
        obtain ⟨b', hb', rfl⟩ := ra
        rw [hb] at hb'
        cases hb'
        obtain ⟨m, hm⟩ := Option.ne_none_iff_exists'.1 h2
        have hsz : (sizeOf t).run P w = .ok ux.cells.size w := by
          rw [rx.width hm]
          exact szQ_run (by rw [h1, hm])
        have hst := run_storeCells_at (P := P) b off et ux.cells.toList 0 c w hh (by simpa using hfit) (allOne_spec h4 hcells)
        simp only [Nat.add_zero] at hst
        have hrun : (Instr.storeAt t (.pointer (some ⟨b, off, none⟩)) ux).run P w = .ok () (w.setRow b (c.toList.take off ++ ux.cells.toList ++ c.toList.drop (off + ux.cells.toList.length)).toArray) := by
          simp only [Instr.storeAt, Instr.sureAddr, storeVar, Sem.run_bind, Sem.run_pure, Result.andThen_ok, hsz]
          simpa using hst
        simp only [Sem.run_bind, hrun, Result.andThen_ok, Sem.run_pure, UponA]
        exact ⟨σ, Ext.refl _ _, hsim, by simp [undefA, Rep, undef]⟩
      · cases h
    · cases h
  | _ => simp [storeA] at h

theorem makeMap_sound (hs : Sim P B W0 H σ w) (t : TypeId) : UponA P ((do pure (Next.value (← Instr.makeMap t none)) : Sem Next).run P w) (Goes P B W0 σ (makeMapA H).1 (makeMapA H).2) := by
  have hrun : (Instr.makeMap t none).run P w = .ok (.map (some w.heap.size)) (w.alloc (.map #[] 0)) := by simp [Instr.makeMap]
  simp only [Sem.run_bind, hrun, Result.andThen_ok, Sem.run_pure, UponA]
  obtain ⟨h1, h2⟩ := hs.pushNew (cap := 0) (x := .map [] 0) (o := .map #[] 0) (w1 := w) rfl hs.below (by simp [blk, St.bindR]) fun hn =>
    ⟨w.heap.size, #[], by simp [St.bindR], hs.notNew, hn, by simp [RepE], fun o => hs.cells_new o⟩
  exact ⟨_, h2, h1, by simp [makeMapA, Rep, St.bindR]⟩

theorem RepE.append : ∀ {es fs : List (AV × AV × Nat)} {ms ns : List MapEntry}, RepE σ es ms → RepE σ fs ns → RepE σ (es ++ fs) (ms ++ ns)
  | [], _, _, _, h, k => by simp only [RepE] at h; subst h; simpa using k
  | (k', v, b) :: es, fs, ms, ns, h, k => by
    simp only [RepE] at h
    obtain ⟨m, ms', rfl, r1, r2, r3, r4⟩ := h
    simp only [List.cons_append, RepE]
    exact ⟨m, _, rfl, r1, r2, r3, r4.append k⟩

theorem RepE.setAt : ∀ {es : List (AV × AV × Nat)} {ms : List MapEntry} {i : Nat} {k v : AV} {f : MapEntry → MapEntry}, RepE σ es ms → (∀ m, ms[i]? = some m → Rep σ k (f m).key ∧ Rep σ v (f m).val ∧ (f m).born = m.born) → RepE σ (setAt es i k v) (ms.modify i f)
  | [], ms, i, k, v, f, h, _ => by simp only [RepE] at h; subst h; simp [Ab.setAt, RepE]
  | (k', v', b) :: es, ms, i, k, v, f, h, hf => by
    simp only [RepE] at h
    obtain ⟨m, ms', rfl, r1, r2, r3, r4⟩ := h
    cases i with
    | zero =>
      obtain ⟨q1, q2, q3⟩ := hf m (by simp)
      simp only [Ab.setAt, List.take_zero, List.getElem?_cons_zero, List.nil_append, List.drop_succ_cons, List.drop_zero, List.singleton_append, List.modify_zero_cons, RepE]
      exact ⟨f m, ms', rfl, q1, q2, by rw [q3, r3], r4⟩
    | succ i =>
      have ih := RepE.setAt (i := i) (k := k) (v := v) (f := f) r4 (fun m' hm' => hf m' (by simpa using hm'))
      simp only [Ab.setAt, List.take_succ_cons, List.getElem?_cons_succ, List.cons_append, List.drop_succ_cons, List.modify_succ_cons, RepE] at ih ⊢
      exact ⟨m, _, rfl, r1, r2, r3, ih⟩

theorem findNow_at {d : TypeDesc} {k : Value} : ∀ (ms : List MapEntry) (i j : Nat) (x : Value), Instr.findNow d k ms i = some (some (j, x)) → ∃ m, i ≤ j ∧ ms[j - i]? = some m ∧ Instr.sameNow d k m.key = some true
  | [], i, j, x, h => by simp [Instr.findNow] at h
  | m :: ms, i, j, x, h => by
    simp only [Instr.findNow] at h
    split at h
    · rename_i hm
      simp only [Option.some.injEq, Prod.mk.injEq] at h
      obtain ⟨rfl, _⟩ := h
      exact ⟨m, Nat.le_refl _, by simp, hm⟩
    · obtain ⟨m', h1, h2, h3⟩ := findNow_at ms (i + 1) j x h
      refine ⟨m', by omega, ?_, h3⟩
      rw [show j - i = (j - (i + 1)) + 1 from by omega]
      simpa using h2
    · cases h

theorem mapUpdate_sound (hs : Sim P B W0 H σ w) {t : TypeId} {m k x v : AV} {um uk ux : Value} {H' : AHeap} (rm : Rep σ m um) (rk : Rep σ k uk) (rx : Rep σ x ux) (h : mapUpdateA P t m k x H = some (v, H')) :
    UponA P ((do Instr.mapUpdate t um uk ux; pure Next.skip : Sem Next).run P w) (Goes P B W0 σ v H') := by
  unfold mapUpdateA at h
  split at h
  · rename_i id
    split at h
    · rename_i es clock hg
      split at h
      · rename_i kt et hmq
        split at h
        · rename_i hk
          obtain ⟨hk, hw1, hw2⟩ := hk
          have hu := mapQ_spec hmq
          obtain ⟨b, ms, hb, hB, hh, re, hn⟩ := hs.obj id _ hg
          simp only [Rep] at rm
          obtain ⟨b', hb', rfl⟩ := rm
          rw [hb] at hb'
          cases hb'
          have hset : ∀ o' : Obj, (∀ k', k' ≠ b → (w.heap.setIfInBounds b o')[k']? = w.heap[k']?) ∧ (w.heap.setIfInBounds b o')[b]? = some o' := fun o' => ⟨(Go.MapKept.heap_set hh).2, (Go.MapKept.heap_set hh).1⟩
          have hbel : ∀ o' : Obj, BelowS B W0 { w with heap := w.heap.setIfInBounds b o' } := fun o' => hs.below.trans ⟨rfl, rfl, rfl, by simp, fun k' hk' => (hset o').1 k' (by rintro rfl; exact hB hk')⟩
          split at h
          · rename_i j v1 hf
            obtain ⟨k1, r', k2, k3⟩ := key_ok (w := w) rk hk re hf (em := false)
            obtain ⟨j', v', y, e1, rfl, ry⟩ := k3.resolve_left (by simp)
            simp only [Option.some.injEq, Prod.mk.injEq] at e1
            obtain ⟨rfl, rfl⟩ := e1
            cases h
            obtain ⟨mm, hmm, hstay⟩ : ∃ mm, ms[j]? = some mm ∧ (Instr.keyThatStays mm.key uk).run P w = .ok uk w := by
              unfold keyOkA at hk
              cases hkt : P.underlying kt with
              | none => simp [hkt] at hk
              | some d =>
                have isk : Go.MapKept.IsKey d uk ∧ (Instr.findNow d uk ms.toList 0 = some (some (j, y))) := by
                  cases d <;> simp only [hkt, Bool.false_eq_true] at hk
                  case int q =>
                    cases k <;> simp only [Bool.false_eq_true] at hk
                    rename_i q' n
                    simp only [Rep] at rk
                    subst rk
                    refine ⟨by simpa [Go.MapKept.IsKey] using hk, ?_⟩
                    obtain ⟨r2, h1, h2⟩ := findA_ok (σ := σ) (d := .int q) (k := .int q' n) (u := .int q' n) (by simp [Rep]) (.inl ⟨⟨q, rfl⟩, q', n, rfl⟩) es ms.toList 0 _ re hf
                    have : (Instr.findKey kt (.int q' n) ms.toList).run P w = .ok r2 w := by simp [Instr.findKey, under_run hkt, h1]
                    rw [k2] at this
                    cases this
                    exact h1
                  case string =>
                    cases k <;> simp only [Bool.false_eq_true] at hk
                    rename_i l
                    simp only [Rep] at rk
                    subst rk
                    refine ⟨by simp [Go.MapKept.IsKey], ?_⟩
                    obtain ⟨r2, h1, h2⟩ := findA_ok (σ := σ) (d := .string) (k := .str l) (u := .string ⟨l.toArray⟩) (by simp [Rep]) (.inr ⟨rfl, l, rfl⟩) es ms.toList 0 _ re hf
                    have : (Instr.findKey kt (.string ⟨l.toArray⟩) ms.toList).run P w = .ok r2 w := by simp [Instr.findKey, under_run hkt, h1]
                    rw [k2] at this
                    cases this
                    exact h1
                  case array n el =>
                    cases k <;> simp only [Bool.false_eq_true] at hk
                    cases es with
                    | nil => simp [findA] at hf
                    | cons e es => obtain ⟨k', v', b'⟩ := e; simp [findA, keyEqA] at hf
                obtain ⟨mm, _, hmm, hsame⟩ := findNow_at ms.toList 0 j y isk.2
                simp only [Nat.sub_zero, Array.getElem?_toList] at hmm
                refine ⟨mm, hmm, ?_⟩
                have heq : mm.key = uk := by
                  have hk1 := isk.1
                  cases d <;> cases uk <;> simp [Go.MapKept.IsKey] at hk1 <;> cases hkk : mm.key <;> simp [hkk, Instr.sameNow, Go.MapKept.bytes_beq] at hsame <;> simp_all
                rw [heq]
                exact Go.MapKept.run_keyThatStays isk.1
            have hrun : (Instr.mapUpdate t (.map (some b)) uk ux).run P w = .ok () { w with heap := w.heap.setIfInBounds b (.map (ms.modify j fun e => { e with key := uk, val := ux }) clock) } := by
              simp [Instr.mapUpdate, under_run hu, Go.MapKept.run_getObj_map hh, k1, k2, hmm, hstay, Go.MapKept.run_setObj_map _ hh]
            simp only [Sem.run_bind, hrun, Result.andThen_ok, Sem.run_pure, UponA]
            refine ⟨σ, Ext.refl _ _, hs.setAt (b := b) hg hb hb (hset _).1 (hbel _) hn ⟨b, _, hb, hB, (hset _).2, ?_, hn⟩, by simp [undefA, Rep, undef]⟩
            rw [Array.toList_modify]
            exact re.setAt fun m' _ => ⟨rk, rx, rfl⟩
          · rename_i hf
            obtain ⟨k1, r', k2, k3⟩ := key_ok (w := w) rk hk re hf (em := false)
            have : r' = none := by
              rcases k3 with ⟨_, h2⟩ | ⟨j, v, x, h1, _⟩
              · exact h2
              · simp at h1
            subst this
            cases h
            have hrun : (Instr.mapUpdate t (.map (some b)) uk ux).run P w = .ok () { w with heap := w.heap.setIfInBounds b (.map (ms.push { key := uk, val := ux, born := clock }) (clock + 1)) } := by
              simp [Instr.mapUpdate, under_run hu, Go.MapKept.run_getObj_map hh, k1, k2, Go.MapKept.run_setObj_map _ hh]
            simp only [Sem.run_bind, hrun, Result.andThen_ok, Sem.run_pure, UponA]
            refine ⟨σ, Ext.refl _ _, hs.setAt (b := b) hg hb hb (hset _).1 (hbel _) hn ⟨b, _, hb, hB, (hset _).2, ?_, hn⟩, by simp [undefA, Rep, undef]⟩
            rw [Array.toList_push]
            exact re.append (by simp only [RepE]; exact ⟨_, _, rfl, rk, rx, rfl, rfl⟩)
          · cases h
        · cases h
      · cases h
    · cases h
  · cases h

end
end Go.Ab

/- Slices that are built and that grow, against the model. -/
namespace Go.Ab
set_option linter.unusedVariables false
open Go Go.RowKit

section
variable {P : Program} {B : Nat → Prop} {W0 : World} {H : AHeap} {σ : St} {w : World}

/-- The cells of a row, and what they serve for wherever they lie again. -/
theorem RepRow.flat {b s : Nat} : ∀ {off : Nat} {es : List AV}, RepRow σ b s off es → ∃ cs : List Value, cs.length = es.length * s ∧ (∀ j v, cs[j]? = some v → σ.cells b (off + j) = some v) ∧
    ∀ σ' b' off', σ.le σ' → (∀ j v, cs[j]? = some v → σ'.cells b' (off' + j) = some v) → RepRow σ' b' s off' es
  | _, [], _ => ⟨[], by simp, by simp, fun _ _ _ _ _ => by simp [RepRow]⟩
  | off, e :: es, h => by
    simp only [RepRow] at h
    obtain ⟨⟨u, r, hs, hc⟩, q⟩ := h
    obtain ⟨cs, hl, hcs, hre⟩ := RepRow.flat q
    refine ⟨u.cells.toList ++ cs, by simp [hl, hs, Nat.add_mul, Nat.add_comm], ?_, ?_⟩
    · intro j v hj
      by_cases hjs : j < s
      · rw [List.getElem?_append_left (by simpa [hs] using hjs)] at hj
        exact hc j v (by simpa using hj)
      · rw [List.getElem?_append_right (by simp [hs]; omega)] at hj
        have := hcs _ v hj
        simp only [Array.length_toList, hs] at this
        rwa [show off + s + (j - s) = off + j from by omega] at this
    · intro σ' b' off' hle hnew
      simp only [RepRow]
      refine ⟨⟨u, r.mono hle, hs, ?_⟩, hre σ' b' (off' + s) hle ?_⟩
      · intro j v hj
        have hjs : j < s := by rw [← hs]; exact (Array.getElem?_eq_some_iff.1 hj).1
        exact hnew j v (by rw [List.getElem?_append_left (by simpa [hs] using hjs)]; simpa using hj)
      · intro j v hj
        have := hnew (s + j) v (by rw [List.getElem?_append_right (by simp [hs])]; simpa [hs] using hj)
        rwa [show off' + (s + j) = off' + s + j from by omega] at this

theorem RepRow.of_vals {b s : Nat} : ∀ {off : Nat} {es : List AV} {us : List Value}, RepL σ es us → (∀ u ∈ us, u.cells.size = s) →
    (∀ (i : Nat) (u : Value), us[i]? = some u → ∀ (j : Nat) (v : Value), u.cells[j]? = some v → σ.cells b (off + i * s + j) = some v) → RepRow σ b s off es
  | _, [], _, _, _, _ => by simp [RepRow]
  | off, e :: es, us, h, hsz, hc => by
    rw [RepL.cons_iff] at h
    obtain ⟨u, us', rfl, r, q⟩ := h
    simp only [RepRow]
    refine ⟨⟨u, r, hsz u (by simp), fun j v hj => by simpa using hc 0 u (by simp) j v hj⟩, RepRow.of_vals q (fun u hu => hsz u (by simp [hu])) ?_⟩
    intro i u' hi j v hj
    have := hc (i + 1) u' (by simpa using hi) j v hj
    rwa [show off + (i + 1) * s + j = off + s + i * s + j from by rw [Nat.add_mul]; omega] at this

theorem RepRow.append {b s : Nat} : ∀ {off : Nat} {es fs : List AV}, RepRow σ b s off es → RepRow σ b s (off + es.length * s) fs → RepRow σ b s off (es ++ fs)
  | _, [], _, _, h => by simpa using h
  | off, e :: es, fs, h, k => by
    simp only [RepRow] at h
    simp only [List.cons_append, RepRow]
    refine ⟨h.1, RepRow.append h.2 ?_⟩
    rwa [show off + s + es.length * s = off + (e :: es).length * s from by simp [Nat.add_mul]; omega]

/-- Cells of block b0 from o0 on are known for good now, and where this version of this growing row lies. -/
def St.commit (σ : St) (b0 o0 : Nat) (cs : List Value) (k n cap : Nat) : St where
  cells := fun b o => if b = b0 ∧ o0 ≤ o ∧ o < o0 + cs.length then cs[o - o0]? else σ.cells b o
  loc := σ.loc
  own := fun k' n' => if k' = k ∧ n' = n then some (b0, cap) else σ.own k' n'

theorem St.commit_le {b0 o0 k n cap : Nat} {cs : List Value} (hc : ∀ o, o0 ≤ o → σ.cells b0 o = none) (ho : σ.own k n = none ∨ σ.own k n = some (b0, cap)) : σ.le (σ.commit b0 o0 cs k n cap) := by
  refine ⟨fun b o v h => ?_, fun _ _ h => h, fun k' n' x h => ?_⟩
  · simp only [St.commit]
    split
    · rename_i hh
      obtain ⟨rfl, h1, _⟩ := hh
      rw [hc o h1] at h; cases h
    · exact h
  · simp only [St.commit]
    split
    · rename_i hh
      obtain ⟨rfl, rfl⟩ := hh
      rcases ho with ho | ho <;> rw [ho] at h
      · cases h
      · exact h
    · exact h

theorem St.commit_get {b0 o0 k n cap : Nat} {cs : List Value} {j : Nat} {v : Value} (h : cs[j]? = some v) : (σ.commit b0 o0 cs k n cap).cells b0 (o0 + j) = some v := by
  have hj : j < cs.length := (List.getElem?_eq_some_iff.1 h).1
  simp only [St.commit]
  rw [if_pos ⟨trivial, by omega, by omega⟩, show o0 + j - o0 = j from by omega, h]

/-- A new row with room, its first cells known for good. -/
theorem Sim.grow_new (hs : Sim P B W0 H σ w) {k n et : Nat} {s cap : Nat} {cs : List Value} {c : Array Value} {w1 : World}
    (hw1 : w1.heap = w.heap) (hbel : BelowS B W0 w1) (hsz : szQ P et = some s) (hcs : cs.length = n * s) (hcc : ∀ (j : Nat) (v : Value), cs[j]? = some v → c[j]? = some v)
    (hone : ∀ v ∈ cs, v.oneCell' = true) (hcsz : c.size = cap * s) (hncap : n ≤ cap) (hcm : cap ≤ maxLen)
    (hk : ∀ m, n ≤ m → σ.own k m = none) {H' : AHeap} (hH : H'.next = max H.next (k + 1))
    (hg : ∀ i, H'.get i = if i = k then some (.tip n et) else H.get i) :
    Sim P B W0 H' (σ.commit w.heap.size 0 cs k n cap) (w1.alloc (.cells c et)) ∧ σ.le (σ.commit w.heap.size 0 cs k n cap) := by
  have hle : σ.le (σ.commit w.heap.size 0 cs k n cap) := St.commit_le (fun o _ => hs.cells_new o) (.inl (hk n (Nat.le_refl _)))
  have hsize : w1.heap.size = w.heap.size := by rw [hw1]
  have hold : ∀ b, b < w.heap.size → (w1.alloc (.cells c et)).heap[b]? = w.heap[b]? := fun b hb => by
    rw [heap_old w1 _ (by omega), hw1]
  have hnew : (w1.alloc (.cells c et)).heap[w.heap.size]? = some (.cells c et (0, 0)) := by
    rw [← hsize]; exact heap_new w1 _
  refine ⟨⟨hbel.alloc (fun k hk => by rw [hsize]; exact hs.size k hk) _, hs.base, ?_, ?_, ?_, ?_, ?_, ?_⟩, hle⟩
  · intro b o v h
    simp only [St.commit] at h
    split at h
    · rename_i hh
      obtain ⟨rfl, _, _⟩ := hh
      rw [cell_of_row hnew]
      exact hcc _ v (by simpa using h)
    · rw [cell_of_heap (hold b (hs.cells_lt h))]
      exact hs.cells b o v h
  · intro b o v h
    simp only [St.commit] at h
    split at h
    · exact hone v (List.mem_of_getElem? h)
    · exact hs.one b o v h
  · intro id hid
    rw [hH] at hid
    have hid1 : H.next ≤ id := by omega
    have hne : id ≠ k := by omega
    have := hs.fresh id hid1
    refine ⟨this.1, fun m => ?_⟩
    simp only [St.commit]
    rw [if_neg (by rintro ⟨rfl, _⟩; exact hne rfl)]
    exact this.2 m
  · intro id x h
    rw [hg] at h
    rw [hH]
    split at h
    · omega
    · have := hs.keys id x h; omega
  · intro id x h
    rw [hg] at h
    split at h
    · rename_i e
      subst e
      cases h
      refine ⟨w.heap.size, cap, c, s, by simp [St.commit], hs.notNew, hnew, hsz, hcsz, hncap, hcm, ?_, ?_⟩
      · intro o ho
        simp only [St.commit]
        rw [if_neg (by rw [hcs]; omega)]
        exact hs.cells_new o
      · intro m hm
        simp only [St.commit]
        rw [if_neg (by omega)]
        exact hk m (by omega)
    · rename_i hne
      have ho := hs.obj id x h
      refine ho.keep hle (fun b hb => ?_) (fun m => by simp only [St.commit]; rw [if_neg (by rintro ⟨e, _⟩; exact hne e)])
      obtain ⟨b', hb', _, hlt⟩ := ho.blk
      rw [hb] at hb'
      cases hb'
      exact ⟨hold b hlt, fun o => by simp only [St.commit]; rw [if_neg (by rintro ⟨rfl, _⟩; exact absurd hlt (Nat.lt_irrefl _))]⟩
  · intro id id' x x' h h' hb
    have key : ∀ i y, i ≠ k → H.get i = some y → ∃ b, blk (σ.commit w.heap.size 0 cs k n cap) i y = some b ∧ blk σ i y = some b ∧ b < w.heap.size := fun i y _ hy => by
      obtain ⟨b, h1, _, h3⟩ := (hs.obj i y hy).blk
      exact ⟨b, blk_keep hle h1, h1, h3⟩
    have keyk : blk (σ.commit w.heap.size 0 cs k n cap) k (.tip n et) = some w.heap.size := by simp [blk, St.commit]
    rw [hg] at h h'
    split at h
    · rename_i e1
      split at h'
      · rename_i e2; rw [e1, e2]
      · rename_i e2
        cases h
        obtain ⟨b, h1, _, h3⟩ := key id' x' e2 h'
        rw [e1, keyk, h1] at hb
        cases hb
        exact absurd h3 (Nat.lt_irrefl _)
    · rename_i e1
      split at h'
      · rename_i e2
        cases h'
        obtain ⟨b, h1, _, h3⟩ := key id x e1 h
        rw [e2, keyk, h1] at hb
        cases hb
        exact absurd h3 (Nat.lt_irrefl _)
      · rename_i e2
        obtain ⟨b, h1, g1, _⟩ := key id x e1 h
        obtain ⟨b', h1', g1', _⟩ := key id' x' e2 h'
        rw [h1, h1'] at hb
        exact hs.inj id id' x x' h h' (by rw [g1, g1', hb])

/-- A row whose next cells are written in their place. -/
theorem Sim.grow_room (hs : Sim P B W0 H σ w) {k n m et : Nat} {s cap b : Nat} {cs : List Value} {c : Array Value} (hk : H.get k = some (.tip n et)) (hown : σ.own k n = some (b, cap))
    (hh : w.heap[b]? = some (.cells c et (0, 0))) (hsz : szQ P et = some s) (hcs : cs.length = m * s) (hone : ∀ v ∈ cs, v.oneCell' = true) (hm : 0 < m) (hroom : n + m ≤ cap) :
    Sim P B W0 (H.set k (.tip (n + m) et)) (σ.commit b (n * s) cs k (n + m) cap) (w.setRow b (c.toList.take (n * s) ++ cs ++ c.toList.drop (n * s + cs.length)).toArray) ∧ Ext B σ (σ.commit b (n * s) cs k (n + m) cap) := by
  obtain ⟨b', cap', c', s', h1, hB, h3, h4, h5, h6, h7, h8, h9⟩ := hs.obj k _ hk
  rw [hown] at h1
  cases h1
  rw [hh] at h3
  cases h3
  rw [hsz] at h4
  cases h4
  have hle : σ.le (σ.commit b (n * s) cs k (n + m) cap) := St.commit_le h8 (.inl (h9 _ (by omega)))
  have hother : ∀ i, i ≠ b → (w.setRow b (c.toList.take (n * s) ++ cs ++ c.toList.drop (n * s + cs.length)).toArray).heap[i]? = w.heap[i]? := fun i hi => setRow_other w b i _ hi
  have hnow := setRow_heap w b c (c.toList.take (n * s) ++ cs ++ c.toList.drop (n * s + cs.length)).toArray et (0, 0) hh
  have hfit : n * s + cs.length ≤ c.size := by rw [hcs, h5, ← Nat.add_mul]; exact Nat.mul_le_mul_right _ hroom
  have hget : ∀ o, ((c.toList.take (n * s) ++ cs ++ c.toList.drop (n * s + cs.length)).toArray)[o]? = if n * s ≤ o ∧ o < n * s + cs.length then cs[o - n * s]? else c[o]? := by
    intro o
    rw [List.getElem?_toArray]
    by_cases h1 : o < n * s
    · rw [if_neg (by omega), List.append_assoc, List.getElem?_append_left (by simp; omega), List.getElem?_take_of_lt h1, Array.getElem?_toList]
    · rw [List.append_assoc, List.getElem?_append_right (by simp; omega)]
      simp only [List.length_take, Array.length_toList]
      rw [show min (n * s) c.size = n * s from by omega]
      by_cases h2 : o < n * s + cs.length
      · rw [if_pos ⟨by omega, h2⟩, List.getElem?_append_left (by omega)]
      · rw [if_neg (by omega), List.getElem?_append_right (by omega), List.getElem?_drop, Array.getElem?_toList]
        congr 1
        omega
  have hgset : ∀ i, (H.set k (.tip (n + m) et)).get i = if i = k then some (.tip (n + m) et) else H.get i := fun i => by
    rw [AHeap.get_set]
    by_cases e : k = i
    · subst e; simp [hk]
    · rw [if_neg e, if_neg (Ne.symm e)]
  have hblkk : blk (σ.commit b (n * s) cs k (n + m) cap) k (.tip (n + m) et) = some b := by simp [blk, St.commit]
  have hblk0 : blk σ k (.tip n et) = some b := by simp [blk, hown]
  refine ⟨⟨hs.below.trans ⟨rfl, rfl, rfl, by simp, fun i hi => hother i (by rintro rfl; exact hB hi)⟩, hs.base, ?_, ?_, ?_, ?_, ?_, ?_⟩, hle, ?_⟩
  · intro b' o v h
    simp only [St.commit] at h
    by_cases hb : b' = b
    · subst hb
      rw [cell_of_row hnow, hget]
      split at h
      · rename_i hh'
        rw [if_pos ⟨hh'.2.1, hh'.2.2⟩]; exact h
      · rename_i hh'
        rw [if_neg (fun q => hh' ⟨rfl, q.1, q.2⟩)]
        have := hs.cells b' o v h
        rwa [cell_of_row hh] at this
    · rw [if_neg (fun q => hb q.1)] at h
      rw [cell_of_heap (hother b' hb)]
      exact hs.cells b' o v h
  · intro b' o v h
    simp only [St.commit] at h
    split at h
    · exact hone v (List.mem_of_getElem? h)
    · exact hs.one b' o v h
  · intro id hid
    have hid' : H.next ≤ id := hid
    have hne : id ≠ k := by have := hs.keys k _ hk; omega
    have := hs.fresh id hid'
    refine ⟨this.1, fun q => ?_⟩
    simp only [St.commit]
    rw [if_neg (by rintro ⟨e, _⟩; exact hne e)]
    exact this.2 q
  · intro id x h
    rw [hgset] at h
    show id < H.next
    split at h
    · rename_i e; subst e; exact hs.keys id _ hk
    · exact hs.keys id x h
  · intro id x h
    rw [hgset] at h
    split at h
    · rename_i e
      subst e
      cases h
      refine ⟨b, cap, _, s, by simp [St.commit], hB, hnow, hsz, ?_, hroom, h7, ?_, ?_⟩
      · simp only [List.size_toArray, List.length_append, List.length_take, List.length_drop, Array.length_toList]
        omega
      · intro o ho
        simp only [St.commit]
        rw [Nat.add_mul] at ho
        rw [if_neg (by rw [hcs]; omega)]
        exact h8 o (by omega)
      · intro q hq
        simp only [St.commit]
        rw [if_neg (by omega)]
        exact h9 q (by omega)
    · rename_i hne
      have ho := hs.obj id x h
      have hbb : ∀ b', blk σ id x = some b' → b' ≠ b := by
        rintro b' hb' rfl
        exact hne (hs.inj id k x _ h hk (by rw [hb', hblk0]))
      refine ho.keep hle (fun b' hb' => ⟨hother b' (hbb b' hb'), fun o => ?_⟩) (fun q => ?_)
      · simp only [St.commit]
        rw [if_neg (fun q => hbb b' hb' q.1)]
      · simp only [St.commit]
        rw [if_neg (by rintro ⟨e, _⟩; exact hne e)]
  · intro id id' x x' h h' hb
    have key : ∀ i y, i ≠ k → H.get i = some y → ∃ b', blk (σ.commit b (n * s) cs k (n + m) cap) i y = some b' ∧ blk σ i y = some b' ∧ b' ≠ b := fun i y hi hy => by
      obtain ⟨b', q1, _, _⟩ := (hs.obj i y hy).blk
      refine ⟨b', blk_keep hle q1, q1, ?_⟩
      rintro rfl
      exact hi (hs.inj i k y _ hy hk (by rw [q1, hblk0]))
    rw [hgset] at h h'
    split at h
    · rename_i e1
      split at h'
      · rename_i e2; rw [e1, e2]
      · rename_i e2
        cases h
        obtain ⟨b', q1, _, q3⟩ := key id' x' e2 h'
        rw [e1, hblkk, q1] at hb
        cases hb
        exact absurd rfl q3
    · rename_i e1
      split at h'
      · rename_i e2
        cases h'
        obtain ⟨b', q1, _, q3⟩ := key id x e1 h
        rw [e2, hblkk, q1] at hb
        cases hb
        exact absurd rfl q3
      · rename_i e2
        obtain ⟨b1, q1, g1, _⟩ := key id x e1 h
        obtain ⟨b2, q2, g2, _⟩ := key id' x' e2 h'
        rw [q1, q2] at hb
        exact hs.inj id id' x x' h h' (by rw [g1, g2, hb])
  · intro b' o hb'
    simp only [St.commit]
    rw [if_neg (by rintro ⟨rfl, _⟩; exact hB hb')]

end
end Go.Ab

/- append and slice literals, against the model. -/
namespace Go.Ab
set_option linter.unusedVariables false
open Go Go.RowKit

section
variable {P : Program} {B : Nat → Prop} {W0 : World} {H : AHeap} {σ : St} {w : World}

theorem run_append_zero (t ty e : TypeId) (i : TypeInfo) (ht : P.underlying t = some (.slice e)) (hi : P.info? e = some i) (a a2 : Option Addr) (n cap c2 : Nat) (h : n ≤ cap) :
    (Builtin.append_ #[t, t] ty #[.slice a n cap, .slice a2 0 c2]).run P w = .ok (.slice a n cap) w := by
  cases a <;> cases a2 <;> simp [Builtin.append_, run_underlying ht, sizeOf, typeInfo, hi, Builtin.lenOf, Builtin.firstCells, loadCells, loadCellsFrom, h, storeCells]

theorem setL_same : ∀ (l : List (Nat × AObj)) (k : Nat) (x : AObj), getL l k = some x → setL l k x = l
  | [], _, _, h => by simp [getL] at h
  | (j, y) :: l, k, x, h => by
    simp only [getL] at h
    simp only [setL]
    split
    · rename_i e; rw [if_pos e] at h; cases h; rfl
    · rename_i e; rw [if_neg e] at h; rw [setL_same l k x h]

theorem AHeap.set_same {k : Nat} {x : AObj} (h : H.get k = some x) : H.set k x = H := by
  unfold AHeap.set
  have : getL H.objs k = some x := by
    unfold AHeap.get at h
    split at h
    · exact h
    · cases h
  rw [setL_same H.objs k x this]

theorem info_of {t : TypeId} {s b : Nat} {z : List AV} (hs : szQ P t = some s) (hb : byQ P t = some b) (hz : zeroQ P t = some z) :
    ∃ i zv, P.info? t = some i ∧ i.size = s ∧ i.bytes = b ∧ i.zero = some zv ∧ zv.cells.size = z.length := by
  obtain ⟨i, zv, hi, hzv, rfl⟩ := zeroQ_spec hz
  refine ⟨i, zv, hi, ?_, ?_, hzv, by simp⟩
  · simpa [szQ, hi] using hs
  · simpa [byQ, hi] using hb

theorem appendVec_sound (hs : Sim P B W0 H σ w) {t1 ty : TypeId} {o o' : Own} {es fs : List AV} {v : AV} {ux uy : Value} {H' : AHeap} (rx : Rep σ (.vec o es) ux) (ry : Rep σ (.vec o' fs) uy) {et s by_ : Nat} {z : List AV}
    (het : elemQ P t1 = some et) (hsz : szQ P et = some s) (hby : byQ P et = some by_) (hz : zeroQ P et = some z) (hs0 : s ≠ 0) (hzl : z.length = s) (h : appendVec P t1 et by_ o es fs H = some (v, H')) :
    UponA P ((do pure (Next.value (← Builtin.append_ #[t1, t1] ty #[ux, uy])) : Sem Next).run P w) (Goes P B W0 σ v H') := by
        simp only [appendVec] at h
        split at h
        · rename_i hc
          obtain ⟨hst1, hst2, hbytes, hlen⟩ := hc
          have ht := elemQ_spec het
          obtain ⟨i, zv, hi, his, hib, hiz, hzs⟩ := info_of hsz hby hz
          have rx0 := rx
          simp only [Rep] at rx ry
          obtain ⟨ax, cx, rfl, hlx, hox, hrx⟩ := rx
          obtain ⟨ay, cy, rfl, hly, _, hry⟩ := ry
          obtain ⟨et1, s1, he1, hs1, hw1⟩ := strideQ_spec hst1
          obtain ⟨et2, s2, he2, hs2, hw2⟩ := strideQ_spec hst2
          rw [het] at he1 he2
          cases he1
          cases he2
          rw [hsz] at hs1 hs2
          cases hs1
          cases hs2
          have hm63 : es.length + fs.length ≤ maxLen := by unfold maxLen; omega
          by_cases hm0 : fs = []
          · subst hm0
            have hrun := run_append_zero (P := P) (w := w) t1 ty et i ht hi ax ay es.length cx cy hlx
            simp only [List.length_nil] at h ⊢
            simp only [Sem.run_bind, hrun, Result.andThen_ok, Sem.run_pure, UponA]
            cases o with
            | nil =>
              simp only at h
              split at h
              · rename_i he0
                simp only [if_true, Option.some.injEq, Prod.mk.injEq] at h
                obtain ⟨rfl, rfl⟩ := h
                have : es = [] := List.eq_nil_of_length_eq_zero he0
                subst this
                exact ⟨σ, Ext.refl _ _, hs, rx0⟩
              · cases h
            | ro =>
              simp only [if_true, Option.some.injEq, Prod.mk.injEq] at h
              obtain ⟨rfl, rfl⟩ := h
              exact ⟨σ, Ext.refl _ _, hs, rx0⟩
            | full =>
              simp only [if_true, Option.some.injEq, Prod.mk.injEq] at h
              obtain ⟨rfl, rfl⟩ := h
              exact ⟨σ, Ext.refl _ _, hs, rx0⟩
            | own k =>
              simp only at h
              split at h
              · rename_i n et' hk
                split at h
                · rename_i hne
                  obtain ⟨rfl, rfl⟩ := hne
                  simp only [Nat.add_zero, List.append_nil, Option.some.injEq, Prod.mk.injEq] at h
                  obtain ⟨rfl, rfl⟩ := h
                  rw [AHeap.set_same hk]
                  exact ⟨σ, Ext.refl _ _, hs, rx0⟩
                · cases h
              · cases h
          · have hmpos : 0 < fs.length := List.length_pos_iff.2 hm0
            obtain ⟨by2, oy, sy, rfl, rowy⟩ := hry.resolve_left hm0
            have hsy : sy = s := rowy.stride hm0 hw2
            subst hsy
            obtain ⟨news, hnl, hnc, hnre⟩ := rowy.flat
            have hnews : ∀ (j : Nat) (u : Value), news[j]? = some u → w.cell? ((⟨by2, oy, none⟩ : Addr).add j) = some u := fun j u hj => by
              rw [Addr.add_mk]; exact hs.cells _ _ _ (hnc j u hj)
            have hnone : ∀ u ∈ news, u.oneCell' = true := fun u hu => by
              obtain ⟨j, hj⟩ := List.getElem?_of_mem hu
              exact hs.one _ _ _ (hnc j u hj)
            have hnl' : news.length = fs.length * i.size := by rw [hnl, his]
            cases o with
            | ro => simp only [List.length_eq_zero_iff, hm0, if_false] at h; cases h
            | full =>
              simp only [List.length_eq_zero_iff, hm0, if_false, Option.some.injEq, Prod.mk.injEq] at h
              obtain ⟨rfl, rfl⟩ := h
              simp only [OwnOk] at hox
              subst hox
              have hkn : ∀ m, es.length + fs.length ≤ m → σ.own H.next m = none := fun m _ => (hs.fresh H.next (Nat.le_refl _)).2 m
              cases ax with
              | none =>
                have hes : es = [] := by
                  rcases hrx with h0 | ⟨b, off, s, e, _⟩
                  · exact h0
                  · cases e
                subst hes
                have hrun := run_append_nil (P := P) w t1 ty et i zv ht hi hiz ⟨by2, oy, none⟩ fs.length cy news hnl' hnews hmpos (by omega) (by
                  rw [hib]; have := hbytes; rw [List.length_nil, Nat.zero_add] at this; omega)
                have hge := grownCap_ge w fs.length 0 et
                have hcm := grownCap_le_maxLen w fs.length 0 et (by omega)
                simp only [List.length_nil, Nat.zero_add, List.nil_append] at hkn ⊢
                simp only [Sem.run_bind, hrun, Result.andThen_ok, Sem.run_pure, UponA]
                obtain ⟨hsim, hle⟩ := hs.grow_new (k := H.next) (n := fs.length) (et := et) (s := sy) (cap := grownCap w fs.length 0 et) (cs := news)
                  (c := news.toArray ++ Builtin.zeroCells zv.cells (grownCap w fs.length 0 et - fs.length)) (w1 := w.drew) rfl hs.below.drew hsz hnl
                  (fun j v hj => by
                    have : j < news.length := (List.getElem?_eq_some_iff.1 hj).1
                    rw [Array.getElem?_append_left (by simpa using this)]; simpa using hj)
                  hnone (by
                    simp only [Array.size_append, List.size_toArray, size_zeroCells, hzs, hzl, hnl, ← Nat.add_mul]
                    congr 1; omega) hge hcm (fun m _ => (hs.fresh H.next (Nat.le_refl _)).2 m) (H' := H.push (.tip fs.length et))
                  (by show H.next + 1 = _; omega) (fun i => by
                    rw [AHeap.get_push]
                    by_cases e : H.next = i
                    · subst e; simp
                    · rw [if_neg e, if_neg (Ne.symm e)])
                refine ⟨_, ⟨hle, fun b o hb => ?_⟩, hsim, ?_⟩
                · simp only [St.commit]
                  rw [if_neg (by rintro ⟨rfl, _⟩; exact hs.notNew hb)]
                · simp only [Rep]
                  refine ⟨_, _, rfl, hge, ⟨w.heap.size, by simp [St.commit], rfl⟩, .inr ⟨w.heap.size, 0, sy, rfl, hnre _ _ _ hle fun j v hj => St.commit_get hj⟩⟩
              | some ad =>
                obtain ⟨olds, hol, holds, hore, hone'⟩ : ∃ olds : List Value, olds.length = es.length * sy ∧ (∀ (j : Nat) (u : Value), olds[j]? = some u → w.cell? (ad.add j) = some u) ∧
                    (∀ σ' b' off', σ.le σ' → (∀ (j : Nat) (v : Value), olds[j]? = some v → σ'.cells b' (off' + j) = some v) → RepRow σ' b' sy off' es) ∧ ∀ u ∈ olds, u.oneCell' = true := by
                  by_cases hes : es = []
                  · subst hes
                    exact ⟨[], by simp, by simp, fun _ _ _ _ _ => by simp [RepRow], by simp⟩
                  · obtain ⟨b2, o2, s2, e2, row⟩ := hrx.resolve_left hes
                    cases e2
                    have := row.stride hes hw1
                    subst this
                    obtain ⟨olds, hol, hoc, hore⟩ := row.flat
                    exact ⟨olds, hol, fun j u hj => by rw [Addr.add_mk]; exact hs.cells _ _ _ (hoc j u hj), hore, fun u hu => by
                      obtain ⟨j, hj⟩ := List.getElem?_of_mem hu
                      exact hs.one _ _ _ (hoc j u hj)⟩
                have hrun := run_append_grow (P := P) w t1 ty et i zv ht hi hiz ad es.length es.length olds (by rw [hol, his]) holds ⟨by2, oy, none⟩ fs.length cy news hnl' hnews (by omega) (by omega)
                  (growslice_fits (by omega) (by rw [hib]; exact hbytes))
                have hge := grownCap_ge w (es.length + fs.length) es.length et
                have hcm := grownCap_le_maxLen w (es.length + fs.length) es.length et hm63
                simp only [Sem.run_bind, hrun, Result.andThen_ok, Sem.run_pure, UponA]
                obtain ⟨hsim, hle⟩ := hs.grow_new (k := H.next) (n := es.length + fs.length) (et := et) (s := sy) (cap := grownCap w (es.length + fs.length) es.length et) (cs := olds ++ news)
                  (c := olds.toArray ++ news.toArray ++ Builtin.zeroCells zv.cells (grownCap w (es.length + fs.length) es.length et - (es.length + fs.length))) (w1 := w.drew) rfl hs.below.drew hsz
                  (by rw [List.length_append, hol, hnl, ← Nat.add_mul])
                  (fun j v hj => by
                    have : j < (olds ++ news).length := (List.getElem?_eq_some_iff.1 hj).1
                    rw [Array.getElem?_append_left (by simpa using this)]; simpa using hj)
                  (fun u hu => by
                    rcases List.mem_append.1 hu with hu | hu
                    · exact hone' u hu
                    · exact hnone u hu) (by
                    simp only [Array.size_append, List.size_toArray, size_zeroCells, hzs, hzl, hnl, hol, ← Nat.add_mul]
                    congr 1; omega) hge hcm hkn (H' := H.push (.tip (es.length + fs.length) et))
                  (by show H.next + 1 = _; omega) (fun i => by
                    rw [AHeap.get_push]
                    by_cases e : H.next = i
                    · subst e; simp
                    · rw [if_neg e, if_neg (Ne.symm e)])
                refine ⟨_, ⟨hle, fun b o hb => ?_⟩, hsim, ?_⟩
                · simp only [St.commit]
                  rw [if_neg (by rintro ⟨rfl, _⟩; exact hs.notNew hb)]
                · simp only [Rep]
                  refine ⟨_, _, by rw [List.length_append], by rw [List.length_append]; exact hge, ⟨w.heap.size, by simp [St.commit], rfl⟩, .inr ⟨w.heap.size, 0, sy, rfl, ?_⟩⟩
                  refine RepRow.append (hore _ _ _ hle fun j v hj => ?_) (hnre _ _ _ hle fun j v hj => ?_)
                  · exact St.commit_get (by rw [List.getElem?_append_left (List.getElem?_eq_some_iff.1 hj).1]; exact hj)
                  · rw [Nat.zero_add, show es.length * sy + j = 0 + (olds.length + j) from by rw [hol]; omega]
                    exact St.commit_get (by rw [List.getElem?_append_right (by omega)]; simpa using hj)
            | nil =>
              simp only at h
              split at h
              · rename_i he0
                simp only [List.length_eq_zero_iff, hm0, if_false, Option.some.injEq, Prod.mk.injEq] at h
                obtain ⟨rfl, rfl⟩ := h
                obtain ⟨rfl, _, hcx⟩ := hox
                subst hcx
                rw [he0]
                have hrun := run_append_nil (P := P) w t1 ty et i zv ht hi hiz ⟨by2, oy, none⟩ fs.length cy news hnl' hnews hmpos (by omega) (by
                  rw [hib]; have := hbytes; rw [he0, Nat.zero_add] at this; omega)
                have hge := grownCap_ge w fs.length 0 et
                have hcm := grownCap_le_maxLen w fs.length 0 et (by omega)
                simp only [Sem.run_bind, hrun, Result.andThen_ok, Sem.run_pure, UponA]
                obtain ⟨hsim, hle⟩ := hs.grow_new (k := H.next) (n := fs.length) (et := et) (s := sy) (cap := grownCap w fs.length 0 et) (cs := news)
                  (c := news.toArray ++ Builtin.zeroCells zv.cells (grownCap w fs.length 0 et - fs.length)) (w1 := w.drew) rfl hs.below.drew hsz hnl
                  (fun j v hj => by
                    have : j < news.length := (List.getElem?_eq_some_iff.1 hj).1
                    rw [Array.getElem?_append_left (by simpa using this)]; simpa using hj)
                  hnone (by
                    simp only [Array.size_append, List.size_toArray, size_zeroCells, hzs, hzl, hnl, ← Nat.add_mul]
                    congr 1; omega) hge hcm (fun m _ => (hs.fresh H.next (Nat.le_refl _)).2 m) (H' := H.push (.tip fs.length et))
                  (by show H.next + 1 = _; omega) (fun i => by
                    rw [AHeap.get_push]
                    by_cases e : H.next = i
                    · subst e; simp
                    · rw [if_neg e, if_neg (Ne.symm e)])
                refine ⟨_, ⟨hle, fun b o hb => ?_⟩, hsim, ?_⟩
                · simp only [St.commit]
                  rw [if_neg (by rintro ⟨rfl, _⟩; exact hs.notNew hb)]
                · simp only [Rep]
                  refine ⟨_, _, rfl, hge, ⟨w.heap.size, by simp [St.commit], rfl⟩, .inr ⟨w.heap.size, 0, sy, rfl, hnre _ _ _ hle fun j v hj => St.commit_get hj⟩⟩
              · cases h
            | own k =>
              simp only at h
              split at h
              · rename_i n et' hk
                split at h
                · rename_i hne
                  obtain ⟨rfl, rfl⟩ := hne
                  simp only [Option.some.injEq, Prod.mk.injEq] at h
                  obtain ⟨rfl, rfl⟩ := h
                  obtain ⟨b, cap, c, s', h1, hB, h3, h4, h5, h6, h7, h8, h9⟩ := hs.obj k _ hk
                  rw [hsz] at h4
                  cases h4
                  obtain ⟨b', hb', rfl⟩ := hox
                  rw [h1] at hb'
                  obtain ⟨rfl, rfl⟩ : b = b' ∧ cap = cx := by simpa using hb'
                  have rowx : RepRow σ b sy 0 es := by
                    rcases hrx with rfl | ⟨b2, o2, s2, e2, row⟩
                    · simp [RepRow]
                    · cases e2
                      by_cases hes : es = []
                      · subst hes; simp [RepRow]
                      · have := row.stride hes hw1
                        subst this
                        exact row
                  by_cases hroom : es.length + fs.length ≤ cap
                  · have hfit : es.length * i.size + news.length ≤ c.size := by rw [hnl', h5, ← his, ← Nat.add_mul]; exact Nat.mul_le_mul_right _ hroom
                    have hrun := run_append_room (P := P) w t1 ty et' i ht hi b es.length cap c h3 ⟨by2, oy, none⟩ fs.length cy news hnl' hnews hnone hroom hfit
                    obtain ⟨hsim, hext⟩ := hs.grow_room hk h1 h3 hsz hnl hnone hmpos hroom
                    simp only [Sem.run_bind, hrun, Result.andThen_ok, Sem.run_pure, UponA, his]
                    refine ⟨_, hext, hsim, ?_⟩
                    simp only [Rep]
                    refine ⟨_, cap, by rw [List.length_append], by rw [List.length_append]; exact hroom, ⟨b, by simp [St.commit], rfl⟩, .inr ⟨b, 0, sy, rfl, ?_⟩⟩
                    refine RepRow.append (rowx.mono hext.le) ?_
                    exact hnre _ _ _ hext.le fun j v hj => by
                      rw [Nat.zero_add]; exact St.commit_get hj
                  · obtain ⟨olds, hol, hoc, hore⟩ := rowx.flat
                    have holds : ∀ (j : Nat) (u : Value), olds[j]? = some u → w.cell? ((⟨b, 0, none⟩ : Addr).add j) = some u := fun j u hj => by
                      rw [Addr.add_mk]; exact hs.cells _ _ _ (hoc j u hj)
                    have hone' : ∀ u ∈ olds ++ news, u.oneCell' = true := fun u hu => by
                      rcases List.mem_append.1 hu with hu | hu
                      · obtain ⟨j, hj⟩ := List.getElem?_of_mem hu
                        exact hs.one _ _ _ (hoc j u hj)
                      · exact hnone u hu
                    have hrun := run_append_grow (P := P) w t1 ty et' i zv ht hi hiz ⟨b, 0, none⟩ es.length cap olds (by rw [hol, his]) holds ⟨by2, oy, none⟩ fs.length cy news hnl' hnews (by omega) (by omega)
                      (growslice_fits (by omega) (by rw [hib]; exact hbytes))
                    have hge := grownCap_ge w (es.length + fs.length) cap et'
                    have hcm := grownCap_le_maxLen w (es.length + fs.length) cap et' hm63
                    simp only [Sem.run_bind, hrun, Result.andThen_ok, Sem.run_pure, UponA]
                    have hkn : k < H.next := hs.keys k _ hk
                    obtain ⟨hsim, hle⟩ := hs.grow_new (k := k) (n := es.length + fs.length) (et := et') (s := sy) (cap := grownCap w (es.length + fs.length) cap et') (cs := olds ++ news)
                      (c := olds.toArray ++ news.toArray ++ Builtin.zeroCells zv.cells (grownCap w (es.length + fs.length) cap et' - (es.length + fs.length))) (w1 := w.drew) rfl hs.below.drew hsz
                      (by rw [List.length_append, hol, hnl, ← Nat.add_mul])
                      (fun j v hj => by
                        have : j < (olds ++ news).length := (List.getElem?_eq_some_iff.1 hj).1
                        rw [Array.getElem?_append_left (by simpa using this)]; simpa using hj)
                      hone' (by
                        simp only [Array.size_append, List.size_toArray, size_zeroCells, hzs, hzl, hnl, hol, ← Nat.add_mul]
                        congr 1; omega) hge hcm (fun m hm => h9 m (by omega)) (H' := H.set k (.tip (es.length + fs.length) et'))
                      (by show H.next = _; omega) (fun i => by
                        rw [AHeap.get_set]
                        by_cases e : k = i
                        · subst e; simp [hk]
                        · rw [if_neg e, if_neg (Ne.symm e)])
                    refine ⟨_, ⟨hle, fun b o hb => ?_⟩, hsim, ?_⟩
                    · simp only [St.commit]
                      rw [if_neg (by rintro ⟨rfl, _⟩; exact hs.notNew hb)]
                    · simp only [Rep]
                      refine ⟨_, _, by rw [List.length_append], by rw [List.length_append]; exact hge, ⟨w.heap.size, by simp [St.commit], rfl⟩, .inr ⟨w.heap.size, 0, sy, rfl, ?_⟩⟩
                      refine RepRow.append (hore _ _ _ hle fun j v hj => ?_) (hnre _ _ _ hle fun j v hj => ?_)
                      · exact St.commit_get (by rw [List.getElem?_append_left (List.getElem?_eq_some_iff.1 hj).1]; exact hj)
                      · rw [Nat.zero_add, show es.length * sy + j = 0 + (olds.length + j) from by rw [hol]; omega]
                        exact St.commit_get (by rw [List.getElem?_append_right (by omega)]; simpa using hj)
                · cases h
              · cases h
        · cases h

/-- The cells of a row whose elements are all so wide. -/
theorem RepRow.cellsL {b s : Nat} : ∀ {off : Nat} {es : List AV}, RepRow σ b s off es → allWidth s es = true → ∃ us : List Value, RepL σ (es.flatMap AV.cells) us ∧ us.length = es.length * s ∧ ∀ j v, us[j]? = some v → σ.cells b (off + j) = some v
  | _, [], _, _ => ⟨[], by simp [RepL], by simp, by simp⟩
  | off, e :: es, h, hw => by
    simp only [RepRow] at h
    simp only [allWidth, Bool.and_eq_true, beq_iff_eq] at hw
    obtain ⟨⟨u, r, hs, hc⟩, q⟩ := h
    obtain ⟨us, r2, hl, hc2⟩ := RepRow.cellsL q hw.2
    refine ⟨u.cells.toList ++ us, ?_, by simp [hl, hs, Nat.add_mul, Nat.add_comm], ?_⟩
    · simp only [List.flatMap_cons]
      exact (r.cells (by rw [hw.1]; simp)).append r2
    · intro j v hj
      by_cases hjs : j < s
      · rw [List.getElem?_append_left (by simpa [hs] using hjs)] at hj
        exact hc j v (by simpa using hj)
      · rw [List.getElem?_append_right (by simp [hs]; omega)] at hj
        have := hc2 _ v hj
        simp only [Array.length_toList, hs] at this
        rwa [show off + s + (j - s) = off + j from by omega] at this

theorem allWidth_head {s : Nat} {es : List AV} (h : allWidth s es = true) : ∀ e, es.head? = some e → e.width = some s := by
  intro e he
  cases es with
  | nil => simp at he
  | cons x es =>
    simp only [allWidth, Bool.and_eq_true, beq_iff_eq] at h
    simp at he; subst he; exact h.1

theorem vec_cells (hs : Sim P B W0 H σ w) {o : Own} {es : List AV} {u : Value} {s : Nat} (r : Rep σ (.vec o es) u) (hw : allWidth s es = true) : ∃ a cap, ∃ us : List Value, u = .slice a es.length cap ∧ es.length ≤ cap ∧ OwnOk σ o a es.length cap ∧ RepL σ (es.flatMap AV.cells) us ∧ us.length = es.length * s ∧
    (∀ ad, a = some ad → ∀ j v, us[j]? = some v → w.cell? (ad.add j) = some v) ∧ (a = none → es = []) ∧ ∀ v ∈ us, v.oneCell' = true := by
  simp only [Rep] at r
  obtain ⟨a, cap, rfl, h1, h2, h3⟩ := r
  by_cases hes : es = []
  · subst hes
    exact ⟨a, cap, [], rfl, h1, h2, by simp [RepL], by simp, by simp, fun _ => rfl, by simp⟩
  · obtain ⟨b, off, s', rfl, row⟩ := h3.resolve_left hes
    have hss : s' = s := row.stride hes (allWidth_head hw)
    subst hss
    obtain ⟨us, r2, hl, hc⟩ := row.cellsL hw
    refine ⟨_, cap, us, rfl, h1, h2, r2, hl, fun ad e j v hj => ?_, by simp, fun v hv => ?_⟩
    · cases e
      rw [Addr.add_mk]
      exact hs.cells _ _ _ (hc j v hj)
    · obtain ⟨j, hj⟩ := List.getElem?_of_mem hv
      exact hs.one _ _ _ (hc j v hj)

theorem src_ok (hs : Sim P B W0 H σ w) {y : AV} {u : Value} {s m : Nat} {src : List AV} (r : Rep σ y u) (h : srcA P H s y = some (m, src)) : ∃ a cap, ∃ us : List Value, u = .slice a m cap ∧ RepL σ src us ∧ us.length = m * s ∧
    (∀ ad, a = some ad → ∀ j v, us[j]? = some v → w.cell? (ad.add j) = some v) ∧ (a = none → m = 0) ∧ ∀ v ∈ us, v.oneCell' = true := by
  cases y with
  | vec o fs =>
    simp only [srcA] at h
    split at h
    · rename_i hw
      simp only [Option.some.injEq, Prod.mk.injEq] at h
      obtain ⟨rfl, rfl⟩ := h
      obtain ⟨a, cap, us, h1, _, _, h4, h5, h6, h7, h8⟩ := vec_cells hs r hw
      exact ⟨a, cap, us, h1, h4, h5, h6, fun e => by rw [h7 e]; rfl, h8⟩
    · cases h
  | sl id s' off len =>
    simp only [srcA] at h
    split at h
    · rename_i n et s2 cs hg
      split at h
      · rename_i hc
        obtain ⟨rfl, hle, rfl⟩ := hc
        simp only [Option.some.injEq, Prod.mk.injEq] at h
        obtain ⟨rfl, rfl⟩ := h
        obtain ⟨b, cap, c, h1, h1', h2, h3, h4, h5, h6, h7, h8, h9, h10, h11, h12⟩ := hs.obj id _ hg
        simp only [Rep] at r
        obtain ⟨b', cap', e1, e2, rfl, e3⟩ := r
        rw [h1] at e1
        cases e1
        rw [h1'] at e2
        cases e2
        have hmul : off * s2 + len * s2 ≤ n * s2 := by rw [← Nat.add_mul]; exact Nat.mul_le_mul_right _ hle
        have hns : n * s2 ≤ c.size := by rw [h6]; exact Nat.mul_le_mul_right _ h7
        refine ⟨some ⟨b, off * s2, none⟩, cap - off, ((c.toList.take (n * s2)).drop (off * s2)).take (len * s2), rfl, (h10.drop _).take _, ?_, ?_, by simp, fun v hv => h11 v (List.mem_of_mem_drop (List.mem_of_mem_take hv))⟩
        · simp only [List.length_take, List.length_drop, Array.length_toList]
          omega
        · rintro ad e j v hj
          cases e
          have hjl : j < len * s2 := by have := (List.getElem?_eq_some_iff.1 hj).1; simp at this; omega
          rw [List.getElem?_take_of_lt hjl, List.getElem?_drop, List.getElem?_take_of_lt (by omega), Array.getElem?_toList] at hj
          rw [Addr.add_mk, cell_of_row h3]
          exact hj
      · cases h
    · cases h
  | val v0 =>
    simp only [srcA] at h
    split at h
    · rename_i hes
      obtain ⟨a0, c0, rfl⟩ := isES_spec hes
      simp only [Option.some.injEq, Prod.mk.injEq] at h
      obtain ⟨rfl, rfl⟩ := h
      simp only [Rep] at r
      subst r
      exact ⟨some a0, c0, [], rfl, by simp [RepL], by simp, by simp, by simp, by simp⟩
    · cases h
  | _ => simp [srcA] at h

/-- A new row, with whatever behind its elements. -/
theorem Sim.row_new (hs : Sim P B W0 H σ w) {n s cap : Nat} {et : TypeId} {cs : List AV} {us : List Value} {zs : Array Value} {w1 : World} (hsz : szQ P et = some s) (hs0 : s ≠ 0) (hr : RepL σ cs us) (hl : us.length = n * s) (hone : ∀ v ∈ us, v.oneCell' = true)
    (hzs : us.length + zs.size = cap * s) (hn : n ≤ cap) (hcm : cap ≤ maxLen) (hw1 : w1.heap = w.heap) (hbel : BelowS B W0 w1) :
    Sim P B W0 (H.push (.row n et s cs)) (σ.bindR H.next w.heap.size cap) (w1.alloc (.cells (us.toArray ++ zs) et)) ∧ Ext B σ (σ.bindR H.next w.heap.size cap) := by
  refine hs.pushNew (cap := cap) hw1 hbel (by simp [blk, St.bindR]) fun hnew => ⟨w.heap.size, cap, _, by simp [St.bindR], by simp [St.bindR], hs.notNew, hnew, hsz, hs0, by simp [hzs], hn, hcm, by rw [← hr.length, hl], ?_, ?_, fun o => hs.cells_new o⟩
  · have : ((us.toArray ++ zs).toList).take (n * s) = us := by simp [← hl]
    rw [this]
    exact hr.mono (hs.bindR_le _ _)
  · have : ((us.toArray ++ zs).toList).take (n * s) = us := by simp [← hl]
    rw [this]
    exact hone

/-- There is room in a row. -/
theorem run_append_room_row (t tx ty e : TypeId) (i : TypeInfo) (ht : P.underlying t = some (.slice e)) (hi : P.info? e = some i) (g sLen sCap : Nat) (cur : Array Value) (hg : w.heap[g]? = some (.cells cur e (0, 0)))
    (x : Value) (m : Nat) (news : List Value) (hs : Src P i.size tx x m news w) (hroom : sLen + m ≤ sCap) (hfit : sLen * i.size + news.length ≤ cur.size) :
    (Builtin.append_ #[t, tx] ty #[.slice (some ⟨g, 0, none⟩) sLen sCap, x]).run P w =
      .ok (.slice (some ⟨g, 0, none⟩) (sLen + m) sCap) (w.setRow g (cur.toList.take (sLen * i.size) ++ news ++ cur.toList.drop (sLen * i.size + news.length)).toArray) := by
  have hst := run_storeCells_at P g (sLen * i.size) e news 0 cur w hg (by simpa using hfit) hs.one
  simp only [Nat.add_zero] at hst
  rcases hs.kind with ⟨e', hk⟩ | hk <;> simp [Builtin.append_, run_underlying ht, run_underlying hk, sizeOf, typeInfo, hi, hs.len, hroom, hs.cells, Addr.add_lit, hst]

theorem appendSrc_sound (hs : Sim P B W0 H σ w) {t1 t2 ty : TypeId} {x v : AV} {ux uy : Value} {H' : AHeap} (rx : Rep σ x ux) {m : Nat} {src : List AV} {news : List Value} {et s by_ : Nat} {z : List AV}
    (hsrc : Src P s t2 uy m news w) (rnews : RepL σ src news)
    (het : elemQ P t1 = some et) (hsz : szQ P et = some s) (hby : byQ P et = some by_) (hz : zeroQ P et = some z) (hs0 : s ≠ 0) (hzl : z.length = s) (h : appendSrc et s by_ x m src H = some (v, H')) :
    UponA P ((do pure (Next.value (← Builtin.append_ #[t1, t2] ty #[ux, uy])) : Sem Next).run P w) (Goes P B W0 σ v H') := by
  have ht := elemQ_spec het
  obtain ⟨i, zv, hi, his, hib, hiz, hzs⟩ := info_of hsz hby hz
  unfold appendSrc at h
  have hnl := hsrc.newsLen
  have hnone := hsrc.one
  have hsrc' : Src P i.size t2 uy m news w := by rw [his]; exact hsrc
  cases x with
  | vec o es =>
    simp only at h
    split at h
    · rename_i hm0
      subst hm0
      cases h
      have hn0 : news = [] := by apply List.eq_nil_of_length_eq_zero; rw [hnl]; simp
      subst hn0
      have rx' := rx
      simp only [Rep] at rx
      obtain ⟨ax, cx, rfl, hlx, _⟩ := rx
      have hrun := run_append_nothing (P := P) w t1 t2 ty et i ht hi ax es.length cx hlx uy hsrc'
      simp only [Sem.run_bind, hrun, Result.andThen_ok, Sem.run_pure, UponA]
      exact ⟨σ, Ext.refl _ _, hs, rx'⟩
    · rename_i hm0
      have hmpos : 0 < m := Nat.pos_of_ne_zero hm0
      have go : ∀ {o : Own}, Rep σ (.vec o es) ux → (o = .nil ∨ o = .full) → (if allWidth s es = true ∧ (es.length + m) * by_ ≤ 140737488355328 ∧ es.length + m ≤ 9223372036854775807 then some (AV.sl H.next s 0 (es.length + m), H.push (.row (es.length + m) et s (es.flatMap AV.cells ++ src))) else none) = some (v, H') →
          UponA P ((do pure (Next.value (← Builtin.append_ #[t1, t2] ty #[ux, uy])) : Sem Next).run P w) (Goes P B W0 σ v H') := by
        intro o rx ho h
        split at h
        · rename_i hc
          obtain ⟨hw, hbytes, hlen⟩ := hc
          cases h
          obtain ⟨ax, cx, olds, rfl, hlx, hox, rolds, hol, holds, hax, hone'⟩ := vec_cells hs rx hw
          have hcx : cx = es.length := by
            rcases ho with rfl | rfl
            · simp only [OwnOk] at hox; omega
            · exact hox
          subst hcx
          have hm63 : es.length + m ≤ maxLen := by unfold maxLen; omega
          have hold : (Builtin.firstCells i.size es.length (.slice ax es.length es.length)).run P w.drew = .ok olds.toArray w.drew := by
            cases ax with
            | none =>
              have hes := hax rfl
              subst hes
              have hol0 : olds = [] := by apply List.eq_nil_of_length_eq_zero; rw [hol]; simp
              subst hol0
              exact run_firstCells_none _ _ _ _ _
            | some adx => exact run_firstCells_some _ _ _ _ _ _ _ (by rw [hol, his]) (by simpa using holds adx rfl)
          have hrun := run_append_grow_src (P := P) w t1 t2 ty et i zv ht hi hiz ax es.length es.length olds hold uy m news hsrc' (by omega) (by omega)
            (growslice_fits (by omega) (by rw [hib]; exact hbytes))
          have hge := grownCap_ge w (es.length + m) es.length et
          have hcm := grownCap_le_maxLen w (es.length + m) es.length et hm63
          obtain ⟨q1, q2⟩ := hs.row_new (n := es.length + m) (cap := grownCap w (es.length + m) es.length et) (us := olds ++ news) (cs := es.flatMap AV.cells ++ src) (zs := Builtin.zeroCells zv.cells (grownCap w (es.length + m) es.length et - (es.length + m))) (w1 := w.drew) hsz hs0 (rolds.append rnews)
            (by rw [List.length_append, hol, hnl, ← Nat.add_mul]) (fun v hv => by
              rcases List.mem_append.1 hv with hv | hv
              · exact hone' v hv
              · exact hnone v hv) (by
              rw [List.length_append, hol, hnl, size_zeroCells, hzs, hzl, ← Nat.add_mul, ← Nat.add_mul]; congr 1; omega) hge hcm rfl hs.below.drew
          simp only [Sem.run_bind, hrun, Result.andThen_ok, Sem.run_pure, UponA]
          refine ⟨_, q2, q1, ?_⟩
          simp only [Rep]
          exact ⟨w.heap.size, grownCap w (es.length + m) es.length et, by simp [St.bindR], by simp [St.bindR], by simp, by omega⟩
        · cases h
      cases o with
      | ro => simp at h
      | own k => simp at h
      | nil => exact go rx (.inl rfl) h
      | full => exact go rx (.inr rfl) h
  | sl id s' off len =>
    simp only at h
    have rx' := rx
    simp only [Rep] at rx
    obtain ⟨b, cap, hloc, hown, rfl, hcap⟩ := rx
    split at h
    · rename_i hm0
      subst hm0
      cases h
      have hn0 : news = [] := by apply List.eq_nil_of_length_eq_zero; rw [hnl]; simp
      subst hn0
      have hrun := run_append_nothing (P := P) w t1 t2 ty et i ht hi (some ⟨b, off * s', none⟩) len (cap - off) (by omega) uy hsrc'
      simp only [Sem.run_bind, hrun, Result.andThen_ok, Sem.run_pure, UponA]
      exact ⟨σ, Ext.refl _ _, hs, rx'⟩
    · rename_i hm0
      have hmpos : 0 < m := Nat.pos_of_ne_zero hm0
      split at h
      · rename_i n et' s2 cs hg
        split at h
        · rename_i hc
          obtain ⟨rfl, rfl, rfl, rfl, hln, hbytes, hlen⟩ := hc
          cases h
          obtain ⟨b', cap', c, h1, h1', h2, h3, h4, h5, h6, h7, h8, h9, h10, h11, h12⟩ := hs.obj id _ hg
          rw [hloc] at h1
          cases h1
          rw [hown] at h1'
          cases h1'
          have hm63 : len + m ≤ maxLen := by unfold maxLen; omega
          have hln' : len * s2 ≤ n * s2 := Nat.mul_le_mul_right _ hln
          have hns : n * s2 ≤ c.size := by rw [h6]; exact Nat.mul_le_mul_right _ h7
          have holl : (c.toList.take (len * s2)).length = len * s2 := by simp; omega
          have hcut : (c.toList.take (n * s2)).take (len * s2) = c.toList.take (len * s2) := by rw [List.take_take]; congr 1; omega
          have r10 : RepL σ (cs.take (len * s2)) (c.toList.take (len * s2)) := by rw [← hcut]; exact h10.take _
          have o11 : ∀ v ∈ c.toList.take (len * s2), v.oneCell' = true := fun v hv => h11 v (by rw [← hcut] at hv; exact List.mem_of_mem_take hv)
          have c9 : (cs.take (len * s2)).length = len * s2 := by rw [← r10.length, holl]
          simp only [Nat.zero_mul, Nat.sub_zero]
          by_cases hroom : len + m ≤ cap
          · have hfit : len * i.size + news.length ≤ c.size := by rw [hnl, h6, his, ← Nat.add_mul]; exact Nat.mul_le_mul_right _ hroom
            have hrun := run_append_room_row (P := P) (w := w) t1 t2 ty et' i ht hi b len cap c h3 uy m news hsrc' hroom hfit
            simp only [Sem.run_bind, hrun, Result.andThen_ok, Sem.run_pure, UponA, his]
            have hdel := hs.del id
            have hnew := setRow_heap w b c (c.toList.take (len * s2) ++ news ++ c.toList.drop (len * s2 + news.length)).toArray et' (0, 0) h3
            have htk : ((c.toList.take (len * s2) ++ news ++ c.toList.drop (len * s2 + news.length)).toArray.toList).take ((len + m) * s2) = c.toList.take (len * s2) ++ news := by
              have : (len + m) * s2 = (c.toList.take (len * s2) ++ news).length := by rw [List.length_append, holl, hnl, Nat.add_mul]
              rw [this]
              exact List.take_left' rfl
            have hle := hdel.bindR_le b cap
            obtain ⟨q1, q2⟩ := hdel.pushAt (b := b) (cap := cap) (x := .row (len + m) et' s2 (cs.take (len * s2) ++ src)) (w' := w.setRow b (c.toList.take (len * s2) ++ news ++ c.toList.drop (len * s2 + news.length)).toArray) h2 (fun k hk _ => setRow_other w b k _ hk)
              (hs.below.trans ⟨rfl, rfl, rfl, by simp, fun k hk => setRow_other w b k _ (by rintro rfl; exact h2 hk)⟩)
              (fun k y hy he => by
                rw [AHeap.get_del] at hy
                split at hy
                · cases hy
                · rename_i hne
                  exact hne (hs.inj id k _ y hg hy (by rw [he]; simp [blk, hloc])))
              h12 (by simp [blk, St.bindR])
              ⟨b, cap, _, by simp [St.bindR], by simp [St.bindR], h2, hnew, h4, h5, by
                simp only [List.size_toArray, List.length_append, List.length_take, List.length_drop, Array.length_toList]; rw [his] at hfit; omega, hroom, h8, by
                rw [List.length_append, c9, rnews.length.symm, hnl, Nat.add_mul], by
                rw [htk]; exact (r10.append rnews).mono hle, by
                rw [htk]; intro v hv
                rcases List.mem_append.1 hv with hv | hv
                · exact o11 v hv
                · exact hnone v hv, h12⟩
            refine ⟨_, q2, q1, ?_⟩
            simp only [Rep]
            refine ⟨b, cap, ?_, ?_, by simp, by omega⟩
            · show (σ.bindR H.next b cap).loc H.next = _
              simp [St.bindR]
            · show (σ.bindR H.next b cap).own H.next 0 = _
              simp [St.bindR]
          · have hold : (Builtin.firstCells i.size len (.slice (some ⟨b, 0, none⟩) len cap)).run P w.drew = .ok (c.toList.take (len * s2)).toArray w.drew :=
              run_firstCells_some _ _ _ _ _ _ _ (by rw [holl, his]) (fun j u hj => by
                have hjl : j < len * s2 := by have := (List.getElem?_eq_some_iff.1 hj).1; omega
                rw [List.getElem?_take_of_lt hjl, Array.getElem?_toList] at hj
                rw [Addr.add_mk, Nat.zero_add]
                exact (cell_of_row (w := w) h3 j).trans hj)
            have hrun := run_append_grow_src (P := P) w t1 t2 ty et' i zv ht hi hiz (some ⟨b, 0, none⟩) len cap (c.toList.take (len * s2)) hold uy m news hsrc' (by omega) (by omega)
              (growslice_fits (by omega) (by rw [hib]; exact hbytes))
            have hge := grownCap_ge w (len + m) cap et'
            have hcm := grownCap_le_maxLen w (len + m) cap et' hm63
            simp only [Sem.run_bind, hrun, Result.andThen_ok, Sem.run_pure, UponA]
            obtain ⟨q1, q2⟩ := (hs.del id).row_new (n := len + m) (cap := grownCap w (len + m) cap et') (us := c.toList.take (len * s2) ++ news) (cs := cs.take (len * s2) ++ src) (zs := Builtin.zeroCells zv.cells (grownCap w (len + m) cap et' - (len + m))) (w1 := w.drew) h4 h5 (r10.append rnews)
              (by rw [List.length_append, holl, hnl, ← Nat.add_mul]) (fun v hv => by
                rcases List.mem_append.1 hv with hv | hv
                · exact o11 v hv
                · exact hnone v hv) (by
                rw [List.length_append, holl, hnl, size_zeroCells, hzs, hzl, ← Nat.add_mul, ← Nat.add_mul]; congr 1; omega) hge hcm rfl hs.below.drew
            refine ⟨_, q2, q1, ?_⟩
            simp only [Rep]
            refine ⟨w.heap.size, grownCap w (len + m) cap et', ?_, ?_, by simp, by omega⟩
            · show (σ.bindR H.next w.heap.size _).loc H.next = _
              simp [St.bindR]
            · show (σ.bindR H.next w.heap.size _).own H.next 0 = _
              simp [St.bindR]
        · cases h
      · cases h
  | _ => simp at h

theorem appendRow_sound (hs : Sim P B W0 H σ w) {t1 ty : TypeId} {x y v : AV} {ux uy : Value} {H' : AHeap} (rx : Rep σ x ux) (ry : Rep σ y uy) {et s by_ : Nat} {z : List AV}
    (het : elemQ P t1 = some et) (hsz : szQ P et = some s) (hby : byQ P et = some by_) (hz : zeroQ P et = some z) (hs0 : s ≠ 0) (hzl : z.length = s) (h : appendRow P et s by_ x y H = some (v, H')) :
    UponA P ((do pure (Next.value (← Builtin.append_ #[t1, t1] ty #[ux, uy])) : Sem Next).run P w) (Goes P B W0 σ v H') := by
  have ht := elemQ_spec het
  unfold appendRow at h
  split at h
  · cases h
  · rename_i m src hsrc
    obtain ⟨ay, cy, news, rfl, rnews, hnl, hnews, hay, hnone⟩ := src_ok hs ry hsrc
    refine appendSrc_sound hs rx (news := news) ?_ rnews het hsz hby hz hs0 hzl h
    cases ay with
    | none =>
      have hm0 := hay rfl
      subst hm0
      have hn0 : news = [] := by apply List.eq_nil_of_length_eq_zero; rw [hnl]; simp
      subst hn0
      exact Src.ofNil w ht cy
    | some ad => exact Src.ofSlice w ht ad m cy news hnl (hnews ad rfl) hnone

theorem bytesQ_spec {d : TypeId} (h : bytesQ P d = true) : ∃ et, elemQ P d = some et ∧ szQ P et = some 1 := by
  unfold bytesQ at h
  split at h
  · rename_i et het
    simp only [Bool.and_eq_true, beq_iff_eq] at h
    exact ⟨et, het, h.2⟩
  · cases h

theorem appendStr_sound (hs : Sim P B W0 H σ w) {t1 t2 ty : TypeId} {x v : AV} {l : List UInt8} {ux uy : Value} {H' : AHeap} (rx : Rep σ x ux) (ry : Rep σ (.str l) uy) {et s by_ : Nat} {z : List AV}
    (het : elemQ P t1 = some et) (hsz : szQ P et = some s) (hby : byQ P et = some by_) (hz : zeroQ P et = some z) (hs0 : s ≠ 0) (hzl : z.length = s) (h : appendStr P t1 t2 et s by_ x l H = some (v, H')) :
    UponA P ((do pure (Next.value (← Builtin.append_ #[t1, t2] ty #[ux, uy])) : Sem Next).run P w) (Goes P B W0 σ v H') := by
  unfold appendStr at h
  split at h
  · rename_i hc
    obtain ⟨_, hst, rfl⟩ := hc
    simp only [Rep] at ry
    subst ry
    have hS := Src.ofString (P := P) w (isStrQ_spec hst) ⟨l.toArray⟩
    have hb : byteCells ⟨l.toArray⟩ = l.map fun b => Value.int .u8 b.toNat := by simp [byteCells]
    have hz' : (⟨l.toArray⟩ : ByteArray).size = l.length := by simp [ByteArray.size]
    rw [hb, hz'] at hS
    exact appendSrc_sound hs rx hS (RepL.of_map _ _ l fun b _ => by simp [Rep]) het hsz hby hz hs0 hzl h
  · cases h

theorem append_sound (hs : Sim P B W0 H σ w) {mutT : TypeId → Bool} {t1 t2 ty : TypeId} {x y v : AV} {ux uy : Value} {H' : AHeap} (rx : Rep σ x ux) (ry : Rep σ y uy) (h : appendA mutT P t1 t2 x y H = some (v, H')) :
    UponA P ((do pure (Next.value (← Builtin.append_ #[t1, t2] ty #[ux, uy])) : Sem Next).run P w) (Goes P B W0 σ v H') := by
  unfold appendA at h
  split at h
  · rename_i et het
    split at h
    · rename_i s by_ z hsz hby hz
      split at h
      · rename_i l
        split at h
        · rename_i hc
          obtain ⟨hs0, hzl⟩ := hc
          exact appendStr_sound hs rx ry het hsz hby hz hs0 hzl h
        · cases h
      · rename_i hne
        clear hne
        split at h
        · rename_i hc
          obtain ⟨rfl, hs0, hzl⟩ := hc
          split at h
          · rename_i o es fs hp
            obtain ⟨o', hx, hy⟩ : ∃ o', x = .vec o es ∧ y = .vec o' fs := by
              unfold persist at hp
              split at hp
              · rename_i o1 es1 o2 fs1
                cases o1 <;> simp only at hp
                case ro => simp only [Option.some.injEq, Prod.mk.injEq] at hp; obtain ⟨rfl, rfl, rfl⟩ := hp; exact ⟨_, rfl, rfl⟩
                case own => simp only [Option.some.injEq, Prod.mk.injEq] at hp; obtain ⟨rfl, rfl, rfl⟩ := hp; exact ⟨_, rfl, rfl⟩
                all_goals
                  split at hp
                  · cases hp
                  · simp only [Option.some.injEq, Prod.mk.injEq] at hp; obtain ⟨rfl, rfl, rfl⟩ := hp; exact ⟨_, rfl, rfl⟩
              · cases hp
            subst hx hy
            exact appendVec_sound hs rx ry het hsz hby hz hs0 hzl h
          · exact appendRow_sound hs rx ry het hsz hby hz hs0 hzl h
        · cases h
    · cases h
  · cases h

end
end Go.Ab

/- Slice literals; calls in a memory of their own; each operation against the model. -/
namespace Go.Ab
set_option linter.unusedVariables false
open Go Go.RowKit

section
variable {P : Program} {B : Nat → Prop} {W0 : World} {H : AHeap} {σ : St} {w : World}

theorem inOrder_spec : ∀ {parts : List (Nat × AV)} {k : Nat}, inOrder k parts = true → ∀ (i : Nat) (p : Nat × AV), parts[i]? = some p → p.1 = k + i
  | [], _, _, i, p, hp => by simp at hp
  | (j, a) :: parts, k, h, i, p, hp => by
    simp only [inOrder, Bool.and_eq_true, beq_iff_eq] at h
    cases i with
    | zero => simp at hp; subst hp; simpa using h.1
    | succ i => simp at hp; have := inOrder_spec h.2 i p hp; omega

theorem fill_row (s : Nat) : ∀ (us : List (Nat × Value)) (k : Nat) (cells : Array Value), (∀ (i : Nat) (p : Nat × Value), us[i]? = some p → p.1 = k + i ∧ p.2.cells.size = s) → (k + us.length) * s ≤ cells.size →
    ∃ out, Instr.fill (fun i => some (i * s, s)) cells us = some out ∧ out.size = cells.size ∧ (∀ o, o < k * s → out[o]? = cells[o]?) ∧
      ∀ (i : Nat) (p : Nat × Value), us[i]? = some p → ∀ (j : Nat) (v : Value), p.2.cells[j]? = some v → out[(k + i) * s + j]? = some v
  | [], k, cells, _, _ => ⟨cells, rfl, rfl, fun _ _ => rfl, by simp⟩
  | (i0, u) :: us, k, cells, hp, hle => by
    obtain ⟨h1, h2⟩ := hp 0 (i0, u) (by simp)
    simp only [Nat.add_zero] at h1 h2
    subst h1
    simp only [List.length_cons] at hle
    have hfit : i0 * s + s ≤ cells.size := by
      have : (i0 + 1) * s ≤ (i0 + (us.length + 1)) * s := Nat.mul_le_mul_right _ (by omega)
      rw [Nat.add_mul, Nat.one_mul] at this
      omega
    have hget := overlay_get (i0 * s) u.cells.toList 0 cells (by simp [h2]; omega)
    obtain ⟨out, e1, e2, e3, e4⟩ := fill_row s us (i0 + 1) ((u.cells.toList.zipIdx 0).foldl (fun (cs : Array Value) (p : Value × Nat) => cs.setIfInBounds (i0 * s + p.2) p.1) cells)
      (fun i p hi => by have := hp (i + 1) p (by simpa using hi); omega)
      (by
        have hsz : ((u.cells.toList.zipIdx 0).foldl (fun (cs : Array Value) (p : Value × Nat) => cs.setIfInBounds (i0 * s + p.2) p.1) cells).size = cells.size := by
          have hf := congrArg List.length (overlay_fold (i0 * s) u.cells.toList cells (by simp [h2]; omega))
          simp only [Array.length_toList, List.length_append, List.length_take, List.length_drop, h2] at hf
          rw [hf]; omega
        rw [hsz]
        rw [show i0 + 1 + us.length = i0 + (us.length + 1) from by omega]
        exact hle)
    have hsz : ((u.cells.toList.zipIdx 0).foldl (fun (cs : Array Value) (p : Value × Nat) => cs.setIfInBounds (i0 * s + p.2) p.1) cells).size = cells.size := by
      have hf := congrArg List.length (overlay_fold (i0 * s) u.cells.toList cells (by simp [h2]; omega))
      simp only [Array.length_toList, List.length_append, List.length_take, List.length_drop, h2] at hf
      rw [hf]; omega
    refine ⟨out, ?_, e2.trans hsz, ?_, ?_⟩
    · simp only [Instr.fill]
      rw [if_neg (by simp [h2]; omega), ← Array.foldl_toList, Array.toList_zipIdx]
      exact e1
    · intro o ho
      rw [e3 o (by rw [Nat.add_mul]; omega), hget o, if_neg (by omega)]
    · intro i p hi j v hj
      cases i with
      | zero =>
        simp at hi
        subst hi
        have hjs : j < s := by rw [← h2]; exact (Array.getElem?_eq_some_iff.1 hj).1
        rw [Nat.add_zero, e3 _ (by rw [Nat.add_mul, Nat.one_mul]; omega), hget, if_pos (by simp [h2]; omega)]
        rw [show i0 * s + j - (i0 * s + 0) = j from by omega]
        simpa using hj
      | succ i =>
        have := e4 i p (by simpa using hi) j v hj
        rwa [show i0 + (i + 1) = i0 + 1 + i from by omega]

mutual
theorem Rep.erase0 (v : AV) (u : Value) (h : Rep σ v u) : Rep σ v.bare u := by
  cases v with
  | vec o es =>
    simp only [AV.bare, Rep] at h ⊢
    obtain ⟨a, cap, e, hl, ho, r⟩ := h
    refine ⟨a, cap, e, hl, ?_, r⟩
    cases o with
    | own k => trivial
    | _ => exact ho
  | _ => exact h
end

theorem RepL.bare : ∀ {cs : List AV} {us : List Value}, RepL σ cs us → RepL σ (cs.map AV.bare) us
  | [], _, h => by simpa using h
  | c :: cs, _, h => by
    rw [RepL.cons_iff] at h
    obtain ⟨u, us', rfl, r, q⟩ := h
    exact RepL.cons_iff.2 ⟨u, us', rfl, Rep.erase0 c u r, RepL.bare q⟩

theorem Rep.erase {v : AV} {u : Value} (h : Rep σ v u) : Rep σ v.erase u := by
  cases v with
  | agg cs =>
    simp only [AV.erase, Rep] at h ⊢
    obtain ⟨us, e, r⟩ := h
    exact ⟨us, e, r.bare⟩
  | tup cs =>
    simp only [AV.erase, Rep] at h ⊢
    obtain ⟨us, e, r⟩ := h
    refine ⟨us, e, ?_⟩
    clear e
    induction cs generalizing us with
    | nil => simpa using r
    | cons c cs ih =>
      rw [RepL.cons_iff] at r
      obtain ⟨u', us', rfl, r1, q⟩ := r
      refine RepL.cons_iff.2 ⟨u', us', rfl, ?_, ih us' q⟩
      cases c with
      | agg ds =>
        simp only [Rep] at r1 ⊢
        obtain ⟨xs, e1, r2⟩ := r1
        exact ⟨xs, e1, r2.bare⟩
      | _ => exact Rep.erase0 _ _ r1
  | _ => exact Rep.erase0 _ _ h

theorem AV.erase_width (v : AV) : v.erase.width = v.width := by
  cases v <;> simp [AV.erase, AV.width, AV.bare]

theorem RepL.erase : ∀ {cs : List AV} {us : List Value}, RepL σ cs us → RepL σ (cs.map AV.erase) us
  | [], _, h => by simpa using h
  | c :: cs, _, h => by
    rw [RepL.cons_iff] at h
    obtain ⟨u, us', rfl, r, q⟩ := h
    exact RepL.cons_iff.2 ⟨u, us', rfl, r.erase, RepL.erase q⟩

theorem allWidth_spec {n : Nat} : ∀ {cs : List AV}, allWidth n cs = true → ∀ c ∈ cs, c.width = some n
  | [], _, c, hc => by cases hc
  | d :: cs, h, c, hc => by
    simp only [allWidth, Bool.and_eq_true, beq_iff_eq] at h
    cases hc with
    | head => exact h.1
    | tail _ hc => exact allWidth_spec h.2 c hc

theorem allOneL_spec : ∀ {cs : List AV}, allOneL cs = true → ∀ c ∈ cs, allOne c.cells = true
  | [], _, c, hc => by cases hc
  | d :: cs, h, c, hc => by
    simp only [allOneL, Bool.and_eq_true] at h
    cases hc with
    | head => exact h.1
    | tail _ hc => exact allOneL_spec h.2 c hc

/-- Cells of a new block are known for good. -/
def St.know (σ : St) (b0 : Nat) (cs : List Value) : St := { σ with cells := fun b o => if b = b0 ∧ o < cs.length then cs[o]? else σ.cells b o }

theorem Sim.know_new (hs : Sim P B W0 H σ w) {cs : List Value} {c : Array Value} {et : TypeId} {w1 : World} (hw1 : w1.heap = w.heap) (hbel : BelowS B W0 w1) (hcc : ∀ (j : Nat) (v : Value), cs[j]? = some v → c[j]? = some v)
    (hone : ∀ v ∈ cs, v.oneCell' = true) : Sim P B W0 H (σ.know w.heap.size cs) (w1.alloc (.cells c et)) ∧ Ext B σ (σ.know w.heap.size cs) := by
  have hsize : w1.heap.size = w.heap.size := by rw [hw1]
  have hold : ∀ b, b < w.heap.size → (w1.alloc (.cells c et)).heap[b]? = w.heap[b]? := fun b hb => by
    rw [heap_old w1 _ (by omega), hw1]
  have hnew : (w1.alloc (.cells c et)).heap[w.heap.size]? = some (.cells c et (0, 0)) := by
    rw [← hsize]; exact heap_new w1 _
  have hle : σ.le (σ.know w.heap.size cs) := by
    refine ⟨fun b o v h => ?_, fun _ _ h => h, fun _ _ _ h => h⟩
    simp only [St.know]
    rw [if_neg]
    · exact h
    · rintro ⟨rfl, _⟩
      rw [hs.cells_new] at h; cases h
  refine ⟨⟨hbel.alloc (fun k hk => by rw [hsize]; exact hs.size k hk) _, hs.base, ?_, ?_, hs.fresh, hs.keys, ?_, hs.inj⟩, hle, ?_⟩
  · intro b o v h
    simp only [St.know] at h
    split at h
    · rename_i hh
      obtain ⟨rfl, _⟩ := hh
      rw [cell_of_row hnew]
      exact hcc _ v h
    · rw [cell_of_heap (hold b (hs.cells_lt h))]
      exact hs.cells b o v h
  · intro b o v h
    simp only [St.know] at h
    split at h
    · exact hone v (List.mem_of_getElem? h)
    · exact hs.one b o v h
  · intro id x hx
    have ho := hs.obj id x hx
    refine ho.keep hle (fun b hb => ?_) (fun _ => rfl)
    obtain ⟨b', hb', _, hlt⟩ := ho.blk
    rw [hb] at hb'
    cases hb'
    refine ⟨hold b hlt, fun o => ?_⟩
    simp only [St.know]
    rw [if_neg (by rintro ⟨rfl, _⟩; exact absurd hlt (Nat.lt_irrefl _))]
  · intro b o hb
    simp only [St.know]
    rw [if_neg (by rintro ⟨rfl, _⟩; exact hs.notNew hb)]

theorem flat_get {α : Type} (l : List α) : ∀ (n i : Nat), ((List.replicate n l).flatten)[i]? = if i < n * l.length then l[i % l.length]? else none
  | 0, i => by simp
  | n + 1, i => by
    rw [List.replicate_succ, List.flatten_cons]
    by_cases h : i < l.length
    · rw [List.getElem?_append_left h, Nat.mod_eq_of_lt h, if_pos]
      rw [Nat.add_mul]; omega
    · rw [List.getElem?_append_right (by omega), flat_get l n, ← Nat.mod_eq_sub_mod (by omega)]
      by_cases h2 : i - l.length < n * l.length
      · rw [if_pos h2, if_pos (by rw [Nat.add_mul]; omega)]
      · rw [if_neg h2, if_neg (by rw [Nat.add_mul]; omega)]

theorem madeCells_list (a : Array Value) (n : Nat) (h : a.size ≠ 0) : (madeCells a (n * a.size)).toList = (List.replicate n a.toList).flatten := by
  apply List.ext_getElem?
  intro i
  rw [flat_get, Array.getElem?_toList]
  simp only [madeCells, Array.length_toList]
  by_cases hi : i < n * a.size
  · rw [if_pos hi]
    have hm : i % a.size < a.size := Nat.mod_lt _ (Nat.pos_of_ne_zero h)
    simp [hi, hm]
  · rw [if_neg hi]
    simp [hi]

theorem makeSlice_sound (hs : Sim P B W0 H σ w) {t : TypeId} {l c v : AV} {ul uc : Value} {H' : AHeap} (rl : Rep σ l ul) (rc : Rep σ c uc) (h : makeSliceA P t l c H = some (v, H')) :
    UponA P ((do pure (Next.value (← Instr.makeSlice t ul uc)) : Sem Next).run P w) (Goes P B W0 σ v H') := by
  unfold makeSliceA at h
  split at h
  · rename_i kl n kc m et het
    split at h
    · rename_i s by_ z hsz hbyq hz
      split at h
      · rename_i hc
        obtain ⟨rfl, h0, hbig, hs0, hzl, hone, hby⟩ := hc
        simp only [Option.some.injEq, Prod.mk.injEq] at h
        obtain ⟨rfl, rfl⟩ := h
        simp only [Rep] at rl rc
        subst rl rc
        obtain ⟨i, zv, hi, his, hib, hiz, hzs⟩ := info_of hsz hbyq hz
        obtain ⟨i2, zv2, hi2, hiz2, hze⟩ := zeroQ_spec hz
        rw [hi] at hi2
        cases hi2
        rw [hiz] at hiz2
        cases hiz2
        have hzs' : zv.cells.size = s := by rw [hzs, hzl]
        have hrun := run_make (P := P) w t et i zv (elemQ_spec het) hi hiz kl kc n n h0 (Int.le_refl _) (by
          rw [hib]
          have : ((n.toNat * by_ : Nat) : Int) ≤ 140737488355328 := by omega
          rw [Int.natCast_mul, Int.toNat_of_nonneg h0] at this
          rw [Int.mul_comm]; omega) (by omega)
        have hlist := madeCells_list zv.cells n.toNat (by rw [hzs']; exact hs0)
        have hrep : RepL σ ((List.replicate n.toNat z).flatten) (madeCells zv.cells (n.toNat * i.size)).toList := by
          rw [his, ← hzs', hlist, hze]
          have : (List.replicate n.toNat (zv.cells.toList.map ofV1)).flatten = ((List.replicate n.toNat zv.cells.toList).flatten).map ofV1 := by
            rw [List.map_flatten, List.map_replicate]
          rw [this]
          exact RepL.ofV1 _
        have hzone : ∀ u ∈ zv.cells.toList, u.oneCell' = true := allOne_spec (σ := σ) hone (by rw [hze]; exact RepL.ofV1 _)
        obtain ⟨q1, q2⟩ := hs.row_new (n := n.toNat) (cap := n.toNat) (us := (madeCells zv.cells (n.toNat * i.size)).toList) (zs := #[]) (w1 := w) hsz hs0 hrep
          (by simp [size_madeCells, his]) (fun u hu => by
            rw [his, ← hzs', hlist] at hu
            obtain ⟨l, hl, hu'⟩ := List.mem_flatten.1 hu
            rw [List.mem_replicate] at hl
            obtain ⟨_, rfl⟩ := hl
            exact hzone u hu') (by simp [size_madeCells, his]) (Nat.le_refl _) (by unfold maxLen; omega) rfl hs.below
        simp only [Sem.run_bind, hrun, Result.andThen_ok, Sem.run_pure, UponA]
        refine ⟨_, q2, by simpa using q1, ?_⟩
        simp only [Rep]
        exact ⟨w.heap.size, n.toNat, by simp [St.bindR], by simp [St.bindR], by simp, by omega⟩
      · cases h
    · cases h
  · cases h

theorem buildSlice_sound (hs : Sim P B W0 H σ w) {t : TypeId} {len : Nat} {parts : List (Nat × AV)} {us : Array (Nat × Value)} {v : AV} {H' : AHeap}
    (hu : us.toList.map (·.1) = parts.map (·.1)) (hp : RepL σ (parts.map (·.2)) (us.toList.map (·.2))) (h : buildSliceA P t len parts H = some (v, H')) :
    UponA P ((do pure (Next.value (← Instr.buildSlice t len us)) : Sem Next).run P w) (Goes P B W0 σ v H') := by
  unfold buildSliceA at h
  split at h
  · rename_i et het
    split at h
    · rename_i s z hsz hz
      split at h
      · rename_i hc
        obtain ⟨hlen, hord, hwid, hone, hs0, hzl, hbig⟩ := hc
        simp only [Option.some.injEq, Prod.mk.injEq] at h
        obtain ⟨rfl, rfl⟩ := h
        have ht := elemQ_spec het
        obtain ⟨i, zv, hi, hzv, hze⟩ := zeroQ_spec hz
        have hul : us.toList.length = len := by
          have := congrArg List.length hu
          simp only [List.length_map] at this
          omega
        have her : RepL σ (parts.map fun p => p.2.erase) (us.toList.map (·.2)) := by
          have := hp.erase
          rwa [List.map_map] at this
        have hszu : ∀ (i : Nat) (p : Nat × Value), us.toList[i]? = some p → p.1 = 0 + i ∧ p.2.cells.size = s := by
          intro i p hip
          have h1 : (us.toList.map (·.1))[i]? = some p.1 := by simp [List.getElem?_map, hip]
          rw [hu, List.getElem?_map] at h1
          obtain ⟨q, hq, hqe⟩ := Option.map_eq_some_iff.1 h1
          have h2 := inOrder_spec hord i q hq
          have h3 : (parts.map fun p => p.2.erase)[i]? = some q.2.erase := by simp [List.getElem?_map, hq]
          obtain ⟨u, hu2, ru⟩ := her.get h3
          have h4 : (us.toList.map (·.2))[i]? = some p.2 := by simp [List.getElem?_map, hip]
          rw [h4] at hu2
          cases hu2
          exact ⟨by rw [← hqe, h2], ru.width (allWidth_spec hwid _ (List.mem_of_getElem? h3))⟩
        obtain ⟨zc, hzc1, hzc2, hzc3⟩ : ∃ zc : Array Value, zc.size = len * s ∧ (len * s = 0 → (Array.range (len * s)).map (fun x => (#[] : Array Value)[x % (#[] : Array Value).size]!) = zc) ∧
            (¬ len * s = 0 → (Array.range (len * s)).map (fun x => zv.cells[x % zv.cells.size]!) = zc) := by
          by_cases h0 : len * s = 0
          · exact ⟨_, by simp, fun _ => rfl, fun h => absurd h0 h⟩
          · exact ⟨_, by simp, fun h => absurd h h0, fun _ => rfl⟩
        obtain ⟨out, e1, e2, _, e4⟩ := fill_row s us.toList 0 zc hszu (by rw [hul, hzc1, Nat.zero_add]; exact Nat.le_refl _)
        have hrun : (Instr.buildSlice t len us).run P w = .ok (.slice (some ⟨w.heap.size, 0, none⟩) len len) (w.alloc (.cells out et)) := by
          have hbig' : ¬ (len * s > 2 ^ 24) := by omega
          simp only [Instr.buildSlice, Sem.run_bind, under_run ht, Result.andThen_ok, szQ_run hsz, Sem.run_ite, if_neg hbig', Sem.run_pure]
          by_cases h0 : len * s = 0
          · simp only [if_pos h0, hzc2 h0, e1, Sem.run_bind, newRow, run_newObj, Result.andThen_ok, Sem.run_pure]
            rfl
          · have hzr : (zeroValue et).run P w = .ok zv w := by simp [zeroValue, typeInfo, hi, hzv]
            simp only [if_neg h0, hzr, Result.andThen_ok, hzc3 h0, e1, Sem.run_bind, newRow, run_newObj, Sem.run_pure]
            rfl
        simp only [Sem.run_bind, hrun, Result.andThen_ok, Sem.run_pure, UponA]
        have hcells : ∀ x ∈ out.toList.take (len * s), x.oneCell' = true := by
          intro x hx
          obtain ⟨o, ho⟩ := List.getElem?_of_mem hx
          have hol : o < len * s := by
            have := (List.getElem?_eq_some_iff.1 ho).1
            simp at this; omega
          rw [List.getElem?_take_of_lt hol, Array.getElem?_toList] at ho
          have hspos : 0 < s := Nat.pos_of_ne_zero hs0
          have hi' : o / s < us.toList.length := by rw [hul]; exact (Nat.div_lt_iff_lt_mul hspos).2 hol
          have hget : us.toList[o / s]? = some (us.toList[o / s]) := List.getElem?_eq_getElem hi'
          have hsz' := (hszu _ _ hget).2
          have hmod : o % s < (us.toList[o / s]).2.cells.size := by rw [hsz']; exact Nat.mod_lt _ hspos
          have := e4 (o / s) _ hget (o % s) _ (Array.getElem?_eq_getElem hmod)
          rw [Nat.zero_add, Nat.mul_comm, Nat.div_add_mod, ho] at this
          cases this
          have h3 : (us.toList.map (·.2))[o / s]? = some (us.toList[o / s]).2 := by rw [List.getElem?_map, hget]; rfl
          have hlt : o / s < (parts.map fun p => p.2.erase).length := by rw [← her.length]; simpa using hi'
          obtain ⟨u, hu2, ru⟩ := her.get (List.getElem?_eq_getElem hlt)
          rw [h3] at hu2
          cases hu2
          have hmem := List.getElem_mem hlt
          refine allOne_spec (allOneL_spec hone _ hmem) (ru.cells (by rw [allWidth_spec hwid _ hmem]; simp)) _ ?_
          simp
        have hol : (out.toList.take (len * s)).length = len * s := by
          simp [e2, hzc1]
        obtain ⟨hsim, hext⟩ := hs.know_new (cs := out.toList.take (len * s)) (c := out) (et := et) (w1 := w) rfl hs.below
          (fun j x hj => by
            have hjl : j < len * s := by have := (List.getElem?_eq_some_iff.1 hj).1; omega
            rw [List.getElem?_take_of_lt hjl] at hj; simpa using hj)
          hcells
        have hpl : (parts.map fun p => p.2.erase).length = len := by simp [hlen]
        refine ⟨_, hext, hsim, ?_⟩
        simp only [Rep]
        refine ⟨_, len, by rw [hpl], by rw [hpl]; exact Nat.le_refl _, by rw [hpl]; rfl, .inr ⟨w.heap.size, 0, s, rfl, ?_⟩⟩
        refine RepRow.of_vals (her.mono hext.le) (fun u hu' => ?_) (fun i u hi' j x hj => ?_)
        · obtain ⟨q, hq, rfl⟩ := List.mem_map.1 hu'
          obtain ⟨k, hk⟩ := List.getElem?_of_mem hq
          exact (hszu k q hk).2
        · rw [List.getElem?_map] at hi'
          obtain ⟨q, hq, rfl⟩ := Option.map_eq_some_iff.1 hi'
          have hout := e4 i q hq j x hj
          rw [Nat.zero_add] at hout
          have hil : i < len := by rw [← hul]; exact (List.getElem?_eq_some_iff.1 hq).1
          have hjs : j < s := by rw [← (hszu i q hq).2]; exact (Array.getElem?_eq_some_iff.1 hj).1
          have hlt : i * s + j < len * s := by
            have : (i + 1) * s ≤ len * s := Nat.mul_le_mul_right _ hil
            rw [Nat.add_mul, Nat.one_mul] at this
            omega
          rw [show 0 + i * s + j = i * s + j from by omega]
          simp only [St.know]
          rw [if_pos ⟨trivial, by rw [hol]; exact hlt⟩, List.getElem?_take_of_lt hlt, Array.getElem?_toList]
          exact hout
      · cases h
    · cases h
  · cases h

end
end Go.Ab

/- Calls; each operation against the model. -/
namespace Go.Ab
set_option linter.unusedVariables false
open Go Go.RowKit

mutual
theorem Rep.noPtr {σ σ' : St} (hc : ∀ b o v, σ.cells b o = some v → σ'.cells b o = some v) : ∀ (a : AV) (u : Value), a.noPtr = true → Rep σ a u → Rep σ' a u
  | .junk, _, _, _ => by simp [Rep]
  | .any, _, _, k => by simpa [Rep] using k
  | .int _ _, _, _, k => by simpa [Rep] using k
  | .bool _, _, _, k => by simpa [Rep] using k
  | .str _, _, _, k => by simpa [Rep] using k
  | .agg cs, _, n, k => by
    simp only [AV.noPtr] at n
    simp only [Rep] at k ⊢
    obtain ⟨us, e, r⟩ := k
    exact ⟨us, e, RepL.noPtr hc cs us n r⟩
  | .tup cs, _, n, k => by
    simp only [AV.noPtr] at n
    simp only [Rep] at k ⊢
    obtain ⟨us, e, r⟩ := k
    exact ⟨us, e, RepL.noPtr hc cs us n r⟩
  | .vec o es, _, n, k => by
    simp only [AV.noPtr, Bool.and_eq_true] at n
    simp only [Rep] at k ⊢
    obtain ⟨a, cap, e, hl, ho, r⟩ := k
    refine ⟨a, cap, e, hl, ?_, r.imp id ?_⟩
    · cases o with
      | own k => simp at n
      | _ => exact ho
    · rintro ⟨b, off, s, ea, r⟩
      exact ⟨b, off, s, ea, RepRow.noPtr hc b s off es n.2 r⟩
  | .ptr _ _, _, n, _ => by simp [AV.noPtr] at n
  | .rptr cs, _, n, k => by
    simp only [AV.noPtr] at n
    simp only [Rep] at k ⊢
    obtain ⟨b, off, e, r⟩ := k
    exact ⟨b, off, e, RepCells.noPtr hc b off cs n r⟩
  | .fn _ first cap, _, n, k => by
    simp only [AV.noPtr, Bool.and_eq_true] at n
    simp only [Rep] at k ⊢
    obtain ⟨us, vs, e, r, q⟩ := k
    exact ⟨us, vs, e, RepL.noPtr hc first us n.1 r, RepL.noPtr hc cap vs n.2 q⟩
  | .iface _ v, _, n, k => by
    simp only [AV.noPtr] at n
    simp only [Rep] at k ⊢
    obtain ⟨x, e, r⟩ := k
    exact ⟨x, e, Rep.noPtr hc v x n r⟩
  | .val _, _, _, k => by simpa [Rep] using k
  | .sl _ _ _ _, _, n, _ => by simp [AV.noPtr] at n
  | .map _, _, n, _ => by simp [AV.noPtr] at n
theorem RepL.noPtr {σ σ' : St} (hc : ∀ b o v, σ.cells b o = some v → σ'.cells b o = some v) : ∀ (cs : List AV) (us : List Value), AV.noPtr.go cs = true → RepL σ cs us → RepL σ' cs us
  | [], _, _, k => by simpa [RepL] using k
  | c :: cs, _, n, k => by
    simp only [AV.noPtr.go, Bool.and_eq_true] at n
    simp only [RepL] at k ⊢
    obtain ⟨u, us', e, r, q⟩ := k
    exact ⟨u, us', e, Rep.noPtr hc c u n.1 r, RepL.noPtr hc cs us' n.2 q⟩
theorem RepCells.noPtr {σ σ' : St} (hc : ∀ b o v, σ.cells b o = some v → σ'.cells b o = some v) (b : Nat) : ∀ (off : Nat) (cs : List AV), AV.noPtr.go cs = true → RepCells σ b off cs → RepCells σ' b off cs
  | _, [], _, _ => by simp [RepCells]
  | off, c :: cs, n, k => by
    simp only [AV.noPtr.go, Bool.and_eq_true] at n
    simp only [RepCells] at k ⊢
    obtain ⟨⟨u, e, r⟩, q⟩ := k
    exact ⟨⟨u, hc _ _ _ e, Rep.noPtr hc c u n.1 r⟩, RepCells.noPtr hc b (off + 1) cs n.2 q⟩
theorem RepRow.noPtr {σ σ' : St} (hc : ∀ b o v, σ.cells b o = some v → σ'.cells b o = some v) (b s : Nat) : ∀ (off : Nat) (es : List AV), AV.noPtr.go es = true → RepRow σ b s off es → RepRow σ' b s off es
  | _, [], _, _ => by simp [RepRow]
  | off, e :: es, n, k => by
    simp only [AV.noPtr.go, Bool.and_eq_true] at n
    simp only [RepRow] at k ⊢
    obtain ⟨⟨u, r, hs, hcc⟩, q⟩ := k
    exact ⟨⟨u, Rep.noPtr hc e u n.1 r, hs, fun j v hj => hc _ _ _ (hcc j v hj)⟩, RepRow.noPtr hc b s (off + s) es n.2 q⟩
end

def callable (P : Program) (f : FuncId) : Prop := ∃ fn, P.funcs[f]? = some fn ∧ (fn.name == "runtime.NumGoroutine") = false ∧ fn.body.isNone = false

def CallsA (P : Program) (f : FuncId) (args : List AV) (H : AHeap) (v : AV) (H' : AHeap) : Prop :=
  ∀ B W0 σ w us, Sim P B W0 H σ w → RepL σ args us → Calls P f us.toArray w (fun e w' => ∃ u, e = .returned u ∧ Goes P B W0 σ v H' u w')

def CallOk (P : Program) (call : CallO) : Prop := ∀ f args H v H', call f args H = some (v, H') → callable P f ∧ CallsA P f args H v H'

section
variable {P : Program} {B : Nat → Prop} {W0 : World} {H : AHeap} {σ : St} {w : World} {call : CallO}

/-- All that is in the blocks from this one on is known for good. -/
def frozen (σ : St) (B1 : Nat) (w : World) : Nat → Nat → Option Value := fun b o =>
  match σ.cells b o with
  | some v => some v
  | none => if B1 ≤ b then (match w.cell? ⟨b, o, none⟩ with | some v => if v.oneCell' = true then some v else none | none => none) else none

theorem frozen_le {σ : St} {B1 : Nat} {w : World} {b o : Nat} {v : Value} (h : σ.cells b o = some v) : frozen σ B1 w b o = some v := by simp [frozen, h]

theorem frozen_new {B1 : Nat} {S1 : Nat → Prop} {W1 : World} {w : World} (hs : Sim P S1 W1 H σ w) {b o : Nat} {v : Value} (hb : B1 ≤ b) (hc : w.cell? ⟨b, o, none⟩ = some v) (h1 : v.oneCell' = true) : frozen σ B1 w b o = some v := by
  unfold frozen
  cases h : σ.cells b o with
  | some x =>
    have := hs.cells b o x h
    rw [hc] at this
    simp only
    exact this.symm
  | none => simp [hb, hc, h1]

theorem mapO_rep {σ σ' : St} {f : AV → Option AV} (hf : ∀ c d u, f c = some d → Rep σ c u → Rep σ' d u) : ∀ {cs ds : List AV} {us : List Value}, mapO f cs = some ds → RepL σ cs us → RepL σ' ds us
  | [], ds, us, h, r => by
    simp only [mapO, Option.some.injEq] at h
    subst h
    rw [RepL.nil_iff] at r
    subst r
    simp [RepL]
  | c :: cs, ds, us, h, r => by
    simp only [mapO] at h
    rw [RepL.cons_iff] at r
    obtain ⟨u, us', rfl, r1, r2⟩ := r
    cases hc : f c with
    | none => simp [hc, bnd] at h
    | some d =>
      cases hm : mapO f cs with
      | none => simp [hc, hm, bnd] at h
      | some ds' =>
        simp only [hc, hm, bnd, Option.some.injEq] at h
        subst h
        exact RepL.cons_iff.2 ⟨u, us', rfl, hf c d u hc r1, mapO_rep hf hm r2⟩

theorem mapO_len {α β : Type} {f : α → Option β} : ∀ {cs : List α} {ds : List β}, mapO f cs = some ds → ds.length = cs.length
  | [], ds, h => by simp only [mapO, Option.some.injEq] at h; subst h; rfl
  | c :: cs, ds, h => by
    simp only [mapO] at h
    cases hc : f c with
    | none => simp [hc, bnd] at h
    | some d =>
      cases hm : mapO f cs with
      | none => simp [hc, hm, bnd] at h
      | some ds' =>
        simp only [hc, hm, bnd, Option.some.injEq] at h
        subst h
        simp [mapO_len hm]

theorem mapO_row {σ σ' : St} {f : AV → Option AV} (hf : ∀ c d u, f c = some d → Rep σ c u → Rep σ' d u) (hc : ∀ b o v, σ.cells b o = some v → σ'.cells b o = some v) {b s : Nat} : ∀ {off : Nat} {cs ds : List AV}, mapO f cs = some ds → RepRow σ b s off cs → RepRow σ' b s off ds
  | _, [], ds, h, r => by simp only [mapO, Option.some.injEq] at h; subst h; simp [RepRow]
  | off, c :: cs, ds, h, r => by
    simp only [mapO] at h
    simp only [RepRow] at r
    obtain ⟨⟨u, r1, r2, r3⟩, r4⟩ := r
    cases hcc : f c with
    | none => simp [hcc, bnd] at h
    | some d =>
      cases hm : mapO f cs with
      | none => simp [hcc, hm, bnd] at h
      | some ds' =>
        simp only [hcc, hm, bnd, Option.some.injEq] at h
        subst h
        simp only [RepRow]
        exact ⟨⟨u, hf c d u hcc r1, r2, fun j v hj => hc _ _ _ (r3 j v hj)⟩, mapO_row hf hc hm r4⟩

theorem mapO_cells {σ σ' : St} {f : AV → Option AV} (hf : ∀ c d u, f c = some d → Rep σ c u → Rep σ' d u) (hc : ∀ b o v, σ.cells b o = some v → σ'.cells b o = some v) {b : Nat} : ∀ {off : Nat} {cs ds : List AV}, mapO f cs = some ds → RepCells σ b off cs → RepCells σ' b off ds
  | _, [], ds, h, r => by simp only [mapO, Option.some.injEq] at h; subst h; simp [RepCells]
  | off, c :: cs, ds, h, r => by
    simp only [mapO] at h
    simp only [RepCells] at r
    obtain ⟨⟨u, r1, r2⟩, r4⟩ := r
    cases hcc : f c with
    | none => simp [hcc, bnd] at h
    | some d =>
      cases hm : mapO f cs with
      | none => simp [hcc, hm, bnd] at h
      | some ds' =>
        simp only [hcc, hm, bnd, Option.some.injEq] at h
        subst h
        simp only [RepCells]
        exact ⟨⟨u, hc _ _ _ r1, hf c d u hcc r2⟩, mapO_cells hf hc hm r4⟩

/-- The elements of a row's cells. -/
theorem chunk_row {σ σ' : St} {f : AV → Option AV} (hf : ∀ c d u, f c = some d → Rep σ c u → Rep σ' d u) {g : Bool} {s b : Nat} (hg : g = true ∨ s = 1) : ∀ (n off : Nat) (cs ds : List AV) (us : List Value), RepL σ cs us → n * s ≤ us.length → (∀ u ∈ us, u.oneCell' = true) →
    (∀ j v, us[j]? = some v → σ'.cells b (off + j) = some v) → mapO f (chunkA g s n cs) = some ds → RepRow σ' b s off ds
  | 0, off, cs, ds, us, _, _, _, _, h => by simp only [chunkA, mapO, Option.some.injEq] at h; subst h; simp [RepRow]
  | n + 1, off, cs, ds, us, r, hl, h1, hc, h => by
    rw [Nat.add_mul] at hl
    simp only [chunkA, mapO] at h
    cases hcc : f (if g = true then AV.agg (cs.take s) else cs.headD .junk) with
    | none => simp only [hcc, bnd, reduceCtorEq] at h
    | some d =>
      cases hm : mapO f (chunkA g s n (cs.drop s)) with
      | none => simp only [hcc, hm, bnd, reduceCtorEq] at h
      | some ds' =>
        simp only [hcc, hm, bnd, Option.some.injEq] at h
        subst h
        simp only [RepRow]
        constructor
        · cases g with
          | true =>
            refine ⟨.agg (us.take s).toArray, hf _ _ _ hcc ?_, ?_, ?_⟩
            · simp only [if_true, Rep]
              exact ⟨_, rfl, r.take s⟩
            · simp [Value.cells]; omega
            · intro j v hj
              simp only [Value.cells, List.getElem?_toArray] at hj
              have hjs : j < s := by have := (List.getElem?_eq_some_iff.1 hj).1; simp at this; omega
              rw [List.getElem?_take_of_lt hjs] at hj
              exact hc j v hj
          | false =>
            have hs1 : s = 1 := by simpa using hg
            subst hs1
            cases us with
            | nil => simp at hl
            | cons u us =>
              cases cs with
              | nil => rw [RepL.nil_iff] at r; cases r
              | cons c cs =>
                rw [RepL.cons_iff] at r
                obtain ⟨u', us', e, r1, r2⟩ := r
                cases e
                have hone := h1 u (by simp)
                have hcells : u.cells = #[u] := by cases u <;> simp [Value.oneCell'] at hone <;> rfl
                refine ⟨u, hf _ _ _ hcc (by simpa using r1), by rw [hcells]; rfl, ?_⟩
                intro j v hj
                rw [hcells] at hj
                have hj0 : j = 0 := by have := (Array.getElem?_eq_some_iff.1 hj).1; simp at this; omega
                subst hj0
                simp at hj
                subst hj
                exact hc 0 u (by simp)
        · refine chunk_row hf hg n (off + s) (cs.drop s) ds' (us.drop s) (r.drop s) (by simp; omega) (fun u hu => h1 u (List.mem_of_mem_drop hu)) (fun j v hj => ?_) hm
          rw [List.getElem?_drop] at hj
          have := hc (s + j) v hj
          rwa [show off + (s + j) = off + s + j from by omega] at this

theorem chunk_len (g : Bool) (s : Nat) : ∀ (n : Nat) (cs : List AV), (chunkA g s n cs).length = n
  | 0, cs => rfl
  | n + 1, cs => by simp [chunkA, chunk_len g s n]

theorem frz_ok {B1 : Nat} {W1 w1 : World} {σ1 σF : St} (hs : Sim P (· < B1) W1 H σ1 w1) (hF : σF.cells = frozen σ1 B1 w1) : ∀ (n : Nat) (v v' : AV) (u : Value), frz P H n v = some v' → Rep σ1 v u → Rep σF v' u
  | 0, v, v', u, h, _ => by simp [frz] at h
  | n + 1, v, v', u, h, r => by
    have hf := frz_ok hs hF n
    have hcc : ∀ b o v, σ1.cells b o = some v → σF.cells b o = some v := fun b o v hv => by rw [hF]; exact frozen_le hv
    have hbs : ∀ {α β : Type} {x : Option α} {f : α → Option β} {y : β}, bnd x f = some y → ∃ a, x = some a ∧ f a = some y := fun {α β x f y} hx => by
      cases x with
      | none => simp [bnd] at hx
      | some a => exact ⟨a, rfl, hx⟩
    cases v <;> simp only [frz] at h
    case agg cs =>
      obtain ⟨ds, h1, h2⟩ := hbs h
      cases h2
      simp only [Rep] at r ⊢
      obtain ⟨us, e, r1⟩ := r
      exact ⟨us, e, mapO_rep hf h1 r1⟩
    case tup cs =>
      obtain ⟨ds, h1, h2⟩ := hbs h
      cases h2
      simp only [Rep] at r ⊢
      obtain ⟨us, e, r1⟩ := r
      exact ⟨us, e, mapO_rep hf h1 r1⟩
    case vec o es =>
      obtain ⟨ds, h1, h2⟩ := hbs h
      cases h2
      have hl := mapO_len h1
      simp only [Rep] at r ⊢
      obtain ⟨a, cap, e, r1, r2, r3⟩ := r
      refine ⟨a, cap, by rw [hl]; exact e, by rw [hl]; exact r1, ?_, ?_⟩
      · rw [hl]
        cases o with
        | own k => trivial
        | _ => exact r2
      · rcases r3 with rfl | ⟨b, off, s, ea, row⟩
        · simp only [mapO, Option.some.injEq] at h1
          exact .inl h1.symm
        · exact .inr ⟨b, off, s, ea, mapO_row hf hcc h1 row⟩
    case rptr cs =>
      obtain ⟨ds, h1, h2⟩ := hbs h
      cases h2
      simp only [Rep] at r ⊢
      obtain ⟨b, off, e, r1⟩ := r
      exact ⟨b, off, e, mapO_cells hf hcc h1 r1⟩
    case fn f a b =>
      obtain ⟨ds, h1, h2⟩ := hbs h
      obtain ⟨es, h3, h4⟩ := hbs h2
      cases h4
      simp only [Rep] at r ⊢
      obtain ⟨us, vs, e, r1, r2⟩ := r
      exact ⟨us, vs, e, mapO_rep hf h1 r1, mapO_rep hf h3 r2⟩
    case iface t x =>
      obtain ⟨y, h1, h2⟩ := hbs h
      cases h2
      simp only [Rep] at r ⊢
      obtain ⟨z, e, r1⟩ := r
      exact ⟨z, e, hf _ _ _ h1 r1⟩
    case ptr id off =>
      simp only [Rep] at r
      obtain ⟨b, hb, rfl⟩ := r
      split at h
      · rename_i cs hg
        split at h
        · rename_i hone
          obtain ⟨ds, h1, h2⟩ := hbs h
          cases h2
          obtain ⟨b', c, e, q1, q2, q3, q4, q5⟩ := hs.obj id _ hg
          rw [hb] at q1
          cases q1
          simp only [Rep]
          refine ⟨b, off, rfl, RepCells.of_list (mapO_rep hf h1 (q4.drop off)) fun j v hj => ?_⟩
          rw [hF]
          have hj' := hj
          rw [List.getElem?_drop, Array.getElem?_toList] at hj
          exact frozen_new hs (Nat.le_of_not_lt q2) (by rw [cell_of_row q3]; exact hj) (allOne_spec hone (q4.drop off) v (List.mem_of_getElem? hj'))
        · cases h
      · rename_i m et s cs hg
        obtain ⟨ds, h1, h2⟩ := hbs h
        cases h2
        obtain ⟨b', cap, c, q1, _, q2, q3, q4, q5, q6, q7, q8, q9, q10, q11, q12⟩ := hs.obj id _ hg
        rw [hb] at q1
        cases q1
        simp only [Rep]
        refine ⟨b, off, rfl, RepCells.of_list (mapO_rep hf h1 (q10.drop off)) fun j v hj => ?_⟩
        rw [hF]
        have hj' := hj
        rw [List.getElem?_drop] at hj
        have hlt : off + j < m * s := by have := (List.getElem?_eq_some_iff.1 hj).1; simp at this; omega
        rw [List.getElem?_take_of_lt hlt, Array.getElem?_toList] at hj
        exact frozen_new hs (Nat.le_of_not_lt q2) (by rw [cell_of_row q3]; exact hj) (q11 v (List.mem_of_mem_drop (List.mem_of_getElem? hj')))
      · cases h
    case sl id s off len =>
      simp only [Rep] at r
      obtain ⟨b, cap, hb, hown, rfl, hcap⟩ := r
      split at h
      · rename_i m et s' cs hg
        split at h
        · rename_i g hag
          split at h
          · rename_i hc
            obtain ⟨rfl, hle, hgs⟩ := hc
            obtain ⟨ds, h1, h2⟩ := hbs h
            cases h2
            obtain ⟨b', cap', c, q1, _, q2, q3, q4, q5, q6, q7, q8, q9, q10, q11, q12⟩ := hs.obj id _ hg
            rw [hb] at q1
            cases q1
            have hlen : ds.length = len := by rw [mapO_len h1, chunk_len]
            have hmul : off * s' + len * s' ≤ m * s' := by rw [← Nat.add_mul]; exact Nat.mul_le_mul_right _ hle
            have hns : m * s' ≤ c.size := by rw [q6]; exact Nat.mul_le_mul_right _ q7
            simp only [Rep]
            refine ⟨_, cap - off, by rw [hlen], by rw [hlen]; omega, trivial, .inr ⟨b, off * s', s', rfl, ?_⟩⟩
            refine chunk_row hf hgs len (off * s') _ ds ((c.toList.take (m * s')).drop (off * s')) (q10.drop _) (by simp; omega) (fun u hu => q11 u (List.mem_of_mem_drop hu)) (fun j v hj => ?_) h1
            rw [hF]
            have hj' := hj
            rw [List.getElem?_drop] at hj
            have hlt : off * s' + j < m * s' := by have := (List.getElem?_eq_some_iff.1 hj).1; simp at this; omega
            rw [List.getElem?_take_of_lt hlt, Array.getElem?_toList] at hj
            exact frozen_new hs (Nat.le_of_not_lt q2) (by rw [cell_of_row q3]; exact hj) (q11 v (List.mem_of_mem_drop (List.mem_of_getElem? hj')))
          · cases h
        · cases h
      · cases h
    case map id => cases h
    all_goals (cases h; simp only [Rep] at r ⊢; try exact r)

/-- Behind a call in a memory of its own all that it made is known for good. -/
theorem closed_world (hs : Sim P B W0 H σ w) {H1 : AHeap} {σ1 : St} {w1 : World} (hext : Ext (· < w.heap.size) { cells := σ.cells, loc := fun _ => none, own := fun _ _ => none } σ1) (hsim : Sim P (· < w.heap.size) w H1 σ1 w1)
    {K : Nat → Nat → Option Value} (hK1 : ∀ b o v, σ1.cells b o = some v → K b o = some v) (hK2 : ∀ b o v, K b o = some v → w1.cell? ⟨b, o, none⟩ = some v ∧ v.oneCell' = true) (hK3 : ∀ b o, b < w.heap.size → K b o = σ1.cells b o) :
    Ext B σ { cells := K, loc := σ.loc, own := σ.own } ∧ Sim P B W0 H { cells := K, loc := σ.loc, own := σ.own } w1 := by
  have hle : σ.le { cells := K, loc := σ.loc, own := σ.own } := ⟨fun b o v h => hK1 b o v (hext.le.cells b o v h), fun _ _ h => h, fun _ _ _ h => h⟩
  refine ⟨⟨hle, fun b o hb => ?_⟩, ?_⟩
  · have hlt := hs.size b hb
    show K b o = σ.cells b o
    rw [hK3 b o hlt]
    exact hext.old b o hlt
  · refine ⟨hs.below.trans (hsim.below.mono hs.size), hs.base, fun b o v h => (hK2 b o v h).1, fun b o v h => (hK2 b o v h).2, hs.fresh, hs.keys, ?_, hs.inj⟩
    intro id x hx
    have ho := hs.obj id x hx
    refine ho.keep hle (fun b hb => ?_) (fun _ => rfl)
    obtain ⟨b', hb', _, hlt⟩ := ho.blk
    rw [hb] at hb'
    cases hb'
    refine ⟨hsim.below.block b hlt, fun o => ?_⟩
    show K b o = σ.cells b o
    rw [hK3 b o hlt]
    exact hext.old b o hlt

theorem closed_sound (hs : Sim P B W0 H σ w) (hc : CallOk P call) {f : FuncId} {args : List AV} {us : List Value} {v : AV} (hr : RepL σ args us) (h : closedCall P call f args = some v) :
    callable P f ∧ Calls P f us.toArray w (fun e w' => ∃ u, e = .returned u ∧ Goes P B W0 σ v H u w') := by
  unfold closedCall at h
  split at h
  · rename_i hn
    split at h
    · rename_i v1 H1 hcall
      obtain ⟨h1, h2⟩ := hc _ _ _ _ _ hcall
      refine ⟨h1, ?_⟩
      let σ0 : St := { cells := σ.cells, loc := fun _ => none, own := fun _ _ => none }
      have hs0 : Sim P (· < w.heap.size) w .empty σ0 w :=
        ⟨BelowS.refl _ _, hs.baseNow, hs.cells, hs.one, fun _ _ => ⟨rfl, fun _ => rfl⟩, fun id x hx => by simp [AHeap.get, AHeap.empty] at hx, fun id x hx => by simp [AHeap.get, AHeap.empty] at hx,
          fun id id' x x' hx => by simp [AHeap.get, AHeap.empty] at hx⟩
      refine (h2 (· < w.heap.size) w σ0 w us hs0 (RepL.noPtr (σ := σ) (σ' := σ0) (fun _ _ _ h => h) _ _ hn hr.erase)).mono ?_
      rintro e w1 ⟨u, rfl, σ1, hext, hsim, hrep⟩
      refine ⟨u, rfl, ?_⟩
      split at h
      · rename_i hn1
        cases h
        obtain ⟨q1, q2⟩ := closed_world hs hext hsim (K := σ1.cells) (fun _ _ _ h => h) (fun b o v h => ⟨hsim.cells b o v h, hsim.one b o v h⟩) (fun _ _ _ => rfl)
        exact ⟨_, q1, q2, Rep.noPtr (σ := σ1) (σ' := { cells := σ1.cells, loc := σ.loc, own := σ.own }) (fun _ _ _ h => h) _ _ hn1 hrep.erase⟩
      · cases hfz : frz P H1 100 v1 with
        | none => simp [hfz, bnd] at h
        | some v2 =>
          simp only [hfz, bnd] at h
          split at h
          · cases h
            obtain ⟨q1, q2⟩ := closed_world hs hext hsim (K := frozen σ1 w.heap.size w1) (fun _ _ _ h => frozen_le h) (fun b o v h => by
              unfold frozen at h
              split at h
              · rename_i x hx; cases h; exact ⟨hsim.cells b o _ hx, hsim.one b o _ hx⟩
              · split at h
                · split at h
                  · rename_i x hx
                    split at h
                    · rename_i h1; cases h; exact ⟨hx, h1⟩
                    · cases h
                  · cases h
                · cases h) (fun b o hb => by
              unfold frozen
              cases σ1.cells b o with
              | some x => rfl
              | none => simp; omega)
            exact ⟨_, q1, q2, frz_ok hsim rfl 100 v1 _ u hfz hrep⟩
          · cases h
    · cases h
  · cases h

theorem callFunc_run {f : FuncId} (h : callable P f) (args : Array Value) : (callFunc f args).run P w = .ok (.enter f args) w := by
  obtain ⟨fn, h1, h2, h3⟩ := h
  simp only [callFunc, Sem.run_bind, run_program, Result.andThen_ok, h1, h2, h3, Bool.false_eq_true, if_false]
  rfl

theorem target_spec {a : AV} {f : FuncId} {first cap : List AV} {u : Value} (h : target a = some (f, first, cap)) (r : Rep σ a u) : ∃ us vs : List Value, u = .func (.func f) us.toArray vs.toArray ∧ RepL σ first us ∧ RepL σ cap vs := by
  unfold target at h
  split at h
  · simp only [Option.some.injEq, Prod.mk.injEq] at h
    obtain ⟨rfl, rfl, rfl⟩ := h
    simpa [Rep] using r
  · cases h

theorem call_run {o : Oper} {c : Call} {x : Operand} {ρ : Operand → Value} (hop : o.op = .call c) (hx : c.callee = .value x) {f : FuncId} {us vs : List Value} (hu : ρ x = .func (.func f) us.toArray vs.toArray) (hcall : callable P f) :
    (execOp ρ o).run P w = .ok (.enter f (us ++ c.args.toList.map ρ ++ vs).toArray) w := by
  obtain ⟨dst, op, ty, pos, after, guard⟩ := o
  simp only at hop
  subst hop
  obtain ⟨cal, as, tys⟩ := c
  simp only at hx
  subst hx
  simp only [execOp, resolve, Deferred.ofValue, hu, Sem.run_bind, Sem.run_pure, Result.andThen_ok, invoke, callFunc_run hcall]
  congr 2
  apply Array.ext'
  simp

theorem buildSlice_exec (hs : Sim P B W0 H σ w) {dst : Option Tmp} {ty : TypeId} {pos : String} {after : Array Edge} {guard : Option (Nat × Bool)} {t : TypeId} {len : Nat} {parts : Array (Nat × Operand)} {ρa : Operand → AV}
    {ρ : Operand → Value} {v : AV} {H' : AHeap} (h : buildSliceA P t len (parts.toList.map fun p => (p.1, ρa p.2)) H = some (v, H')) (hp : ∀ p ∈ parts.toList, Rep σ (ρa p.2) (ρ p.2)) :
    UponA P ((execOp ρ { dst := dst, op := .buildSlice t len parts, type := ty, pos := pos, after := after, guard := guard }).run P w) (Goes P B W0 σ v H') := by
  have hp' : RepL σ ((parts.toList.map fun p => (p.1, ρa p.2)).map (·.2)) ((parts.map fun p => (p.1, ρ p.2)).toList.map (·.2)) := by
    simp only [Array.toList_map, List.map_map]
    exact RepL.map (fun p : Nat × Operand => ρa p.2) (fun p => ρ p.2) parts.toList hp
  simp only [execOp]
  have key := buildSlice_sound (us := parts.map fun p => (p.1, ρ p.2)) hs (by simp) hp' h
  exact key

/-- Something turns in a block that nobody has, but none of its cells. -/
theorem Sim.touch (hs : Sim P B W0 H σ w) {b : Nat} {w' : World} (hb : ∀ k, k ≠ b → w'.heap[k]? = w.heap[k]?) (hc : ∀ o, w'.cell? ⟨b, o, none⟩ = w.cell? ⟨b, o, none⟩) (hbel : BelowS B W0 w') (hfree : ∀ id y, H.get id = some y → blk σ id y ≠ some b) :
    Sim P B W0 H σ w' := by
  refine ⟨hbel, hs.base, fun b' o v h => ?_, hs.one, hs.fresh, hs.keys, fun id x hx => ?_, hs.inj⟩
  · by_cases e : b' = b
    · subst e; rw [hc]; exact hs.cells _ o v h
    · rw [cell_of_heap (hb b' e)]; exact hs.cells b' o v h
  · refine (hs.obj id x hx).keep σ.le_refl (fun b' hb' => ⟨hb b' ?_, fun _ => rfl⟩) (fun _ => rfl)
    rintro rfl
    exact hfree id x hx hb'

theorem bytes_sound (hs : Sim P B W0 H σ w) {s d : TypeId} {l : List UInt8} {u : Value} {v : AV} {H' : AHeap} (r : Rep σ (.str l) u)
    (h : (if isStrQ P s = true ∧ bytesQ P d = true ∧ l.length ≤ 1099511627776 then some (AV.vec .ro (l.map fun b => .int .u8 b.toNat), H) else none) = some (v, H')) :
    UponA P ((do pure (Next.value (← Go.convert s d u)) : Sem Next).run P w) (Goes P B W0 σ v H') := by
  split at h
  · rename_i hc
    obtain ⟨h1, h2, h3⟩ := hc
    cases h
    simp only [Rep] at r
    subst r
    unfold bytesQ at h2
    split at h2
    · rename_i et het
      simp only [Bool.and_eq_true, beq_iff_eq] at h2
      obtain ⟨h2, hsz⟩ := h2
      have hu8 : P.underlying et = some (.int .u8) := by
        split at h2
        · rename_i e; exact e
        · cases h2
      have hsize : (⟨l.toArray⟩ : ByteArray).size = l.length := by simp [ByteArray.size]
      have hge := grownCap_ge w l.length 0 et
      let c : Array Value := (l.toArray.map fun b => Value.int .u8 b.toNat) ++ Array.replicate (grownCap w l.length 0 et - l.length) (.int .u8 0)
      have hcs : c.size = grownCap w l.length 0 et := by simp [c]; omega
      have hrun : (Go.convert s d (.string ⟨l.toArray⟩)).run P w = .ok (.slice (some ⟨w.heap.size, 0, none⟩) l.length (grownCap w l.length 0 et)) ((w.drew.alloc (.cells c et)).freeze { block := w.heap.size, off := c.size } 1) := by
        have hsh : (w.drew.alloc (.cells c et)).shape? w.heap.size = some (et, c.size) := by
          simp only [World.shape?]
          rw [show w.heap.size = w.drew.heap.size from rfl, heap_new]
        simp only [Go.convert, Sem.run_bind, under_run (isStrQ_spec h1), under_run (elemQ_spec het), under_run hu8, Result.andThen_ok, Conv.stringToBytes, run_choose_drew, hsize, newRow, Sem.run_pure, markStringish, Question.forced, Bool.false_eq_true, if_false,
          run_newObj_alloc, run_shape]
        have e1 : w.drew.heap.size = w.heap.size := rfl
        rw [e1]
        have key : ∀ (W : World) (V : Value), W.shape? w.heap.size = some (et, c.size) → ((Sem.run P (match W.shape? w.heap.size with | some (_, n) => freeze { block := w.heap.size, off := n } 1 | _ => pure ()) W).andThen fun _ w' => Result.ok V w') = Result.ok V (W.freeze { block := w.heap.size, off := c.size } 1) := fun W V hW => by
          rw [hW]; rfl
        exact key (w.drew.alloc (.cells c et)) _ hsh
      obtain ⟨q1, q2⟩ := hs.know_new (cs := l.map fun b => Value.int .u8 b.toNat) (c := c) (et := et) (w1 := w.drew) rfl hs.below.drew (fun j x hj => by
        have hjl : j < l.length := by have := (List.getElem?_eq_some_iff.1 hj).1; simpa using this
        simp only [c]
        rw [Array.getElem?_append_left (by simpa using hjl)]
        simpa using hj) (fun x hx => by obtain ⟨b, _, rfl⟩ := List.mem_map.1 hx; rfl)
      simp only [Sem.run_bind, hrun, Result.andThen_ok, Sem.run_pure, UponA]
      have hother : ∀ k, k ≠ w.heap.size → ((w.drew.alloc (.cells c et)).freeze { block := w.heap.size, off := c.size } 1).heap[k]? = (w.drew.alloc (.cells c et)).heap[k]? := fun k hk => by
        simp [World.freeze, Array.getElem?_modify, Ne.symm hk]
      refine ⟨_, q2, q1.touch (b := w.heap.size) hother (fun o => ?_) (q1.below.trans ⟨rfl, rfl, rfl, by simp [World.freeze], fun k hk => hother k (by rintro rfl; exact hs.notNew hk)⟩) (fun id y hy he => ?_), ?_⟩
      · have hn : (w.drew.alloc (.cells c et)).heap[w.heap.size]? = some (.cells c et (0, 0)) := heap_new w.drew (.cells c et)
        unfold World.cell?
        simp only [World.freeze, Nat.one_ne_zero, if_false, Array.getElem?_modify, if_true, hn, Option.map_some]
      · obtain ⟨b, hb1, _, hb3⟩ := (hs.obj id y hy).blk
        rw [blk_keep q2.le hb1] at he
        cases he
        exact absurd hb3 (Nat.lt_irrefl _)
      · simp only [Rep]
        refine ⟨_, grownCap w l.length 0 et, by simp, by simpa using hge, trivial, .inr ⟨w.heap.size, 0, 1, rfl, ?_⟩⟩
        refine RepRow.of_vals (us := l.map fun b => Value.int .u8 b.toNat) (RepL.map _ _ l fun b _ => by simp [Rep]) (fun x hx => by obtain ⟨b, _, rfl⟩ := List.mem_map.1 hx; rfl) (fun i x hi j y hj => ?_)
        obtain ⟨b, _, rfl⟩ := List.mem_map.1 (List.mem_of_getElem? hi)
        have hj0 : j = 0 := by have := (Array.getElem?_eq_some_iff.1 hj).1; simp [Value.cells] at this; omega
        subst hj0
        simp [Value.cells] at hj
        subst hj
        simp only [St.know]
        have hil := (List.getElem?_eq_some_iff.1 hi).1
        rw [if_pos ⟨trivial, by simpa using hil⟩]
        simpa using hi
    · cases h2
  · cases h

/-- A row's cells all zero. -/
theorem zeroCells_list (z : Array Value) (n : Nat) (h : z.size ≠ 0) : (Builtin.zeroCells z n).toList = (List.replicate n z.toList).flatten := by
  apply List.ext_getElem?
  intro i
  rw [flat_get]
  simp only [Builtin.zeroCells, Array.toList_map, Array.toList_range, List.getElem?_map, Array.length_toList]
  by_cases hi : i < n * z.size
  · rw [if_pos hi]
    have hm : i % z.size < z.size := Nat.mod_lt _ (Nat.pos_of_ne_zero h)
    simp [hi, hm]
  · rw [if_neg hi, List.getElem?_eq_none (by simpa using hi)]
    rfl

theorem RepL.repl {zs : List AV} {us : List Value} (h : RepL σ zs us) : ∀ n : Nat, RepL σ (List.replicate n zs).flatten (List.replicate n us).flatten
  | 0 => by simp [RepL]
  | n + 1 => by
    simp only [List.replicate_succ, List.flatten_cons]
    exact h.append (RepL.repl h n)

theorem clear_sound (hs : Sim P B W0 H σ w) {tys : Array TypeId} {ty : TypeId} {args : List AV} {us : Array Value} {v : AV} {H' : AHeap} (hr : RepL σ args us.toList) (h : clearOp P tys args H = some (v, H')) :
    UponA P ((do pure (Next.value (← Builtin.clear_ tys ty us)) : Sem Next).run P w) (Goes P B W0 σ v H') := by
  unfold clearOp at h
  split at h
  · split at h
    · rename_i t ht
      split at h
      · rename_i hel
        simp only [Option.some.injEq, Prod.mk.injEq] at h
        obtain ⟨rfl, rfl⟩ := h
        obtain ⟨us⟩ := us
        simp only at hr
        rw [RepL.cons_iff] at hr
        obtain ⟨u, us', rfl, r, q⟩ := hr
        rw [RepL.nil_iff] at q
        subst q
        simp only [Rep] at r
        obtain ⟨a, cap, rfl, _⟩ := r
        obtain ⟨e, he⟩ := Option.ne_none_iff_exists'.1 hel
        have hrun : (Builtin.clear_ tys ty #[.slice a 0 cap]).run P w = .ok (.tuple #[]) w := by
          cases a <;> simp [Builtin.clear_, ht, under_run (elemQ_spec he)]
        simp only [List.length_nil, Sem.run_bind, hrun, Result.andThen_ok, Sem.run_pure, UponA]
        exact ⟨σ, Ext.refl _ _, hs, by simp [undefA, Rep]⟩
      · cases h
    · cases h
  · rename_i id s off len
    split at h
    · rename_i t ht
      split at h
      · rename_i e he
        split at h
        · rename_i z n et s2 cs hz hg
          split at h
          · rename_i hc
            obtain ⟨rfl, hzl, hol, hl0, hone⟩ := hc
            simp only [Option.some.injEq, Prod.mk.injEq] at h
            obtain ⟨rfl, rfl⟩ := h
            obtain ⟨us⟩ := us
            simp only at hr
            rw [RepL.cons_iff] at hr
            obtain ⟨u, us', rfl, r, q⟩ := hr
            rw [RepL.nil_iff] at q
            subst q
            simp only [Rep] at r
            obtain ⟨b, cap, hb, _, rfl, _⟩ := r
            obtain ⟨_, _, _, _, _, _, _, _, hs0, _, _, _, hcl, _⟩ := hs.obj id _ hg
            obtain ⟨zv, hzv, rz⟩ : ∃ zv : Value, (∀ w, (zeroValue e).run P w = .ok zv w) ∧ RepL σ z zv.cells.toList := by
              unfold zeroQ at hz
              split at hz
              · rename_i i hi
                obtain ⟨zv, hzv, rfl⟩ := Option.map_eq_some_iff.1 hz
                refine ⟨zv, fun w => by simp [zeroValue, typeInfo, hi, hzv], ?_⟩
                have := RepL.of_map (σ := σ) ofV1 (fun v => v) zv.cells.toList (fun x _ => Rep.ofV1 x)
                simpa using this
              · cases hz
            have hzs : zv.cells.size = s2 := by have := rz.length; simp only [Array.length_toList] at this; omega
            have rr := rz.repl len
            have hfl : (List.replicate len z).flatten.length = len * s2 := by simp [hzl]
            have hmul : off * s2 + len * s2 ≤ n * s2 := by rw [← Nat.add_mul]; exact Nat.mul_le_mul_right _ hol
            have hone' : ∀ u ∈ (List.replicate len zv.cells.toList).flatten, u.oneCell' = true := by
              intro u hu
              obtain ⟨l, hl, hu⟩ := List.mem_flatten.1 hu
              obtain rfl := List.eq_of_mem_replicate hl
              exact allOne_spec hone rz u hu
            obtain ⟨b', cap', c, hb', _, hh, hfit, hsim⟩ := hs.set_row (o := off * s2) hg rr hone' (by omega)
            rw [hb] at hb'
            cases hb'
            have hst := run_storeCells_at (P := P) b (off * s2) et (List.replicate len zv.cells.toList).flatten 0 c w hh (by simpa using hfit) hone'
            simp only [Nat.add_zero] at hst
            have hz0 : zv.cells.size ≠ 0 := by omega
            have hrun : (Builtin.clear_ tys ty #[.slice (some ⟨b, off * s2, none⟩) len (cap - off)]).run P w = .ok (.tuple #[]) (w.setRow b (c.toList.take (off * s2) ++ (List.replicate len zv.cells.toList).flatten ++ c.toList.drop (off * s2 + (List.replicate len zv.cells.toList).flatten.length)).toArray) := by
              obtain ⟨m, rfl⟩ : ∃ m, len = m + 1 := ⟨len - 1, by omega⟩
              simp [Builtin.clear_, ht, under_run (elemQ_spec he), hzv, zeroCells_list _ _ hz0, hst]
            simp only [Sem.run_bind, hrun, Result.andThen_ok, Sem.run_pure, UponA]
            exact ⟨σ, Ext.refl _ _, hsim, by simp [undefA, Rep]⟩
          · cases h
        · cases h
      · cases h
    · cases h
  · cases h

theorem RepE.erase : ∀ {es : List (AV × AV × Nat)} {ms : List MapEntry} (i : Nat), RepE σ es ms → RepE σ (es.eraseIdx i) (ms.eraseIdx i)
  | [], ms, i, h => by simp only [RepE] at h; subst h; simp [RepE]
  | (k, v, b) :: es, ms, i, h => by
    simp only [RepE] at h
    obtain ⟨m, ms', rfl, r1, r2, r3, r4⟩ := h
    cases i with
    | zero => simpa using r4
    | succ i =>
      simp only [List.eraseIdx_cons_succ, RepE]
      exact ⟨m, _, rfl, r1, r2, r3, r4.erase i⟩

theorem RepE.length : ∀ {es : List (AV × AV × Nat)} {ms : List MapEntry}, RepE σ es ms → ms.length = es.length
  | [], ms, h => by simp only [RepE] at h; subst h; rfl
  | (k, v, b) :: es, ms, h => by
    simp only [RepE] at h
    obtain ⟨m, ms', rfl, r1, r2, r3, r4⟩ := h
    simp [r4.length]

theorem mapT_spec {tys : Array TypeId} (h : mapT P tys = true) : ∃ t kt et, tys[0]? = some t ∧ P.underlying t = some (.map kt et) := by
  unfold mapT at h
  split at h
  · rename_i t ht
    obtain ⟨⟨kt, et⟩, hm⟩ := Option.isSome_iff_exists.1 h
    exact ⟨t, kt, et, ht, mapQ_spec hm⟩
  · cases h

theorem len_sound (hs : Sim P B W0 H σ w) {tys : Array TypeId} {ty : TypeId} {args : List AV} {us : Array Value} {v : AV} {H' : AHeap} (hr : RepL σ args us.toList) (h : lenOp P tys args H = some (v, H')) :
    UponA P ((do pure (Next.value (← Builtin.len_ tys ty us)) : Sem Next).run P w) (Goes P B W0 σ v H') := by
  unfold lenOp at h
  split at h
  · rename_i id
    split at h
    · rename_i hm
      obtain ⟨t, kt, et, ht, hu⟩ := mapT_spec hm
      split at h
      · rename_i es clock hg
        simp only [Option.some.injEq, Prod.mk.injEq] at h
        obtain ⟨rfl, rfl⟩ := h
        obtain ⟨b, ms, hb, _, hh, re, _⟩ := hs.obj id _ hg
        obtain ⟨us⟩ := us
        simp only at hr
        rw [RepL.cons_iff] at hr
        obtain ⟨u, us', rfl, r, q⟩ := hr
        rw [RepL.nil_iff] at q
        subst q
        simp only [Rep] at r
        obtain ⟨b', hb', rfl⟩ := r
        rw [hb] at hb'
        cases hb'
        have hrun : (Builtin.len_ tys ty #[.map (some b)]).run P w = .ok (.int .i64 (es.length : Nat)) w := by
          have hl := re.length
          simp only [Array.length_toList] at hl
          simp [Builtin.len_, ht, under_run hu, Go.MapKept.run_getObj_map hh, goInt, hl]
        simp only [Sem.run_bind, hrun, Result.andThen_ok, Sem.run_pure, UponA]
        exact ⟨σ, Ext.refl _ _, hs, by simp [Rep]⟩
      · cases h
    · cases h
  · cases hl : lenA P tys args with
    | none => simp [hl, bnd] at h
    | some v0 =>
      simp only [hl, bnd, Option.some.injEq, Prod.mk.injEq] at h
      obtain ⟨rfl, rfl⟩ := h
      obtain ⟨u, hu, ru⟩ := pure_len (P := P) (w := w) (ty := ty) hr hl
      rw [hu]
      exact ⟨σ, Ext.refl _ _, hs, ru⟩

theorem delete_sound (hs : Sim P B W0 H σ w) {tys : Array TypeId} {ty : TypeId} {args : List AV} {us : Array Value} {v : AV} {H' : AHeap} (hr : RepL σ args us.toList) (h : deleteOp P tys args H = some (v, H')) :
    UponA P ((do pure (Next.value (← Builtin.delete_ tys ty us)) : Sem Next).run P w) (Goes P B W0 σ v H') := by
  unfold deleteOp at h
  split at h
  · rename_i id k
    split at h
    · rename_i t ht
      split at h
      · rename_i kt et hmq
        have hu := mapQ_spec hmq
        split at h
        · rename_i es clock hg
          split at h
          · rename_i hk
            obtain ⟨b, ms, hb, hB, hh, re, hn⟩ := hs.obj id _ hg
            obtain ⟨us⟩ := us
            simp only at hr
            rw [RepL.cons_iff] at hr
            obtain ⟨u, us', rfl, r, q⟩ := hr
            rw [RepL.cons_iff] at q
            obtain ⟨uk, us2, rfl, rk, q⟩ := q
            rw [RepL.nil_iff] at q
            subst q
            simp only [Rep] at r
            obtain ⟨b', hb', rfl⟩ := r
            rw [hb] at hb'
            cases hb'
            have hset : ∀ o' : Obj, (∀ k', k' ≠ b → (w.heap.setIfInBounds b o')[k']? = w.heap[k']?) ∧ (w.heap.setIfInBounds b o')[b]? = some o' := fun o' => ⟨(Go.MapKept.heap_set hh).2, (Go.MapKept.heap_set hh).1⟩
            have hbel : ∀ o' : Obj, BelowS B W0 { w with heap := w.heap.setIfInBounds b o' } := fun o' => hs.below.trans ⟨rfl, rfl, rfl, by simp, fun k' hk' => (hset o').1 k' (by rintro rfl; exact hB hk')⟩
            split at h
            · rename_i j v1 hf
              obtain ⟨k1, r', k2, k3⟩ := key_ok (w := w) rk hk re hf (em := ms.isEmpty)
              obtain ⟨j', v', y, e1, rfl, ry⟩ := k3.resolve_left (by simp)
              simp only [Option.some.injEq, Prod.mk.injEq] at e1
              obtain ⟨rfl, rfl⟩ := e1
              cases h
              have hrun : (Builtin.delete_ tys ty #[.map (some b), uk]).run P w = .ok (.tuple #[]) { w with heap := w.heap.setIfInBounds b (.map (ms.eraseIdxIfInBounds j) clock) } := by
                simp [Builtin.delete_, ht, under_run hu, Go.MapKept.run_getObj_map hh, k1, k2, Go.MapKept.run_setObj_map _ hh]
              simp only [Sem.run_bind, hrun, Result.andThen_ok, Sem.run_pure, UponA]
              refine ⟨σ, Ext.refl _ _, hs.setAt (b := b) hg hb hb (hset _).1 (hbel _) hn ⟨b, _, hb, hB, (hset _).2, ?_, hn⟩, by simp [undefA, Rep]⟩
              rw [Array.toList_eraseIdxIfInBounds]
              exact re.erase j
            · rename_i hf
              obtain ⟨k1, r', k2, k3⟩ := key_ok (w := w) rk hk re hf (em := ms.isEmpty)
              have : r' = none := by
                rcases k3 with ⟨_, h2⟩ | ⟨j, v, x, h1, _⟩
                · exact h2
                · simp at h1
              subst this
              cases h
              have hrun : (Builtin.delete_ tys ty #[.map (some b), uk]).run P w = .ok (.tuple #[]) { w with heap := w.heap.setIfInBounds b (.map ms clock) } := by
                simp [Builtin.delete_, ht, under_run hu, Go.MapKept.run_getObj_map hh, k1, k2, Go.MapKept.run_setObj_map _ hh]
              simp only [Sem.run_bind, hrun, Result.andThen_ok, Sem.run_pure, UponA]
              have hq := hs.setAt (b := b) (y := .map es clock) (w' := { w with heap := w.heap.setIfInBounds b (.map ms clock) }) hg hb hb (hset (.map ms clock)).1 (hbel _) hn ⟨b, ms, hb, hB, (hset _).2, re, hn⟩
              rw [AHeap.set_same hg] at hq
              exact ⟨σ, Ext.refl _ _, hq, by simp [undefA, Rep]⟩
            · cases h
          · cases h
        · cases h
      · cases h
    · cases h
  · cases h

theorem bytesA_spec : ∀ {es : List AV} {l : List UInt8}, bytesA es = some l → es = l.map fun x => .int .u8 x.toNat
  | [], l, h => by simp only [bytesA, Option.some.injEq] at h; subst h; rfl
  | e :: es, l, h => by
    have ih := @bytesA_spec es
    unfold bytesA at h
    split at h
    · rename_i hq; cases hq
    · rename_i n r hq
      cases hq
      split at h
      · rename_i hn
        cases hb : bytesA es with
        | none => rw [hb] at h; cases h
        | some l' =>
          rw [hb] at h
          cases h
          have hx : (n.toNat : Int) = n := Int.toNat_of_nonneg hn.1
          have hlt : n.toNat < 256 := by omega
          simp only [List.map_cons, List.cons.injEq, AV.int.injEq, true_and]
          refine ⟨?_, ih hb⟩
          rw [UInt8.toNat_ofNat', Nat.mod_eq_of_lt (by simpa using hlt), hx]
      · cases h
    · cases h

theorem byteRow_width : ∀ l : List UInt8, allWidth 1 (l.map fun x => AV.int .u8 x.toNat) = true
  | [] => rfl
  | x :: l => by simp only [List.map_cons, allWidth, AV.width, byteRow_width l]; rfl
theorem byteRow_flat : ∀ l : List UInt8, (l.map fun x => AV.int .u8 x.toNat).flatMap AV.cells = l.map fun x => AV.int .u8 x.toNat
  | [] => rfl
  | x :: l => by simp only [List.map_cons, List.flatMap_cons, AV.cells, byteRow_flat l]; rfl

/-- A row of bytes as a string. -/
theorem bytes_back_sound (hs : Sim P B W0 H σ w) {s d : TypeId} {o : Own} {e0 : AV} {es : List AV} {u : Value} {v : AV} {H' : AHeap} (r : Rep σ (.vec o (e0 :: es)) u)
    (h : (if isStrQ P d = true ∧ bytesQ P s = true then bnd (bytesA (e0 :: es)) fun l => some (.str l, H) else none) = some (v, H')) :
    UponA P ((do pure (Next.value (← Go.convert s d u)) : Sem Next).run P w) (Goes P B W0 σ v H') := by
  split at h
  · rename_i hc
    obtain ⟨h1, h2⟩ := hc
    cases hb : bytesA (e0 :: es) with
    | none => simp [hb, bnd] at h
    | some l =>
      simp only [hb, bnd, Option.some.injEq, Prod.mk.injEq] at h
      obtain ⟨rfl, rfl⟩ := h
      unfold bytesQ at h2
      split at h2
      · rename_i et het
        simp only [Bool.and_eq_true, beq_iff_eq] at h2
        obtain ⟨h2, hsz⟩ := h2
        have hu8 : P.underlying et = some (.int .u8) := by
          split at h2
          · rename_i e; exact e
          · cases h2
        have hes := bytesA_spec hb
        have hw : allWidth 1 (e0 :: es) = true := by rw [hes]; exact byteRow_width l
        obtain ⟨a, cap, us, rfl, _, _, r2, _, hc2, hne, _⟩ := vec_cells hs r hw
        obtain ⟨ad, rfl⟩ : ∃ ad, a = some ad := by
          cases a with
          | none => have := hne rfl; simp at this
          | some ad => exact ⟨ad, rfl⟩
        have hlen : (e0 :: es).length = l.length := by rw [hes]; simp
        have hfl : (e0 :: es).flatMap AV.cells = e0 :: es := by rw [hes]; exact byteRow_flat l
        rw [hfl] at r2
        have hrun := run_convert_bytes_back (P := P) w s d et ad cap l (elemQ_spec het) hu8 (isStrQ_spec h1) (fun j hj => by
          have hje : (e0 :: es)[j]? = some (.int .u8 l[j].toNat) := by rw [hes]; simp [hj]
          obtain ⟨u, hu, ru⟩ := r2.get hje
          simp only [Rep] at ru
          subst ru
          exact hc2 ad rfl j _ hu)
        rw [hlen]
        simp only [Sem.run_bind, hrun, Result.andThen_ok, Sem.run_pure, UponA]
        exact ⟨σ, Ext.refl _ _, hs, by simp [Rep]⟩
      · cases h2
  · cases h

/-- What one operation does, against the model. -/
theorem stepOp_sound {E : Env} (hs : Sim E.P B W0 H σ w) (hc : CallOk E.P call) (o : Oper) (ρa : Operand → AV) (ρ : Operand → Value) (hρ : ∀ x ∈ o.op.operands, Rep σ (ρa x) (ρ x)) {v : AV} {H' : AHeap}
    (h : stepOp E call o.op ρa H = some (v, H')) : UponA E.P ((execOp ρ o).run E.P w) (Goes E.P B W0 σ v H') := by
  have pure_case : ∀ {v : AV}, pureOp E.P o.op ρa H = some v → UponA E.P ((execOp ρ o).run E.P w) (Goes E.P B W0 σ v H) := fun {v} hp => by
    obtain ⟨u, hu, ru⟩ := pureOp_sound hs o ρa ρ hρ hp
    rw [hu]
    exact ⟨σ, Ext.refl _ _, hs, ru⟩
  have pure_bnd : ∀ {v : AV} {H' : AHeap}, (bnd (pureOp E.P o.op ρa H) fun v => some (v, H)) = some (v, H') → UponA E.P ((execOp ρ o).run E.P w) (Goes E.P B W0 σ v H') := fun {v H'} hb => by
    cases hp : pureOp E.P o.op ρa H with
    | none => simp [hp, bnd] at hb
    | some v0 =>
      simp only [hp, bnd, Option.some.injEq, Prod.mk.injEq] at hb
      obtain ⟨rfl, rfl⟩ := hb
      exact pure_case hp
  obtain ⟨dst, op, ty, pos, after, guard⟩ := o
  simp only at h hρ pure_bnd
  cases op
  case alloc t => simp only [stepOp] at h; simp only [execOp]; exact alloc_sound hs h
  case box t x => simp only [stepOp] at h; simp only [execOp]; exact box_sound hs (hρ x (by simp [Op.operands])) h
  case store t a x => simp only [stepOp] at h; simp only [execOp]; exact store_sound hs (hρ a (by simp [Op.operands])) (hρ x (by simp [Op.operands])) h
  case buildSlice t len parts =>
    simp only [stepOp] at h
    refine buildSlice_exec hs h fun p hp => hρ p.2 ?_
    simp only [Op.operands]
    simp
    exact ⟨p.1, by simpa using hp⟩
  case convert src dst x =>
    simp only [stepOp] at h
    have rx := hρ x (by simp [Op.operands])
    unfold convOp at h
    split at h
    · rename_i l hx
      rw [hx] at rx
      simp only [execOp]
      exact bytes_sound hs rx h
    · rename_i o e0 es hx
      rw [hx] at rx
      simp only [execOp]
      exact bytes_back_sound hs rx h
    · rename_i v hv _
      refine pure_bnd ?_
      simpa only [pureOp] using h
  case makeSlice t l c => simp only [stepOp] at h; simp only [execOp]; exact makeSlice_sound hs (hρ l (by simp [Op.operands])) (hρ c (by simp [Op.operands])) h
  case makeMap t r =>
    simp only [stepOp] at h
    cases r with
    | none => simp only [Option.some.injEq] at h; simp only [execOp]; have := makeMap_sound hs t; rw [h] at this; exact this
    | some _ => simp at h
  case mapUpdate t m k x => simp only [stepOp] at h; simp only [execOp]; exact mapUpdate_sound hs (hρ m (by simp [Op.operands])) (hρ k (by simp [Op.operands])) (hρ x (by simp [Op.operands])) h
  case insert t m k x => simp only [stepOp] at h; simp only [execOp]; exact mapUpdate_sound hs (hρ m (by simp [Op.operands])) (hρ k (by simp [Op.operands])) (hρ x (by simp [Op.operands])) h
  case call c =>
    simp only [stepOp] at h
    have hargs : RepL σ (c.args.toList.map ρa) (c.args.toList.map ρ) :=
      RepL.map _ _ _ fun x hx => hρ x (by
        simp only [Op.operands, Call.operands]
        exact Array.mem_append.2 (.inr (by simpa using hx)))
    unfold stepCall at h
    split at h
    · rename_i x hcal
      have rx : Rep σ (ρa x) (ρ x) := hρ x (by simp [Op.operands, Call.operands, hcal])
      unfold callA at h
      split at h
      · rename_i f first cap ht
        obtain ⟨us, vs, hu, r1, r2⟩ := target_spec ht rx
        have hall := (r1.append hargs).append r2
        split at h
        · cases hcl : closedCall E.P call f (first ++ c.args.toList.map ρa ++ cap) with
          | none => simp only [hcl, bnd, reduceCtorEq] at h
          | some v0 =>
            simp only [hcl, bnd, Option.some.injEq, Prod.mk.injEq] at h
            obtain ⟨rfl, rfl⟩ := h
            obtain ⟨h1, h2⟩ := closed_sound hs hc hall hcl
            rw [call_run rfl hcal hu h1]
            exact h2
        · obtain ⟨h1, h2⟩ := hc _ _ _ _ _ h
          rw [call_run rfl hcal hu h1]
          exact h2 B W0 σ w _ hs hall
      · cases h
    · rename_i hcal
      unfold appendOp at h
      split at h
      · rename_i x y t1 t2 hxy htt
        rw [hxy] at hargs
        rw [RepL.cons_iff] at hargs
        obtain ⟨u, us', e1, rx, q⟩ := hargs
        rw [RepL.cons_iff] at q
        obtain ⟨u2, us2, rfl, ry, q2⟩ := q
        rw [RepL.nil_iff] at q2
        subst q2
        have := append_sound (ty := ty) hs rx ry h
        have ea : c.args.map ρ = #[u, u2] := by apply Array.ext'; simp [e1]
        have et : c.argTypes = #[t1, t2] := by apply Array.ext'; simp [htt]
        simpa [execOp, resolve, hcal, invoke, builtin, ea, et] using this
      · cases h
    · rename_i hcal
      have := delete_sound (ty := ty) (us := c.args.map ρ) hs (by simpa only [Array.toList_map] using hargs) h
      simpa [execOp, resolve, hcal, invoke, builtin] using this
    · rename_i hcal
      have := clear_sound (ty := ty) (us := c.args.map ρ) hs (by simpa only [Array.toList_map] using hargs) h
      simpa [execOp, resolve, hcal, invoke, builtin] using this
    · rename_i hcal
      have := len_sound (ty := ty) (us := c.args.map ρ) hs (by simpa only [Array.toList_map] using hargs) h
      simpa [execOp, resolve, hcal, invoke, builtin] using this
    · exact pure_bnd h
  all_goals (simp only [stepOp] at h; with_reducible exact pure_bnd h)

end
end Go.Ab
