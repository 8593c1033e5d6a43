/- The abstract machine itself: all operations, regions, code, functions. Definitions alone. -/

import Derived.Test.YtkpnccaoolbeeaaGreatDoorAc6
namespace Go.Ab
set_option linter.unusedVariables false
open Go

/-- Nothing in it hangs on where a block of the caller's lies. -/
def AV.noPtr : AV → Bool
  | .agg cs => go cs
  | .tup cs => go cs
  | .vec o es => (match o with | .own _ => false | _ => true) && go es
  | .ptr _ _ => false
  | .sl _ _ _ _ => false
  | .map _ => false
  | .rptr cs => go cs
  | .fn _ first cap => go first && go cap
  | .iface _ v => v.noPtr
  | _ => true
where go : List AV → Bool
  | [] => true
  | c :: cs => c.noPtr && go cs


def bnd {α β : Type} (x : Option α) (f : α → Option β) : Option β := match x with | some a => f a | none => none
def sel {α : Type} (c : Bool) (x y : α) : α := if c then x else y

def mapO {α β : Type} (f : α → Option β) : List α → Option (List β)
  | [] => some []
  | x :: r => bnd (f x) fun y => bnd (mapO f r) fun ys => some (y :: ys)

def allOne : List AV → Bool
  | [] => true
  | c :: cs => c.one && allOne cs

/-- A row's cells, an element at a time. -/
def chunkA (agg : Bool) (s : Nat) : Nat → List AV → List AV
  | 0, _ => []
  | n + 1, cs => (if agg then .agg (cs.take s) else cs.headD .junk) :: chunkA agg s n (cs.drop s)

/-- A value without pointers, where nobody writes the memory any more. -/
def frz (P : Program) (H : AHeap) : Nat → AV → Option AV
  | 0, _ => none
  | n + 1, v => match v with
    | .agg cs => bnd (mapO (frz P H n) cs) fun ds => some (.agg ds)
    | .tup cs => bnd (mapO (frz P H n) cs) fun ds => some (.tup ds)
    | .vec o es => bnd (mapO (frz P H n) es) fun ds => some (.vec o.bare ds)
    | .rptr cs => bnd (mapO (frz P H n) cs) fun ds => some (.rptr ds)
    | .fn f a b => bnd (mapO (frz P H n) a) fun a' => bnd (mapO (frz P H n) b) fun b' => some (.fn f a' b')
    | .iface t x => bnd (frz P H n x) fun y => some (.iface t y)
    | .ptr id off => match H.get id with
      | some (.cells _ cs) => if allOne (cs.drop off) = true then bnd (mapO (frz P H n) (cs.drop off)) fun ds => some (.rptr ds) else none
      | some (.row _ _ _ cs) => bnd (mapO (frz P H n) (cs.drop off)) fun ds => some (.rptr ds)
      | _ => none
    | .sl id s off len => match H.get id with
      | some (.row m et s' cs) => match aggQ P et with
        | some g => if s' = s ∧ off + len ≤ m ∧ (g = true ∨ s = 1) then bnd (mapO (frz P H n) (chunkA g s len (cs.drop (off * s)))) fun ds => some (.vec .ro ds) else none
        | none => none
      | _ => none
    | .map _ => none
    | v => some v

abbrev CallO := FuncId → List AV → AHeap → Option (AV × AHeap)
abbrev Frm := Nat → AV

def undefA : AV := .val (.tuple #[])

def ev (α : Frm) : Operand → AV
  | .tmp t => α t
  | .const v => ofV v
  | .global g => .val (.pointer (some ⟨g, 0, none⟩))
  | .func f => .fn (.func f) [] []

def put (α : Frm) (dst : Option Tmp) (v : AV) : Frm :=
  match dst with
  | some d => fun i => if i = d then v else α i
  | none => α

structure Env where
  P : Program
  /-- The functions whose text is run here. -/
  G : FuncId → Bool
  /-- The functions that neither take nor give pointers: they are run in a memory of their own. -/
  cl : FuncId → Bool
  /-- The slices of these types may be written where they stand. -/
  mutT : TypeId → Bool
  /-- These functions defer one closure's call. -/
  df : FuncId → Bool
  /-- The regions of these numbers are looked at while they run. -/
  dyn : Nat → Bool
  /-- The others, by contracts. -/
  ext : CallO

/-- A call in a memory of its own. -/
def closedCall (P : Program) (call : CallO) (f : FuncId) (args : List AV) : Option AV :=
  if AV.noPtr.go (args.map AV.erase) = true then
    match call f (args.map AV.erase) .empty with
    | some (v, H) => if v.erase.noPtr = true then some v.erase else bnd (frz P H 100 v) fun v' => if v'.noPtr = true then some v' else none
    | none => none
  else none

/-- The function that is called, and what is put ahead of the arguments and behind them. -/
def target : AV → Option (FuncId × List AV × List AV)
  | .fn (.func f) first cap => some (f, first, cap)
  | _ => none

def allWidth (n : Nat) : List AV → Bool
  | [] => true
  | c :: cs => (c.width == some n) && allWidth n cs

def allOneL : List AV → Bool
  | [] => true
  | c :: cs => allOne c.cells && allOneL cs

def storeA (P : Program) (t : TypeId) (a x : AV) (H : AHeap) : Option (AV × AHeap) :=
  match a with
  | .ptr id off => match H.get id with
    | some (.cells te cs) =>
      if szQ P t = x.width ∧ x.width ≠ none ∧ off + x.cells.length ≤ cs.length ∧ allOne x.cells = true then some (undefA, H.set id (.cells te (overlay cs off x.cells))) else none
    | some (.row n et s cs) =>
      if szQ P t = x.width ∧ x.width ≠ none ∧ off + x.cells.length ≤ cs.length ∧ allOne x.cells = true then some (undefA, H.set id (.row n et s (overlay cs off x.cells))) else none
    | _ => none
  | _ => none

def allocA (P : Program) (t : TypeId) (H : AHeap) : Option (AV × AHeap) :=
  match zeroQ P t with
  | some z => some (.ptr H.next 0, H.push (.cells (some t) z))
  | none => none

def boxA (x : AV) (H : AHeap) : Option (AV × AHeap) :=
  if x.width ≠ none then some (.ptr H.next 0, H.push (.cells none x.cells)) else none

/-- Elements one behind the other: 0, 1, 2 .. -/
def inOrder : Nat → List (Nat × AV) → Bool
  | _, [] => true
  | n, (i, _) :: r => (i == n) && inOrder (n + 1) r

def buildSliceA (P : Program) (t : TypeId) (len : Nat) (parts : List (Nat × AV)) (H : AHeap) : Option (AV × AHeap) :=
  match elemQ P t with
  | some et => match szQ P et, zeroQ P et with
    | some s, some z =>
      if parts.length = len ∧ inOrder 0 parts = true ∧ allWidth s (parts.map fun p => p.2.erase) = true ∧ allOneL (parts.map fun p => p.2.erase) = true ∧ s ≠ 0 ∧ z.length = s ∧ len * s ≤ 16777216 then
        some (.vec .full (parts.map fun p => p.2.erase), H)
      else none
    | _, _ => none
  | none => none

/-- What is appended: so many elements, and their cells. -/
def srcA (P : Program) (H : AHeap) (s : Nat) : AV → Option (Nat × List AV)
  | .vec _ fs => if allWidth s fs = true then some (fs.length, fs.flatMap AV.cells) else none
  | .sl id s' off len => match H.get id with
    | some (.row m _ s2 cs) => if s' = s ∧ off + len ≤ m ∧ s2 = s then some (len, (cs.drop (off * s)).take (len * s)) else none
    | _ => none
  | .val v => if isES v = true then some (0, []) else none
  | _ => none

/-- Appending so many elements, with these cells, to a row that may be written. -/
def appendSrc (et s by_ : Nat) (x : AV) (m : Nat) (src : List AV) (H : AHeap) : Option (AV × AHeap) :=
    match x with
    | .vec o es =>
      if m = 0 then some (x, H) else
      match o with
      | .own _ => none
      | .ro => none
      | _ => if allWidth s es = true ∧ (es.length + m) * by_ ≤ 140737488355328 ∧ es.length + m ≤ 9223372036854775807 then some (.sl H.next s 0 (es.length + m), H.push (.row (es.length + m) et s (es.flatMap AV.cells ++ src))) else none
    | .sl id s' off len =>
      if m = 0 then some (x, H) else
      match H.get id with
      | some (.row n et' s2 cs) =>
        if s' = s ∧ et' = et ∧ s2 = s ∧ off = 0 ∧ len ≤ n ∧ (len + m) * by_ ≤ 140737488355328 ∧ len + m ≤ 9223372036854775807 then some (.sl H.next s 0 (len + m), (H.del id).push (.row (len + m) et s (cs.take (len * s) ++ src)))
        else none
      | _ => none
    | _ => none

/-- Appending to a row that may be written. -/
def appendRow (P : Program) (et s by_ : Nat) (x y : AV) (H : AHeap) : Option (AV × AHeap) :=
  match srcA P H s y with
  | none => none
  | some (m, src) => appendSrc et s by_ x m src H

/-- Appending where nobody writes what is there. -/
def appendVec (P : Program) (t1 : TypeId) (et by_ : Nat) (o : Own) (es fs : List AV) (H : AHeap) : Option (AV × AHeap) :=
  if strideQ P t1 es = true ∧ strideQ P t1 fs = true ∧ (es.length + fs.length) * by_ ≤ 140737488355328 ∧ es.length + fs.length ≤ 9223372036854775807 then
    match o with
    | .nil => if es.length = 0 then (if fs.length = 0 then some (.vec .nil [], H) else some (.vec (.own H.next) fs, H.push (.tip fs.length et))) else none
    | .full => if fs.length = 0 then some (.vec .full es, H) else some (.vec (.own H.next) (es ++ fs), H.push (.tip (es.length + fs.length) et))
    | .own k => match H.get k with
      | some (.tip n et') => if n = es.length ∧ et' = et then some (.vec (.own k) (es ++ fs), H.set k (.tip (es.length + fs.length) et)) else none
      | _ => none
    | .ro => if fs.length = 0 then some (.vec .ro es, H) else none
  else none

/-- Is it to be appended where nobody writes what is there? -/
def persist (mutT : TypeId → Bool) (t : TypeId) (x y : AV) : Option (Own × List AV × List AV) :=
  match x, y with
  | .vec o es, .vec _ fs => match o with
    | .nil => if mutT t = true then none else some (.nil, es, fs)
    | .full => if mutT t = true then none else some (.full, es, fs)
    | o => some (o, es, fs)
  | _, _ => none

/-- The bytes' slices. -/
def bytesQ (P : Program) (d : TypeId) : Bool := match elemQ P d with
  | some et => (match P.underlying et with | some (.int .u8) => true | _ => false) && szQ P et == some 1
  | none => false

/-- A string's bytes behind a slice's. -/
def appendStr (P : Program) (t1 t2 et s by_ : Nat) (x : AV) (l : List UInt8) (H : AHeap) : Option (AV × AHeap) :=
  if bytesQ P t1 = true ∧ isStrQ P t2 = true ∧ s = 1 then appendSrc et s by_ x l.length (l.map fun b => .int .u8 b.toNat) H else none

def appendA (mutT : TypeId → Bool) (P : Program) (t1 t2 : TypeId) (x y : AV) (H : AHeap) : Option (AV × AHeap) :=
  match elemQ P t1 with
  | some et => match szQ P et, byQ P et, zeroQ P et with
    | some s, some by_, some z =>
      match y with
      | .str l => if s ≠ 0 ∧ z.length = s then appendStr P t1 t2 et s by_ x l H else none
      | y =>
      if t1 = t2 ∧ s ≠ 0 ∧ z.length = s then
        match persist mutT t1 x y with
        | some (o, es, fs) => appendVec P t1 et by_ o es fs H
        | none => appendRow P et s by_ x y H
      else none
    | _, _, _ => none
  | none => none

def makeSliceA (P : Program) (t : TypeId) (len cap : AV) (H : AHeap) : Option (AV × AHeap) :=
  match len, cap, elemQ P t with
  | .int _ n, .int _ m, some et =>
    match szQ P et, byQ P et, zeroQ P et with
    | some s, some by_, some z => if n = m ∧ 0 ≤ n ∧ n ≤ 16777216 ∧ s ≠ 0 ∧ z.length = s ∧ allOne z = true ∧ n.toNat * by_ ≤ 140737488355328 then some (.sl H.next s 0 n.toNat, H.push (.row n.toNat et s (List.replicate n.toNat z).flatten)) else none
    | _, _, _ => none
  | _, _, _ => none

def makeMapA (H : AHeap) : AV × AHeap := (.map H.next, H.push (.map [] 0))

def setAt (es : List (AV × AV × Nat)) (i : Nat) (k v : AV) : List (AV × AV × Nat) := es.take i ++ (match es[i]? with | some (_, _, b) => [(k, v, b)] | none => []) ++ es.drop (i + 1)

def mapUpdateA (P : Program) (t : TypeId) (m k v : AV) (H : AHeap) : Option (AV × AHeap) :=
  match m with
  | .map id => match H.get id with
    | some (.map es clock) => match mapQ P t with
      | some (kt, et) => if keyOkA P kt k = true ∧ szQ P et = v.width ∧ v.width ≠ none then
          match findA k es 0 with
          | some (some (i, _)) => some (undefA, H.set id (.map (setAt es i k v) clock))
          | some none => some (undefA, H.set id (.map (es ++ [(k, v, clock)]) (clock + 1)))
          | none => none
        else none
      | none => none
    | _ => none
  | _ => none

def callA (E : Env) (call : CallO) (f : AV) (args : List AV) (H : AHeap) : Option (AV × AHeap) :=
  match target f with
  | some (f, first, cap) =>
    if E.cl f = true then bnd (closedCall E.P call f (first ++ args ++ cap)) fun v => some (v, H)
    else call f (first ++ args ++ cap) H
  | none => none

def appendOp (mutT : TypeId → Bool) (P : Program) (tys : List TypeId) (args : List AV) (H : AHeap) : Option (AV × AHeap) :=
  match args, tys with
  | [x, y], [t1, t2] => appendA mutT P t1 t2 x y H
  | _, _ => none

/-- A map is asked how many entries it has? -/
def mapT (P : Program) (tys : Array TypeId) : Bool := match tys[0]? with
  | some t => (mapQ P t).isSome
  | none => false

/-- How long: a map's entries are counted in the memory. -/
def lenOp (P : Program) (tys : Array TypeId) (args : List AV) (H : AHeap) : Option (AV × AHeap) :=
  match args with
  | [.map id] => if mapT P tys = true then match H.get id with | some (.map es _) => some (.int .i64 es.length, H) | _ => none else none
  | args => bnd (lenA P tys args) fun v => some (v, H)

/-- delete(m, k). -/
def deleteOp (P : Program) (tys : Array TypeId) (args : List AV) (H : AHeap) : Option (AV × AHeap) :=
  match args with
  | [.map id, k] => match tys[0]? with
    | some t => match mapQ P t with
      | some (kt, _) => match H.get id with
        | some (.map es clock) => if keyOkA P kt k = true then
            match findA k es 0 with
            | some (some (i, _)) => some (undefA, H.set id (.map (es.eraseIdx i) clock))
            | some none => some (undefA, H)
            | none => none
          else none
        | _ => none
      | none => none
    | none => none
  | _ => none

/-- clear(s), of a slice that may be written. -/
def clearOp (P : Program) (tys : Array TypeId) (args : List AV) (H : AHeap) : Option (AV × AHeap) :=
  match args with
  | [.vec _ []] => match tys[0]? with
    | some t => if elemQ P t ≠ none then some (undefA, H) else none
    | none => none
  | [.sl id s off len] => match tys[0]? with
    | some t => match elemQ P t with
      | some e => match zeroQ P e, H.get id with
        | some z, some (.row n et s2 cs) => if s2 = s ∧ z.length = s ∧ off + len ≤ n ∧ len ≠ 0 ∧ allOne z = true then some (undefA, H.set id (.row n et s2 (overlay cs (off * s) (List.replicate len z).flatten))) else none
        | _, _ => none
      | none => none
    | none => none
  | _ => none

def stepCall (E : Env) (call : CallO) (c : Call) (ρ : Operand → AV) (H : AHeap) : Option (AV × AHeap) :=
  match c.callee with
  | .value f => callA E call (ρ f) (c.args.toList.map ρ) H
  | .builtin .append => appendOp E.mutT E.P c.argTypes.toList (c.args.toList.map ρ) H
  | .builtin .delete => deleteOp E.P c.argTypes (c.args.toList.map ρ) H
  | .builtin .clear => clearOp E.P c.argTypes (c.args.toList.map ρ) H
  | .builtin .len => lenOp E.P c.argTypes (c.args.toList.map ρ) H
  | _ => bnd (pureOp E.P (.call c) ρ H) fun v => some (v, H)

/-- A row of bytes. -/
def bytesA : List AV → Option (List UInt8)
  | [] => some []
  | .int .u8 n :: r => if 0 ≤ n ∧ n < 256 then bnd (bytesA r) fun l => some (UInt8.ofNat n.toNat :: l) else none
  | _ :: _ => none

/-- A string as bytes; all else as ever. -/
def convOp (P : Program) (s d : TypeId) (v : AV) (H : AHeap) : Option (AV × AHeap) :=
  match v with
  | .str l => if isStrQ P s = true ∧ bytesQ P d = true ∧ l.length ≤ 1099511627776 then some (.vec .ro (l.map fun b => .int .u8 b.toNat), H) else none
  | .vec _ (e :: es) => if isStrQ P d = true ∧ bytesQ P s = true then bnd (bytesA (e :: es)) fun l => some (.str l, H) else none
  | v => bnd (convA P s d v) fun u => some (u, H)

def stepOp (E : Env) (call : CallO) (op : Op) (ρ : Operand → AV) (H : AHeap) : Option (AV × AHeap) :=
  match op with
  | .alloc t => allocA E.P t H
  | .box _ x => boxA (ρ x) H
  | .store t a x => storeA E.P t (ρ a) (ρ x) H
  | .makeSlice t len cap => makeSliceA E.P t (ρ len) (ρ cap) H
  | .convert s d x => convOp E.P s d (ρ x) H
  | .makeMap _ r => match r with | none => some (makeMapA H) | some _ => none
  | .mapUpdate t m k v => mapUpdateA E.P t (ρ m) (ρ k) (ρ v) H
  | .insert t m k v => mapUpdateA E.P t (ρ m) (ρ k) (ρ v) H
  | .buildSlice t len parts => buildSliceA E.P t len (parts.toList.map fun p => (p.1, ρ p.2)) H
  | .call c => stepCall E call c ρ H
  | op => bnd (pureOp E.P op ρ H) fun v => some (v, H)

/-- What an operation asks of the memory: nothing; it reads; it writes. -/
inductive Kd where
  | ins
  | rd
  | wr
  deriving DecidableEq

def kdOf (E : Env) (o : Op) : Kd :=
  match o with
  | .load _ _ => .rd
  | .lookup _ _ _ _ => .rd
  | .alloc _ => .wr
  | .box _ _ => .wr
  | .store _ _ _ => .wr
  | .makeSlice _ _ _ => .wr
  | .makeMap _ _ => .wr
  | .mapUpdate _ _ _ _ => .wr
  | .insert _ _ _ _ => .wr
  | .call c =>
    match c.callee with
    | .value (.func f) => if E.cl f = true then .ins else .wr
    | .value _ => .wr
    | .builtin .append => .wr
    | .builtin .delete => .wr
    | .builtin .clear => .wr
    | .builtin .len => if mapT E.P c.argTypes = true then .rd else .ins
    | _ => .ins
  | _ => .ins

def sameVal : Value → Value → Bool
  | .pointer a, v => match v with | .pointer b => a.isNone && b.isNone | _ => false
  | .nilIface, v => match v with | .nilIface => true | _ => false
  | .nilFunc, v => match v with | .nilFunc => true | _ => false
  | .map a, v => match v with | .map b => a.isNone && b.isNone | _ => false
  | _, _ => false

def sameFn : Fn → Fn → Bool
  | .func f, g => match g with | .func f' => f == f' | _ => false
  | _, _ => false

def sameOwn : Own → Own → Bool
  | .ro, .ro => true
  | .nil, .nil => true
  | .full, .full => true
  | .own a, .own b => a == b
  | _, _ => false

mutual
def sameAV : AV → AV → Bool
  | .int k a, v => match v with | .int k' b => decide (k = k') && a == b | _ => false
  | .bool a, v => match v with | .bool b => a == b | _ => false
  | .str a, v => match v with | .str b => a == b | _ => false
  | .agg xs, v => match v with | .agg ys => sameL xs ys | _ => false
  | .tup xs, v => match v with | .tup ys => sameL xs ys | _ => false
  | .ptr a b, v => match v with | .ptr c d => a == c && b == d | _ => false
  | .sl a b c d, v => match v with | .sl a' b' c' d' => a == a' && b == b' && c == c' && d == d' | _ => false
  | .map a, v => match v with | .map b => a == b | _ => false
  | .rptr xs, v => match v with | .rptr ys => sameL xs ys | _ => false
  | .vec o xs, v => match v with | .vec o' ys => sameOwn o o' && sameL xs ys | _ => false
  | .val a, v => match v with | .val b => sameVal a b | _ => false
  | .fn f a b, v => match v with | .fn g c d => sameFn f g && sameL a c && sameL b d | _ => false
  | .junk, _ => false
  | .any, v => match v with | .any => true | _ => false
  | .iface _ _, _ => false
def sameL : List AV → List AV → Bool
  | [], ys => match ys with | [] => true | _ => false
  | x :: xs, ys => match ys with | y :: ys => sameAV x y && sameL xs ys | [] => false
end

/-- Does operation j come behind operation k, in every order? -/
def behind (ops : Array Oper) : Nat → Nat → Nat → Bool
  | 0, _, _ => false
  | n + 1, j, k => match ops[j]? with
    | some o => o.after.any fun e => Region.binds .any e && (e.on == k || behind ops n e.on k)
    | none => false

/-- A read gives the same value here. -/
def reads (E : Env) (call : CallO) (o : Oper) (α : Frm) (v : AV) (H : AHeap) : Bool :=
  match stepOp E call o.op (ev α) H with
  | some (u, _) => sameAV u v
  | none => false

def wantedA (ops : Array Oper) (g : Option (Nat × Bool)) (α : Frm) : Option Bool :=
  match g with
  | none => some true
  | some (j, b) => match (ops[j]?).bind (·.dst) with
    | some d => match α d with
      | .bool c => some (c == b)
      | .val (.tuple _) => some false
      | _ => none
    | none => none

def execOps (E : Env) (call : CallO) (all : Array Oper) : List Oper → Frm → AHeap → Option (Frm × AHeap)
  | [], α, H => some (α, H)
  | o :: rest, α, H =>
    bnd (wantedA all o.guard α) fun b =>
      sel b (bnd (stepOp E call o.op (ev α) H) fun r => execOps E call all rest (put α o.dst r.1) r.2)
        (execOps E call all rest (put α o.dst undefA) H)

/-- The same, and each read is looked at again in all memories in which another order may make it. -/
def execOpsD (E : Env) (call : CallO) (all : Array Oper) : Nat → List Oper → List (Nat × Oper × Frm × AV) → List (Nat × AHeap) → Frm → AHeap → Option (Frm × AHeap)
  | _, [], _, _, α, H => some (α, H)
  | k, o :: rest, rs, ws, α, H =>
    bnd (wantedA all o.guard α) fun b =>
      sel b (bnd (stepOp E call o.op (ev α) H) fun r =>
          match kdOf E o.op with
          | .ins => execOpsD E call all (k + 1) rest rs ws (put α o.dst r.1) r.2
          | .rd => sel (ws.all fun w => behind all all.size k w.1 || reads E call o α r.1 w.2) (execOpsD E call all (k + 1) rest ((k, o, α, r.1) :: rs) ws (put α o.dst r.1) r.2) none
          | .wr => sel (rs.all fun q => behind all all.size k q.1 || reads E call q.2.1 q.2.2.1 q.2.2.2 r.2) (execOpsD E call all (k + 1) rest rs ((k, H) :: ws) (put α o.dst r.1) r.2) none)
        (execOpsD E call all (k + 1) rest rs ws (put α o.dst undefA) H)

inductive Ex where
  | normal
  | exit (id : Nat)
  | ret

abbrev Res := Ex × Frm × AHeap

/-- What follows behind a piece of code that may have left. -/
def andThen (r : Res) (f : Frm → AHeap → Option Res) : Option Res :=
  match r with
  | (.normal, α, H) => f α H
  | r => some r

def unblock (id : Nat) (r : Res) : Res :=
  match r with
  | (.exit j, α, H) => if j = id then (.normal, α, H) else (.exit j, α, H)
  | r => r

def loopN (f : Frm → AHeap → Option Res) : Nat → Frm → AHeap → Option Res
  | 0, _, _ => none
  | n + 1, α, H => bnd (f α H) fun r => andThen r (loopN f n)

def condA (α : Frm) (c : Operand) (x y : Option Res) : Option Res :=
  match ev α c with
  | .bool v => sel v x y
  | _ => none

def execC (E : Env) (call : CallO) (loop : (Frm → AHeap → Option Res) → Frm → AHeap → Option Res) : Code → Frm → AHeap → Option Res
  | .skip, α, H => some (.normal, α, H)
  | .region id ops draw, α, H => bnd (sel (draw && E.dyn id) (execOpsD E call ops 0 ops.toList [] [] α H) (execOps E call ops ops.toList α H)) fun r => some (.normal, r.1, r.2)
  | .seq a b, α, H => bnd (execC E call loop a α H) fun r => andThen r (execC E call loop b)
  | .cond c a b, α, H => condA α c (execC E call loop a α H) (execC E call loop b α H)
  | .block id c, α, H => bnd (execC E call loop c α H) fun r => some (unblock id r)
  | .loop c, α, H => loop (execC E call loop c) α H
  | .exit id, α, H => some (.exit id, α, H)
  | .ret, α, H => some (.ret, α, H)
  | _, _, _ => none

def resultsA (P : Program) (α : Frm) (H : AHeap) : List ResultVar → Option (List AV)
  | [] => some []
  | .tmp t :: r => bnd (resultsA P α H r) fun vs => some (α t :: vs)
  | .cell a t :: r => bnd (match α a with | .ptr id off => loadA P H t (.ptr id off) | _ => none) fun v => bnd (resultsA P α H r) fun vs => some (v :: vs)

def tupled : List AV → AV
  | [v] => v
  | vs => .tup vs

def frm0 (args : List AV) : Frm := fun i => (args[i]?).getD undefA

def finish (P : Program) (rs : List ResultVar) (r : Res) : Option (AV × AHeap) :=
  match r with
  | (.exit _, _, _) => none
  | (_, α, H) => bnd (resultsA P α H rs) fun vs => some (tupled vs, H)

def execB (E : Env) (call : CallO) (loop : (Frm → AHeap → Option Res) → Frm → AHeap → Option Res) (f : FuncId) (args : List AV) (H : AHeap) : Option (AV × AHeap) :=
  match E.P.funcs[f]? with
  | some fn => match fn.body with
    | some c => if args.length ≤ fn.ntmps then bnd (execC E call loop c (frm0 args) H) (finish E.P fn.results.toList) else none
    | none => none
  | none => none

/-- A region that makes a closure and defers its call. -/
def isDef : Code → Option (Oper × Oper)
  | .region _ ops draw =>
    match draw, ops.toList with
    | false, [o, d] => match o.op, o.dst, o.guard, d.op, d.guard, d.dst with
      | .makeFunc _ _ _, some t, none, .defer c, none, none => match c.callee with
        | .value (.tmp t') => if t = t' ∧ c.args.toList.isEmpty = true then some (o, d) else none
        | _ => none
      | _, _, _, _, _, _ => none
    | _, _ => none
  | _ => none

/-- A function that defers one closure's call: the frame and the memory behind its text, and the closure. -/
def execDef (E : Env) (call : CallO) (loop : (Frm → AHeap → Option Res) → Frm → AHeap → Option Res) : Code → Frm → AHeap → Option (Res × AV)
  | .seq a b, α, H =>
    match isDef a with
    | some (o, _) => bnd (stepOp E call o.op (ev α) H) fun r => bnd (execC E call loop b (put α o.dst r.1) r.2) fun q => some (q, r.1)
    | none => bnd (execC E call loop a α H) fun r => match r with
      | (.normal, α', H') => execDef E call loop b α' H'
      | _ => none
  | _, _, _ => none

def execBD (E : Env) (call : CallO) (loop : (Frm → AHeap → Option Res) → Frm → AHeap → Option Res) (f : FuncId) (args : List AV) (H : AHeap) : Option (AV × AHeap) :=
  match E.P.funcs[f]? with
  | some fn => match fn.body with
    | some c => if args.length ≤ fn.ntmps then
        bnd (execDef E call loop c (frm0 args) H) fun r =>
          match r.1, target r.2 with
          | (.exit _, _, _), _ => none
          | (_, α, H'), some (g, first, cap) => if E.G g = true ∧ E.df g = false then bnd (call g (first ++ cap) H') fun q => finish E.P fn.results.toList (.ret, α, q.2) else none
          | _, none => none
      else none
    | none => none
  | none => none

def execF (E : Env) : Nat → CallO
  | 0, _, _, _ => none
  | n + 1, f, args, H => if E.G f = true then if E.df f = true then execBD E (execF E n) (fun g => loopN g n) f args H else execB E (execF E n) (fun g => loopN g n) f args H else E.ext f args H

end Go.Ab
