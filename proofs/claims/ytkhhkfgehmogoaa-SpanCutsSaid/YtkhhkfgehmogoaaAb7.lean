/- The abstract machine itself: all operations, regions, code, functions. Definitions alone. -/
import Derived.Test.YtkhhkfgehmogoaaAb6
namespace Go.Ab
set_option linter.unusedVariables false
open Go

/-- Nothing in it hangs on where a block of the caller's lies. -/
def AV.noPtr : AV → Bool
  | .agg cs => go cs
  | .tup cs => go cs
  | .vec o es => (match o with | .own _ => false | _ => true) && go es
  | .ptr _ _ => false
  | .rptr cs => go cs
  | .fn _ first cap => go first && go cap
  | .iface _ v => v.noPtr
  | _ => true
where go : List AV → Bool
  | [] => true
  | c :: cs => c.noPtr && go cs

def bnd {α β : Type} (x : Option α) (f : α → Option β) : Option β := match x with | some a => f a | none => none
def sel {α : Type} (c : Bool) (x y : α) : α := if c then x else y

abbrev CallO := FuncId → List AV → AHeap → Option (AV × AHeap)
abbrev Frm := Nat → AV

def undefA : AV := .val (.tuple #[])

def ev (α : Frm) : Operand → AV
  | .tmp t => α t
  | .const v => ofV v
  | .global g => .val (.pointer (some ⟨g, 0, none⟩))
  | .func f => .fn (.func f) [] []

def put (α : Frm) (dst : Option Tmp) (v : AV) : Frm :=
  match dst with
  | some d => fun i => if i = d then v else α i
  | none => α

structure Env where
  P : Program
  /-- The functions whose text is run here. -/
  G : FuncId → Bool
  /-- The functions that neither take nor give pointers: they are run in a memory of their own. -/
  cl : FuncId → Bool
  /-- The others, by contracts. -/
  ext : CallO

/-- A call in a memory of its own. -/
def closedCall (call : CallO) (f : FuncId) (args : List AV) : Option AV :=
  if AV.noPtr.go (args.map AV.erase) = true then
    match call f (args.map AV.erase) .empty with
    | some (v, _) => if v.erase.noPtr = true then some v.erase else none
    | none => none
  else none

/-- The function that is called, and what is put ahead of the arguments and behind them. -/
def target : AV → Option (FuncId × List AV × List AV)
  | .fn (.func f) first cap => some (f, first, cap)
  | _ => none

def stepPure (E : Env) (call : CallO) (op : Op) (ρ : Operand → AV) (H : AHeap) : Option AV :=
  match op with
  | .call c =>
    match c.callee with
    | .value f =>
      match target (ρ f) with
      | some (f, first, cap) => if E.cl f = true then closedCall call f (first ++ c.args.toList.map ρ ++ cap) else none
      | none => none
    | _ => pureOp E.P (.call c) ρ H
  | op => pureOp E.P op ρ H

def allOne : List AV → Bool
  | [] => true
  | c :: cs => c.one && allOne cs

def allWidth (n : Nat) : List AV → Bool
  | [] => true
  | c :: cs => (c.width == some n) && allWidth n cs

def allOneL : List AV → Bool
  | [] => true
  | c :: cs => allOne c.cells && allOneL cs

def storeA (P : Program) (t : TypeId) (a x : AV) (H : AHeap) : Option (AV × AHeap) :=
  match a with
  | .ptr id off => match H.get id with
    | some (.cells cs) =>
      if szQ P t = x.width ∧ x.width ≠ none ∧ off + x.cells.length ≤ cs.length ∧ allOne x.cells = true then some (undefA, H.set id (.cells (overlay cs off x.cells))) else none
    | _ => none
  | _ => none

def allocA (P : Program) (t : TypeId) (H : AHeap) : Option (AV × AHeap) :=
  match zeroQ P t with
  | some z => some (.ptr H.next 0, H.push (.cells z))
  | none => none

def boxA (x : AV) (H : AHeap) : Option (AV × AHeap) :=
  if x.width ≠ none then some (.ptr H.next 0, H.push (.cells x.cells)) else none

/-- Elements one behind the other: 0, 1, 2 .. -/
def inOrder : Nat → List (Nat × AV) → Bool
  | _, [] => true
  | n, (i, _) :: r => (i == n) && inOrder (n + 1) r

def buildSliceA (P : Program) (t : TypeId) (len : Nat) (parts : List (Nat × AV)) (H : AHeap) : Option (AV × AHeap) :=
  match elemQ P t with
  | some et => match szQ P et, zeroQ P et with
    | some s, some z =>
      if parts.length = len ∧ inOrder 0 parts = true ∧ allWidth s (parts.map fun p => p.2.erase) = true ∧ allOneL (parts.map fun p => p.2.erase) = true ∧ s ≠ 0 ∧ z.length = s ∧ len * s ≤ 16777216 then
        some (.vec (.own H.next) (parts.map fun p => p.2.erase), H.push (.tip len et))
      else none
    | _, _ => none
  | none => none

def appendA (P : Program) (t1 t2 : TypeId) (x y : AV) (H : AHeap) : Option (AV × AHeap) :=
  match x, y with
  | .vec o es, .vec _ fs =>
    match elemQ P t1 with
    | some et => match szQ P et, byQ P et, zeroQ P et with
      | some s, some by_, some z =>
        if t1 = t2 ∧ strideQ P t1 es = true ∧ strideQ P t1 fs = true ∧ s ≠ 0 ∧ z.length = s ∧ (es.length + fs.length) * by_ ≤ 140737488355328 ∧ es.length + fs.length ≤ 9223372036854775807 then
          match o with
          | .nil => if es.length = 0 then (if fs.length = 0 then some (.vec .nil [], H) else some (.vec (.own H.next) fs, H.push (.tip fs.length et))) else none
          | .own k => match H.get k with
            | some (.tip n et') => if n = es.length ∧ et' = et then some (.vec (.own k) (es ++ fs), H.set k (.tip (es.length + fs.length) et)) else none
            | _ => none
          | .ro => if fs.length = 0 then some (.vec .ro es, H) else none
        else none
      | _, _, _ => none
    | none => none
  | _, _ => none

def callA (E : Env) (call : CallO) (f : AV) (args : List AV) (H : AHeap) : Option (AV × AHeap) :=
  match target f with
  | some (f, first, cap) =>
    if E.cl f = true then bnd (closedCall call f (first ++ args ++ cap)) fun v => some (v, H)
    else call f (first ++ args ++ cap) H
  | none => none

def appendOp (P : Program) (tys : List TypeId) (args : List AV) (H : AHeap) : Option (AV × AHeap) :=
  match args, tys with
  | [x, y], [t1, t2] => appendA P t1 t2 x y H
  | _, _ => none

def stepCall (E : Env) (call : CallO) (c : Call) (ρ : Operand → AV) (H : AHeap) : Option (AV × AHeap) :=
  match c.callee with
  | .value f => callA E call (ρ f) (c.args.toList.map ρ) H
  | .builtin .append => appendOp E.P c.argTypes.toList (c.args.toList.map ρ) H
  | _ => bnd (pureOp E.P (.call c) ρ H) fun v => some (v, H)

def stepOp (E : Env) (call : CallO) (op : Op) (ρ : Operand → AV) (H : AHeap) : Option (AV × AHeap) :=
  match op with
  | .alloc t => allocA E.P t H
  | .box _ x => boxA (ρ x) H
  | .store t a x => storeA E.P t (ρ a) (ρ x) H
  | .buildSlice t len parts => buildSliceA E.P t len (parts.toList.map fun p => (p.1, ρ p.2)) H
  | .call c => stepCall E call c ρ H
  | op => bnd (pureOp E.P op ρ H) fun v => some (v, H)

def wantedA (ops : Array Oper) (g : Option (Nat × Bool)) (α : Frm) : Option Bool :=
  match g with
  | none => some true
  | some (j, b) => match (ops[j]?).bind (·.dst) with
    | some d => match α d with
      | .bool c => some (c == b)
      | .val (.tuple _) => some false
      | _ => none
    | none => none

def execOps (E : Env) (call : CallO) (all : Array Oper) : List Oper → Frm → AHeap → Option (Frm × AHeap)
  | [], α, H => some (α, H)
  | o :: rest, α, H =>
    bnd (wantedA all o.guard α) fun b =>
      sel b (bnd (stepOp E call o.op (ev α) H) fun r => execOps E call all rest (put α o.dst r.1) r.2)
        (execOps E call all rest (put α o.dst undefA) H)

inductive Ex where
  | normal
  | exit (id : Nat)
  | ret

abbrev Res := Ex × Frm × AHeap

/-- What follows behind a piece of code that may have left. -/
def andThen (r : Res) (f : Frm → AHeap → Option Res) : Option Res :=
  match r with
  | (.normal, α, H) => f α H
  | r => some r

def unblock (id : Nat) (r : Res) : Res :=
  match r with
  | (.exit j, α, H) => if j = id then (.normal, α, H) else (.exit j, α, H)
  | r => r

def loopN (f : Frm → AHeap → Option Res) : Nat → Frm → AHeap → Option Res
  | 0, _, _ => none
  | n + 1, α, H => bnd (f α H) fun r => andThen r (loopN f n)

def condA (α : Frm) (c : Operand) (x y : Option Res) : Option Res :=
  match ev α c with
  | .bool v => sel v x y
  | _ => none

def execC (E : Env) (call : CallO) (loop : (Frm → AHeap → Option Res) → Frm → AHeap → Option Res) : Code → Frm → AHeap → Option Res
  | .skip, α, H => some (.normal, α, H)
  | .region _ ops _, α, H => bnd (execOps E call ops ops.toList α H) fun r => some (.normal, r.1, r.2)
  | .seq a b, α, H => bnd (execC E call loop a α H) fun r => andThen r (execC E call loop b)
  | .cond c a b, α, H => condA α c (execC E call loop a α H) (execC E call loop b α H)
  | .block id c, α, H => bnd (execC E call loop c α H) fun r => some (unblock id r)
  | .loop c, α, H => loop (execC E call loop c) α H
  | .exit id, α, H => some (.exit id, α, H)
  | .ret, α, H => some (.ret, α, H)
  | _, _, _ => none

def resultsA (P : Program) (α : Frm) (H : AHeap) : List ResultVar → Option (List AV)
  | [] => some []
  | .tmp t :: r => bnd (resultsA P α H r) fun vs => some (α t :: vs)
  | .cell a t :: r => bnd (match α a with | .ptr id off => loadA P H t (.ptr id off) | _ => none) fun v => bnd (resultsA P α H r) fun vs => some (v :: vs)

def tupled : List AV → AV
  | [v] => v
  | vs => .tup vs

def frm0 (args : List AV) : Frm := fun i => (args[i]?).getD undefA

def finish (P : Program) (rs : List ResultVar) (r : Res) : Option (AV × AHeap) :=
  match r with
  | (.exit _, _, _) => none
  | (_, α, H) => bnd (resultsA P α H rs) fun vs => some (tupled vs, H)

def execB (E : Env) (call : CallO) (loop : (Frm → AHeap → Option Res) → Frm → AHeap → Option Res) (f : FuncId) (args : List AV) (H : AHeap) : Option (AV × AHeap) :=
  match E.P.funcs[f]? with
  | some fn => match fn.body with
    | some c => if args.length ≤ fn.ntmps then bnd (execC E call loop c (frm0 args) H) (finish E.P fn.results.toList) else none
    | none => none
  | none => none

def execF (E : Env) : Nat → CallO
  | 0, _, _, _ => none
  | n + 1, f, args, H => if E.G f = true then execB E (execF E n) (fun g => loopN g n) f args H else E.ext f args H

end Go.Ab
