/- LintFinds: part 2 of its proof. -/
import Derived.Test.YtmehamiifalmaaaGreatDoorG0
import Derived.Deep.Upon
import Derived.Laws.MakeOwn
import Derived.Laws.IdiomStrings
set_option linter.all false
namespace Go.Ab
open Go
def AV.aq:AV->Bool
 | .agg cs=>go cs
 | .tup cs=>go cs
 | .vec o es=>(match o with| .own _=>false|_=>true)&&go es
 | .ptr _ _=>false
 | .sl _ _ _ _=>false
 | .map _=>false
 | .rptr cs=>go cs
 | .fn _ first cap=>go first&&go cap
 | .iface _ v=>v.aq
 |_=>true
where go:List AV->Bool
 |[]=>true
 |c::cs=>c.aq&&go cs
def an{α β:Type}(x:Option α)(f:α->Option β):Option β:=match x with|some a=>f a|none=>none
def c_{α:Type}(c:Bool)(x y:α):α:=if c then x else y
def dv{α β:Type}(f:α->Option β):List α->Option (List β)
 |[]=>some []
 |x::r=>an (f x) λy=>an (dv f r) λa=>some (y::a)
def eo:List AV->Bool
 |[]=>true
 |c::cs=>c.one&&eo cs
def oB(agg:Bool)(s:Nat):Nat->List AV->List AV
 |0,_=>[]
 |n+1,cs=>(if agg then .agg (cs.take s) else cs.headD .ts)::oB agg s n (cs.drop s)
def cA(P:Program)(H:ab):Nat->AV->Option AV
 |0,_=>none
 |n+1,v=>match v with
  | .agg cs=>an (dv (cA P H n) cs) λds=>some (.agg ds)
  | .tup cs=>an (dv (cA P H n) cs) λds=>some (.tup ds)
  | .vec o es=>an (dv (cA P H n) es) λds=>some (.vec o.bare ds)
  | .rptr cs=>an (dv (cA P H n) cs) λds=>some (.rptr ds)
  | .fn f a b=>an (dv (cA P H n) a) λa'=>an (dv (cA P H n) b) λd=>some (.fn f a' d)
  | .iface t x=>an (cA P H n x) λy=>some (.iface t y)
  | .ptr id off=>match H.get id with
   |some (.cells _ cs)=>if eo (cs.drop off)=true then an (dv (cA P H n) (cs.drop off)) λds=>some (.rptr ds) else none
   |some (.row _ _ _ cs)=>an (dv (cA P H n) (cs.drop off)) λds=>some (.rptr ds)
   |_=>none
  | .sl id s off len=>match H.get id with
   |some (.row m et c cs)=>match cv P et with
    |some g=>if c=s/\off+len<=m/\(g=true\/s=1) then an (dv (cA P H n) (oB g s len (cs.drop (off*s)))) λds=>some (.vec .ro ds) else none
    |none=>none
   |_=>none
  | .map _=>none
  |v=>some v
abbrev cu:=FuncId->List AV->ab->Option (AV×ab)
abbrev az:=Nat->AV
def gz:AV:=.val (.tuple #[])
def ev(α:az):Operand->AV
 | .tmp t=>α t
 | .const v=>mX v
 | .global g=>.val (.pointer (some ⟨g,0,none⟩))
 | .func f=>.fn (.func f) [] []
def put(α:az)(dst:Option Tmp)(v:AV):az:=
 match dst with
 |some d=>λi=>if i=d then v else α i
 |none=>α
structure Env where
 P:Program
 G:FuncId->Bool
 cl:FuncId->Bool
 fq:TypeId->Bool
 df:FuncId->Bool
 dyn:Nat->Bool
 ext:cu
 any:Array Oper->Bool:=λ_=>false
 io:FuncId->Bool:=λ_=>false
def aK(P:Program)(call:cu)(f:FuncId)(args:List AV):Option AV:=
 if AV.aq.go (args.map AV.erase)=true then
  match call f (args.map AV.erase) .empty with
  |some (v,H)=>if v.erase.aq=true then some v.erase else an (cA P H 1000 v) λa=>if a.aq=true then some a else none
  |none=>none
 else none
def gH(k:Nat):List AV->Option (Nat×List AV)
 |[]=>none
 | .ptr id 0::r=>if AV.aq.go r=true then some (id,.ptr k 0::r) else none
 |a::r=>if a.aq=true then an (gH k r) λp=>some (p.1,a::p.2) else none
def oG(call:cu)(f:FuncId)(args:List AV)(te:Option TypeId)(cs:List AV):Option (AV×Option TypeId×List AV):=
 match call f args {next:=1,jo:=[(0,.cells te cs)]} with
 |some (v,H1)=>match H1.get 0 with
  |some (.cells b a)=>if v.erase.aq=true/\AV.aq.go (a.map AV.bare)=true then some (v.erase,b,a.map AV.bare) else none
  |_=>none
 |none=>none
def oC(call:cu)(f:FuncId)(args:List AV)(tb te:Option TypeId)(cs:List AV):Option (AV×Option TypeId×Option TypeId×List AV):=
 match call f args {next:=2,jo:=[(1,.cells tb [.ptr 0 0]),(0,.cells te cs)]} with
 |some (v,H1)=>match H1.get 1,H1.get 0 with
  |some (.cells c [.ptr 0 0]),some (.cells b a)=>if v.erase.aq=true/\AV.aq.go (a.map AV.bare)=true then some (v.erase,c,b,a.map AV.bare) else none
  |_,_=>none
 |none=>none
def yJ(call:cu)(f:FuncId)(args:List AV)(H:ab):Option (AV×ab):=
 match gH 0 (args.map AV.erase),gH 1 (args.map AV.erase) with
 |some (id,as),some (_,b)=>match H.get id with
  |some (.cells tb [.ptr a 0])=>match H.get a with
   |some (.cells te cs)=>if a≠id/\AV.aq.go (cs.map AV.bare)=true then an (oC call f b tb te (cs.map AV.bare)) λr=>some (r.1,(H.set a (.cells r.2.2.1 r.2.2.2)).set id (.cells r.2.1 [.ptr a 0])) else none
   |_=>none
  |some (.cells te cs)=>if AV.aq.go (cs.map AV.bare)=true then an (oG call f as te (cs.map AV.bare)) λr=>some (r.1,H.set id (.cells r.2.1 r.2.2)) else none
  |_=>none
 |_,_=>none
def sV(io:FuncId->Bool)(call:cu):cu:=λf args H=>if io f=true then yJ call f args H else call f args H
def target:AV->Option (FuncId×List AV×List AV)
 | .fn (.func f) first cap=>some (f,first,cap)
 |_=>none
def fF(n:Nat):List AV->Bool
 |[]=>true
 |c::cs=>(c.width==some n)&&fF n cs
def lj:List AV->Bool
 |[]=>true
 |c::cs=>eo c.cells&&lj cs
def ug(P:Program)(t:TypeId)(a x:AV)(H:ab):Option (AV×ab):=
 match a with
 | .ptr id off=>match H.get id with
  |some (.cells te cs)=>
   if bX P t=x.width/\x.width≠none/\off+x.cells.length<=cs.length/\eo x.cells=true then some (gz,H.set id (.cells te (eg cs off x.cells))) else none
  |some (.row n et s cs)=>
   if bX P t=x.width/\x.width≠none/\off+x.cells.length<=cs.length/\eo x.cells=true then some (gz,H.set id (.row n et s (eg cs off x.cells))) else none
  |_=>none
 |_=>none
def sW(P:Program)(t:TypeId)(H:ab):Option (AV×ab):=
 match dz P t with
 |some z=>some (.ptr H.next 0,H.push (.cells (some t) z))
 |none=>none
def eQ(x:AV)(H:ab):Option (AV×ab):=
 if x.width≠none then some (.ptr H.next 0,H.push (.cells none x.cells)) else none
def mc:Nat->List (Nat×AV)->Bool
 |_,[]=>true
 |n,(i,_)::r=>(i==n)&&mc (n+1) r
def dZ(P:Program)(t:TypeId)(len:Nat)(parts:List (Nat×AV))(H:ab):Option (AV×ab):=
 match fk P t with
 |some et=>match bX P et,dz P et with
  |some s,some z=>
   if parts.length=len/\mc 0 parts=true/\fF s (parts.map λp=>p.2.erase)=true/\lj (parts.map λp=>p.2.erase)=true/\s≠0/\z.length=s/\len*s<=16777216 then
    some (.vec .full (parts.map λp=>p.2.erase),H)
   else none
  |_,_=>none
 |none=>none
def nT(P:Program)(H:ab)(s:Nat):AV->Option (Nat×List AV)
 | .vec _ fs=>if fF s fs=true then some (fs.length,fs.flatMap AV.cells) else none
 | .sl id b off len=>match H.get id with
  |some (.row m _ a cs)=>if b=s/\off+len<=m/\a=s then some (len,(cs.drop (off*s)).take (len*s)) else none
  |_=>none
 | .val v=>if F0 v=true then some (0,[]) else none
 |_=>none
def oV(et s fQ:Nat)(x:AV)(m:Nat)(a:List AV)(H:ab):Option (AV×ab):=
  match x with
  | .vec o es=>
   if m=0 then some (x,H) else
   match o with
   | .own _=>none
   | .ro=>none
   |_=>if fF s es=true/\(es.length+m)*fQ<=140737488355328/\es.length+m<=9223372036854775807 then some (.sl H.next s 0 (es.length+m),H.push (.row (es.length+m) et s (es.flatMap AV.cells++a))) else none
  | .sl id c off len=>
   if m=0 then some (x,H) else
   match H.get id with
   |some (.row n d b cs)=>
    if c=s/\d=et/\b=s/\off=0/\len<=n/\(len+m)*fQ<=140737488355328/\len+m<=9223372036854775807 then some (.sl H.next s 0 (len+m),(H.del id).push (.row (len+m) et s (cs.take (len*s)++a)))
    else none
   |_=>none
  |_=>none
def vk(P:Program)(et s fQ:Nat)(x y:AV)(H:ab):Option (AV×ab):=
 match nT P H s y with
 |none=>none
 |some (m,a)=>oV et s fQ x m a H
def nH(P:Program)(a:TypeId)(et fQ:Nat)(o:Own)(es fs:List AV)(H:ab):Option (AV×ab):=
 if ou P a es=true/\ou P a fs=true/\(es.length+fs.length)*fQ<=140737488355328/\es.length+fs.length<=9223372036854775807 then
  match o with
  | .nil=>if es.length=0 then(if fs.length=0 then some (.vec .nil [],H) else some (.vec (.own H.next) fs,H.push (.bQ fs.length et))) else none
  | .full=>if fs.length=0 then some (.vec .full es,H) else some (.vec (.own H.next) (es++fs),H.push (.bQ (es.length+fs.length) et))
  | .own k=>match H.get k with
   |some (.bQ n b)=>if n=es.length/\b=et then some (.vec (.own k) (es++fs),H.set k (.bQ (es.length+fs.length) et)) else none
   |_=>none
  | .ro=>if fs.length=0 then some (.vec .ro es,H) else none
 else none
def jK(fq:TypeId->Bool)(t:TypeId)(x y:AV):Option (Own×List AV×List AV):=
 match x,y with
 | .vec o es,.vec _ fs=>match o with
  | .nil=>if fq t=true then none else some (.nil,es,fs)
  | .full=>if fq t=true then none else some (.full,es,fs)
  |o=>some (o,es,fs)
 |_,_=>none
def arn(P:Program)(d:TypeId):Bool:=match fk P d with
 |some et=>(match P.underlying et with|some (.int .u8)=>true|_=>false)&&bX P et==some 1
 |none=>false
def Nu(P:Program)(c a et s fQ:Nat)(x:AV)(l:List UInt8)(H:ab):Option (AV×ab):=
 if arn P c=true/\yF P a=true/\s=1 then oV et s fQ x l.length (l.map λb=>.int .u8 b.toNat) H else none
def cH(fq:TypeId->Bool)(P:Program)(a b:TypeId)(x y:AV)(H:ab):Option (AV×ab):=
 match fk P a with
 |some et=>match bX P et,jS P et,dz P et with
  |some s,some fQ,some z=>
   match y with
   | .str l=>if s≠0/\z.length=s then Nu P a b et s fQ x l H else none
   |y=>
   if a=b/\s≠0/\z.length=s then
    match jK fq a x y with
    |some (o,es,fs)=>nH P a et fQ o es fs H
    |none=>vk P et s fQ x y H
   else none
  |_,_,_=>none
 |none=>none
def Ic(H:ab):AV×ab:=(.map H.next,H.push (.map [] 0))
def setAt(es:List (AV×AV×Nat))(i:Nat)(k v:AV):List (AV×AV×Nat):=es.take i++(match es[i]? with|some (_,_,b)=>[(k,v,b)]|none=>[])++es.drop (i+1)
def x_(P:Program)(t:TypeId)(m k v:AV)(H:ab):Option (AV×ab):=
 match m with
 | .map id=>match H.get id with
  |some (.map es clock)=>match Dp P t with
   |some (a,et)=>if AO P a k=true/\bX P et=v.width/\v.width≠none then
     match rS k es 0 with
     |some (some (i,_))=>some (gz,H.set id (.map (setAt es i k v) clock))
     |some none=>some (gz,H.set id (.map (es++[(k,v,clock)]) (clock+1)))
     |none=>none
    else none
   |none=>none
  |_=>none
 |_=>none
def dD(E:Env)(call:cu)(f:AV)(args:List AV)(H:ab):Option (AV×ab):=
 match target f with
 |some (f,first,cap)=>
  if E.cl f=true then an (aK E.P call f (first++args++cap)) λv=>some (v,H)
  else sV E.io call f (first++args++cap) H
 |none=>none
def cG(fq:TypeId->Bool)(P:Program)(d_:List TypeId)(args:List AV)(H:ab):Option (AV×ab):=
 match args,d_ with
 |[x,y],[b,a]=>cH fq P b a x y H
 |_,_=>none
def zh(P:Program)(d_:Array TypeId):Bool:=match d_[0]? with
 |some t=>(Dp P t).isSome
 |none=>false
def td(P:Program)(d_:Array TypeId)(args:List AV)(H:ab):Option (AV×ab):=
 match args with
 |[.map id]=>if zh P d_=true then match H.get id with|some (.map es _)=>some (.int .i64 es.length,H)|_=>none else none
 |args=>an (gB P d_ args) λv=>some (v,H)
def tX(E:Env)(call:cu)(c:Call)(ρ:Operand->AV)(H:ab):Option (AV×ab):=
 match c.callee with
 | .value f=>dD E call (ρ f) (c.args.toList.map ρ) H
 | .builtin .append=>cG E.fq E.P c.argTypes.toList (c.args.toList.map ρ) H
 | .builtin .len=>td E.P c.argTypes (c.args.toList.map ρ) H
 |_=>an (lq E.P (.call c) ρ H) λv=>some (v,H)
def bh(E:Env)(call:cu)(op:Op)(ρ:Operand->AV)(H:ab):Option (AV×ab):=
 match op with
 | .alloc t=>sW E.P t H
 | .box _ x=>eQ (ρ x) H
 | .store t a x=>ug E.P t (ρ a) (ρ x) H
 | .makeMap _ r=>match r with|none=>some (Ic H)|some _=>none
 | .mapUpdate t m k v=>x_ E.P t (ρ m) (ρ k) (ρ v) H
 | .insert t m k v=>x_ E.P t (ρ m) (ρ k) (ρ v) H
 | .buildSlice t len parts=>dZ E.P t len (parts.toList.map λp=>(p.1,ρ p.2)) H
 | .call c=>tX E call c ρ H
 |op=>an (lq E.P op ρ H) λv=>some (v,H)
inductive Kd where
 |ins
 |rd
 |wr
 deriving DecidableEq
def bT(E:Env)(o:Op):Kd:=
 match o with
 | .load _ _=>.rd
 | .lookup _ _ _ _=>.rd
 | .alloc _=>.wr
 | .box _ _=>.wr
 | .store _ _ _=>.wr
 | .makeMap _ _=>.wr
 | .mapUpdate _ _ _ _=>.wr
 | .insert _ _ _ _=>.wr
 | .call c=>
  match c.callee with
  | .value (.func f)=>if E.cl f=true then .ins else .wr
  | .value _=>.wr
  | .builtin .append=>.wr
  | .builtin .len=>if zh E.P c.argTypes=true then .rd else .ins
  |_=>.ins
 |_=>.ins
def OO:Value->Value->Bool
 | .pointer a,v=>match v with| .pointer b=>decide (a=b)|_=>false
 | .nilIface,v=>match v with| .nilIface=>true|_=>false
 | .nilFunc,v=>match v with| .nilFunc=>true|_=>false
 | .map a,v=>match v with| .map b=>a.isNone&&b.isNone|_=>false
 |_,_=>false
def PF:Fn->Fn->Bool
 | .func f,g=>match g with| .func a=>f==a|_=>false
 |_,_=>false
def yv:Own->Own->Bool
 | .ro,.ro=>true
 | .nil,.nil=>true
 | .full,.full=>true
 | .own a,.own b=>a==b
 |_,_=>false
mutual
def dt:AV->AV->Bool
 | .int k a,v=>match v with| .int k' b=>decide (k=k')&&a==b|_=>false
 | .bool a,v=>match v with| .bool b=>a==b|_=>false
 | .str a,v=>match v with| .str b=>a==b|_=>false
 | .agg xs,v=>match v with| .agg ys=>il xs ys|_=>false
 | .tup xs,v=>match v with| .tup ys=>il xs ys|_=>false
 | .ptr a b,v=>match v with| .ptr c d=>a==c&&b==d|_=>false
 | .sl a b c d,v=>match v with| .sl a' b' c' d'=>a==a'&&b==b'&&c==c'&&d==d'|_=>false
 | .map a,v=>match v with| .map b=>a==b|_=>false
 | .rptr xs,v=>match v with| .rptr ys=>il xs ys|_=>false
 | .vec o xs,v=>match v with| .vec o' ys=>yv o o'&&il xs ys|_=>false
 | .val a,v=>match v with| .val b=>OO a b|_=>false
 | .fn f a b,v=>match v with| .fn g c d=>PF f g&&il a c&&il b d|_=>false
 | .ts,v=>match v with| .ts=>true|_=>false
 | .any,v=>match v with| .any=>true|_=>false
 | .iface t x,v=>match v with| .iface t' y=>decide (t=t')&&dt x y|_=>false
def il:List AV->List AV->Bool
 |[],ys=>match ys with|[]=>true|_=>false
 |x::xs,ys=>match ys with|y::ys=>dt x y&&il xs ys|[]=>false
end
def behind(ops:Array Oper):Nat->Nat->Nat->Bool
 |0,_,_=>false
 |n+1,j,k=>match ops[j]? with
  |some o=>o.after.any λe=>Region.binds .any e&&(e.on==k||behind ops n e.on k)
  |none=>false
def reads(E:Env)(call:cu)(o:Oper)(α:az)(v:AV)(H:ab):Bool:=
 match bh E call o.op (ev α) H with
 |some (u,_)=>dt u v
 |none=>false
def iI(ops:Array Oper)(g:Option (Nat×Bool))(α:az):Option Bool:=
 match g with
 |none=>some true
 |some (j,b)=>match(ops[j]?).bind (·.dst) with
  |some d=>match α d with
   | .bool c=>some (c==b)
   | .val (.tuple _)=>some false
   |_=>none
  |none=>none
def gv(E:Env)(call:cu)(all:Array Oper):List Oper->az->ab->Option (az×ab)
 |[],α,H=>some (α,H)
 |o::rest,α,H=>
  an (iI all o.guard α) λb=>
   c_ b (an (bh E call o.op (ev α) H) λr=>gv E call all rest (put α o.dst r.1) r.2)
    (gv E call all rest (put α o.dst gz) H)
def eY(E:Env)(call:cu)(all:Array Oper):Nat->List Oper->List (Nat×Oper×az×AV)->List (Nat×ab)->az->ab->Option (az×ab)
 |_,[],_,_,α,H=>some (α,H)
 |k,o::rest,a,c,α,H=>
  an (iI all o.guard α) λb=>
   c_ b (an (bh E call o.op (ev α) H) λr=>
     match bT E o.op with
     | .ins=>eY E call all (k+1) rest a c (put α o.dst r.1) r.2
     | .rd=>c_ (c.all λw=>behind all all.size k w.1||reads E call o α r.1 w.2) (eY E call all (k+1) rest ((k,o,α,r.1)::a) c (put α o.dst r.1) r.2) none
     | .wr=>c_ (a.all λq=>behind all all.size k q.1||reads E call q.2.1 q.2.2.1 q.2.2.2 r.2) (eY E call all (k+1) rest a ((k,H)::c) (put α o.dst r.1) r.2) none)
    (eY E call all (k+1) rest a c (put α o.dst gz) H)
def vl(a b:Kd):Bool:=
 match a,b with
 | .ins,_=>true
 |_,.ins=>true
 | .rd,.rd=>true
 |_,_=>false
def A0(E:Env)(ops:Array Oper)(listed:Array Bool)(i:Nat):Bool:=
 match ops[i]? with
 |none=>false
 |some b=>(List.range ops.size).all λj=>j==i||listed.getD j true||match ops[j]? with
   |some a=>a.after.any (λe=>Region.binds .any e&&e.on==i)||(b.apart ops a&&vl (bT E b.op) (bT E a.op))
   |none=>true
def CJ:List (AV×AV×Nat)->List (AV×AV×Nat)->Bool
 |[],l=>match l with|[]=>true|_=>false
 |(a,b,n)::r,l=>match l with|(c,d,m)::l=>dt a c&&dt b d&&decide (n=m)&&CJ r l|[]=>false
def wJ:bB->bB->Bool
 | .cells t cs,v=>match v with| .cells t' ds=>decide (t=t')&&il cs ds|_=>false
 | .bQ n t,v=>match v with| .bQ m t'=>decide (n=m)&&decide (t=t')|_=>false
 | .row n t s cs,v=>match v with| .row m t' a ds=>decide (n=m)&&decide (t=t')&&decide (s=a)&&il cs ds|_=>false
 | .map es c,v=>match v with| .map fs d=>CJ es fs&&decide (c=d)|_=>false
def yK:List (Nat×bB)->List (Nat×bB)->Bool
 |[],l=>match l with|[]=>true|_=>false
 |(i,x)::r,l=>match l with|(j,y)::l=>decide (i=j)&&wJ x y&&yK r l|[]=>false
def Cw(ops:Array Oper)(a:az)(H':ab)(α:az)(H:ab):Bool:=
 (ops.toList.all λo=>match o.dst with|some d=>dt (α d) (a d)|none=>true)&&decide (H.next=H'.next)&&yK H.jo H'.jo
def mf:cu:=λ_ _ _=>none
def ph(E:Env)(ops:Array Oper)(qh:az->ab->Bool):Nat->Array Bool->az->ab->Bool
 |0,listed,α,H=>(Region.ready .any ops listed).isEmpty&&qh α H
 |fuel+1,listed,α,H=>
  let a (i:Nat):Bool:=match ops[i]? with
   |some o=>match iI ops o.guard α with
    |some true=>match bh E mf o.op (ev α) H with
     |some (v,H')=>ph E ops qh fuel (listed.setIfInBounds i true) (put α o.dst v) H'
     |none=>false
    |some false=>ph E ops qh fuel (listed.setIfInBounds i true) (put α o.dst gz) H
    |none=>false
   |none=>false
  match(Region.ready .any ops listed).find? (A0 E ops listed) with
  |some i=>a i
  |none=>(!(Region.ready .any ops listed).isEmpty||qh α H)&&(Region.ready .any ops listed).all a
def yp(E:Env)(ops:Array Oper)(α:az)(H:ab):Option (az×ab):=
 match gv E mf ops ops.toList α H with
 |some r=>c_ (ph E ops (Cw ops r.1 r.2) ops.size (Array.replicate ops.size false) α H) (some r) none
 |none=>none
inductive Ex where
 |normal
 |exit (id:Nat)
 |ret
abbrev ef:=Ex×az×ab
def andThen(r:ef)(f:az->ab->Option ef):Option ef:=
 match r with
 |(.normal,α,H)=>f α H
 |r=>some r
def t_(id:Nat)(r:ef):ef:=
 match r with
 |(.exit j,α,H)=>if j=id then(.normal,α,H) else(.exit j,α,H)
 |r=>r
def gZ(f:az->ab->Option ef):Nat->az->ab->Option ef
 |0,_,_=>none
 |n+1,α,H=>an (f α H) λr=>andThen r (gZ f n)
def C9(α:az)(c:Operand)(x y:Option ef):Option ef:=
 match ev α c with
 | .bool v=>c_ v x y
 |_=>none
def aN(E:Env)(call:cu)(loop:(az->ab->Option ef)->az->ab->Option ef):Code->az->ab->Option ef
 | .skip,α,H=>some (.normal,α,H)
 | .region id ops d,α,H=>an (c_ (d&&E.dyn id) (c_ (E.any ops) (yp E ops α H) (eY E call ops 0 ops.toList [] [] α H)) (gv E call ops ops.toList α H)) λr=>some (.normal,r.1,r.2)
 | .seq a b,α,H=>an (aN E call loop a α H) λr=>andThen r (aN E call loop b)
 | .cond c a b,α,H=>C9 α c (aN E call loop a α H) (aN E call loop b α H)
 | .block id c,α,H=>an (aN E call loop c α H) λr=>some (t_ id r)
 | .loop c,α,H=>loop (aN E call loop c) α H
 | .exit id,α,H=>some (.exit id,α,H)
 | .ret,α,H=>some (.ret,α,H)
 |_,_,_=>none
def kL(P:Program)(α:az)(H:ab):List ResultVar->Option (List AV)
 |[]=>some []
 | .tmp t::r=>an (kL P α H r) λb=>some (α t::b)
 | .cell a t::r=>an (match α a with| .ptr id off=>qK P H t (.ptr id off)|_=>none) λv=>an (kL P α H r) λb=>some (v::b)
def qG:List AV->AV
 |[v]=>v
 |vs=>.tup vs
def jq(args:List AV):az:=λi=>(args[i]?).getD gz
def finish(P:Program)(a:List ResultVar)(r:ef):Option (AV×ab):=
 match r with
 |(.exit _,_,_)=>none
 |(_,α,H)=>an (kL P α H a) λb=>some (qG b,H)
def tg(E:Env)(call:cu)(loop:(az->ab->Option ef)->az->ab->Option ef)(f:FuncId)(args:List AV)(H:ab):Option (AV×ab):=
 match E.P.funcs[f]? with
 |some fn=>match fn.body with
  |some c=>if args.length<=fn.ntmps then an (aN E call loop c (jq args) H) (finish E.P fn.results.toList) else none
  |none=>none
 |none=>none
def A1:Code->Option (Oper×Oper)
 | .region _ ops a=>
  match a,ops.toList with
  |false,[o,d]=>match o.op,o.dst,o.guard,d.op,d.guard,d.dst with
   | .makeFunc _ _ _,some t,none,.defer c,none,none=>match c.callee with
    | .value (.tmp t')=>if t=t'/\c.args.toList.isEmpty=true then some (o,d) else none
    |_=>none
   |_,_,_,_,_,_=>none
  |_,_=>none
 |_=>none
def ik(E:Env)(call:cu)(loop:(az->ab->Option ef)->az->ab->Option ef):Code->az->ab->Option (ef×AV)
 | .seq a b,α,H=>
  match A1 a with
  |some (o,_)=>an (bh E call o.op (ev α) H) λr=>an (aN E call loop b (put α o.dst r.1) r.2) λq=>some (q,r.1)
  |none=>an (aN E call loop a α H) λr=>match r with
   |(.normal,ae,H')=>ik E call loop b ae H'
   |_=>none
 |_,_,_=>none
def AP(E:Env)(call:cu)(loop:(az->ab->Option ef)->az->ab->Option ef)(f:FuncId)(args:List AV)(H:ab):Option (AV×ab):=
 match E.P.funcs[f]? with
 |some fn=>match fn.body with
  |some c=>if args.length<=fn.ntmps then
    an (ik E call loop c (jq args) H) λr=>
     match r.1,target r.2 with
     |(.exit _,_,_),_=>none
     |(_,α,H'),some (g,first,cap)=>if E.G g=true/\E.df g=false then an (call g (first++cap) H') λq=>finish E.P fn.results.toList (.ret,α,q.2) else none
     |_,none=>none
   else none
  |none=>none
 |none=>none
def eL(E:Env):Nat->cu
 |0,_,_,_=>none
 |n+1,f,args,H=>if E.G f=true then if E.df f=true then AP E (eL E n) (λg=>gZ g n) f args H else tg E (eL E n) (λg=>gZ g n) f args H else E.ext f args H
end Go.Ab
namespace Go.Ab
open Go Go.RowKit
section
variable {P:Program} {B:Nat->Prop} {W0:World} {H:ab} {σ:St} {w:World}
def uu.aX{id}{x}(h:uu P B σ w id x):∃b,Ab.aX σ id x=some b/\¬B b/\b<w.heap.size:=by
 cases x with
 |cells te cs=>obtain⟨b,c,e,a,d,h3,_⟩:=h;exact⟨b,a,d,(Α.1 h3).1⟩
 |bQ n et=>obtain⟨b,cap,c,s,a,d,h3,_⟩:=h;exact⟨b,by simp[Ab.aX,a],d,(Α.1 h3).1⟩
 |row n et s cs=>obtain⟨b,cap,c,a,_,d,h3,_⟩:=h;exact⟨b,a,d,(Α.1 h3).1⟩
 |map es clock=>obtain⟨b,ms,a,d,h3,_⟩:=h;exact⟨b,a,d,(Α.1 h3).1⟩
def uu.cj{aS:St}{w':World}{id}{x}(h:uu P B σ w id x)(a:σ.le aS)
  (hb:∀b,Ab.aX σ id x=some b->w'.heap[b]? =w.heap[b]?∧∀o,aS.cells b o=σ.cells b o) (u:∀n,aS.own id n=σ.own id n):uu P B aS w' id x:=by
 cases x with
 |cells te cs=>obtain⟨b,c,e,d,f,h3,g,h5,k⟩:=h;obtain⟨i,j⟩:=hb b d;exact⟨b,c,e,a.loc _ _ d,f,i.trans h3,g.mono a,λo=>(j o).trans (h5 o),k⟩
 |bQ n et=>obtain⟨b,cap,c,s,d,f,h3,g,h5,k,h7,p,l⟩:=h;obtain⟨i,j⟩:=hb b (by simp[Ab.aX,d]);exact⟨b,cap,c,s,a.own _ _ _ d,f,i.trans h3,g,h5,k,h7,λo r=>(j o).trans (p o r),λm hm=>(u m).trans (l m hm)⟩
 |row n et s cs=>obtain⟨b,cap,c,d,t,f,h3,g,h5,k,h7,p,l,v,y,q⟩:=h;obtain⟨i,j⟩:=hb b d;exact⟨b,cap,c,a.loc _ _ d,a.own _ _ _ t,f,i.trans h3,g,h5,k,h7,p,l,v.mono a,y,λo=>(j o).trans (q o)⟩
 |map es clock=>obtain⟨b,ms,d,f,h3,g,h5⟩:=h;obtain⟨i,j⟩:=hb b d;exact⟨b,ms,a.loc _ _ d,f,i.trans h3,g.mono a,λo=>(j o).trans (h5 o)⟩
def Cm{aS}{id}{x}{b}(a:σ.le aS)(h:aX σ id x=some b):aX aS id x=some b:=by
 cases x with
 |cells te cs=>exact a.loc _ _ h
 |row n et s cs=>exact a.loc _ _ h
 |map es clock=>exact a.loc _ _ h
 |bQ n et=>simp only[aX] at h⊢;obtain⟨p,c,rfl⟩:=aEj.1 h;rw[a.own _ _ _ c];rfl
def ab.ep{H:ab}{id}{x}(h:H.get id=some x):id<H.next:=by
 unfold ab.get at h;split at h
 ·assumption
 ·cases h
def ab.fL(H:ab)(x)(id):(H.push x).get id=if H.next=id then some x else H.get id:=by
 simp[ab.get,ab.push,cg];by_cases b:id<H.next
 ·rw[xD,μ b]
 ·by_cases a:H.next=id
  ·rw[xD,μ a,μ a]
  ·rw[bM,κ a,κ b]
def aR:∀l id y k,cg (aH l id y) k=if id=k then(cg l id).map λ_=>y else cg l k
 |[],id,y,k=>by simp[aH,cg]
 |(j,x)::l,id,y,k=>by
  by_cases b:j=id
  ·subst b;simp[aH,μ,cg];by_cases a:j=k<;>simp[a]
  ·simp[aH,κ b,cg];by_cases a:j=k
   ·subst a;simp[aFw b]
   ·simp[κ a];exact(aR l id y k)
def ab.eE(H:ab)(id)(y)(k):(H.set id y).get k=if id=k then(H.get id).map (λ_=>y) else H.get k:=by
 have:=aR H.jo id y k;simp[ab.get,ab.set,this];by_cases e:id=k
 ·subst e;by_cases h:id<H.next
  ·simp[h]
  ·simp[h]
 ·simp[e]
def aY.size(a:aY P B W0 H σ w):∀k,B k->k<w.heap.size:=λk b=>Nat.lt_of_lt_of_le (a.base.lt k b) a.below.size
def aY.yx(a:aY P B W0 H σ w):xm P (·<w.heap.size) w:=
 ⟨λ_ h=>h,λb o p e=>by
  obtain⟨c,v,f,d⟩:=a.base.vY b o p e
  exact⟨a.size b c,v,by simpa only[World.cell?,a.below.block b c] using f,d⟩⟩
def aY.uh(a:aY P B W0 H σ w):¬B w.heap.size:=λh=>aEu _ (a.size _ h)
def aY.Aq(c:aY P B W0 H σ w){b o}{v}(h:σ.cells b o=some v):b<w.heap.size:=by
 have:=c.cells b o v h;unfold World.cell? at this;rcases aFv b w.heap.size with a|a
 ·exact a
 ·simp[aFH a] at this
def aY.yd(a:aY P B W0 H σ w)(o):σ.cells w.heap.size o=none:=by
 cases h:σ.cells w.heap.size o with
 |none=>rfl
 |some v=>exact absurd (a.Aq h) (aEu _)
def ES(w:World)(o):(w.alloc o).heap[w.heap.size]? =some o:=by show(w.heap.push o)[w.heap.size]? =some o;simp
def Co(w:World)(o){k}(h:k<w.heap.size):(w.alloc o).heap[k]? =w.heap[k]? :=Below.heap_alloc w o k h
def cell_of_heap{w w':World}{b}(h:w'.heap[b]? =w.heap[b]?)(o):w'.cell? ⟨b,o,none⟩=w.cell? ⟨b,o,none⟩:=by simp[World.cell?,h]
def St.bind(σ:St)(id b:Nat):St:={σ with loc:=λi=>if i=id then some b else σ.loc i}
def aY.OP(a:aY P B W0 H σ w)(b):σ.le (σ.bind H.next b):=by
 refine⟨λ_ _ _ h=>h,λi c h=> ?_,λ_ _ _ h=>h⟩;simp[St.bind];split
 ·rename_i hi;subst hi;rw[(a.fresh H.next (ν _)).1] at h;cases h
 ·exact h
def aY.push(a:aY P B W0 H σ w){cs}{c:Array Value}(e){te}(n:∀t,te=some t->e=t)(s:au σ cs c.toList):
  aY P B W0 (H.push (.cells te cs)) (σ.bind H.next w.heap.size) (w.alloc (.cells c e)):=by
 have d:=a.OP w.heap.size;refine⟨a.below.alloc a.size _,a.base,?_,a.one,?_,?_,?_,?_⟩
 ·intro b o v h;rw[cell_of_heap (Co w _ (a.Aq h))];exact a.cells b o v h
 ·intro id hid;have RO:H.next+1<=id:=hid;have:=a.fresh id aa;exact⟨by simp[St.bind];rw[bM];exact this.1,this.2⟩
 ·intro id x h;rw[ab.fL] at h;show id<H.next+1;split at h
  ·omega
  ·have:=a.keys id x h;omega
 ·intro id x h;rw[ab.fL] at h;split at h
  ·rename_i hid;subst hid;cases h;exact⟨w.heap.size,c,e,by simp[St.bind],a.uh,ES w _,s.mono d,λo=>a.yd o,n⟩
  ·have j:=a.obj id x h;refine j.cj d (λb hb=> ?_) (λ_=>rfl);obtain⟨u,m,_,z⟩:=j.aX;rw[hb] at m;cases m;exact⟨Co w _ z,λ_=>rfl⟩
 ·intro id gD x x' h g hb;rw[ab.fL] at h g;have key:∀i y,H.get i=some y->∃b,aX (σ.bind H.next w.heap.size) i y=some b/\b<w.heap.size:=λi y r=>by obtain⟨b,f,_,h3⟩:=(a.obj i y r).aX;exact⟨b,Cm d f,h3⟩
  split at h
  ·rename_i p;split at g
   ·rename_i l;omega
   ·cases h;obtain⟨b,f,q⟩:=key gD x' g;rw[f,<-p] at hb;simp[aX,St.bind] at hb;omega
  ·split at g
   ·rename_i l;cases g;obtain⟨b,f,q⟩:=key id x h;rw[f,<-l] at hb;simp[aX,St.bind] at hb;omega
   ·obtain⟨b,f,_,_⟩:=(a.obj id x h).aX;obtain⟨u,k,_,_⟩:=(a.obj gD x' g).aX;rw[Cm d f,Cm d k] at hb;exact a.inj id gD x x' h g (by rw[f,k,hb])
def fx(P:Program)(r:Result Next)(vJ:Value->World->Prop):Prop:=
 match r with
 | .ok (.value u) w'=>vJ u w'
 | .ok .skip w'=>vJ undef w'
 | .ok (.enter f args) w'=>Calls P f args w' (λe a=>∃u,e=.returned u/\vJ u a)
 |_=>False
def kF(P:Program)(B:Nat->Prop)(W0:World)(σ:St)(v:AV)(H':ab)(u:Value)(w':World):Prop:=∃aS,Ext B σ aS/\aY P B W0 H' aS w'/\aj aS v u
def afr(a:aY P B W0 H σ w){t}{v}{H'}(h:sW P t H=some (v,H')):
  fx P ((do pure (Next.value (<-Instr.alloc t true (.tuple #[]))):Sem Next).run P w) (kF P B W0 σ v H'):=by
 unfold sW at h;split at h
 ·rename_i z c;cases h;obtain⟨i,zv,hi,d,rfl⟩:=Ey c;have b:(Instr.alloc t true (.tuple #[])).run P w=.ok (.pointer (some ⟨w.heap.size,0,none⟩)) (w.alloc (.cells zv.cells t)):=by simp[Instr.alloc,zeroValue,typeInfo,hi,d,newVar,newRow]
  simp[Φ,b,Ε,as1,fx];refine⟨_,⟨a.OP _,λ_ _ _=>rfl⟩,a.push t (λ_ h=>aEP h) (au.ix _),?_⟩;simp[aj,St.bind]
 ·cases h
def ahb(a:aY P B W0 H σ w){t}{x v}{u}{H'}(d:aj σ x u)(h:eQ x H=some (v,H')):
  fx P ((do pure (Next.value (<-Instr.box t u)):Sem Next).run P w) (kF P B W0 σ v H'):=by
 unfold eQ at h;split at h
 ·rename_i c;cases h;have b:(Instr.box t u).run P w=.ok (.pointer (some ⟨w.heap.size,0,none⟩)) (w.alloc (.cells u.cells t)):=by simp[Instr.box,newVar,newRow]
  simp[Φ,b,Ε,as1,fx];refine⟨_,⟨a.OP _,λ_ _ _=>rfl⟩,a.push t (λ_ h=>by cases h) (d.cells c),?_⟩;simp[aj,St.bind]
 ·cases h
def BZ:∀{cs:List AV} {us:List Value},eo cs=true->au σ cs us->∀u∈us,u.oneCell'=true
 |[],us,_,e,u,d=>by rw[au.pR] at e;subst e;cases d
 |c::cs,us,h,e,u,d=>by
  rw[au.eC] at e;obtain⟨x,eG,rfl,r,q⟩:=e;simp[eo] at h
  cases d with
  |tail _ d=>exact BZ h.2 q u d
  |head=>
   have f:=h.1;cases c<;>simp[AV.one] at f<;>simp[aj] at r;case any=>exact r
   case int=>subst r;rfl
   case bool=>subst r;rfl
   case str=>subst r;rfl
   case vec=>obtain⟨a,cap,rfl,_⟩:=r;rfl
   case ptr=>obtain⟨b,_,rfl⟩:=r;rfl
   case rptr=>obtain⟨b,o,rfl,_⟩:=r;rfl
   case fn=>obtain⟨us,vs,rfl,_⟩:=r;rfl
   case iface=>obtain⟨x,rfl,_⟩:=r;rfl
   case sl=>obtain⟨b,cap,_,_,rfl,_⟩:=r;rfl
   case map=>obtain⟨b,_,rfl⟩:=r;rfl
   case val=>subst r;exact f
def aY.V3(f:aY P B W0 H σ w){id b}{cs q}{te}(hg:H.get id=some (.cells te cs))(hb:σ.loc id=some b){c j:Array Value}{e}
  (z:w.heap[b]? =some (.cells c e (0,0))) (N:au σ q j.toList):aY P B W0 (H.set id (.cells te q)) σ (w.setRow b j):=by
 have A:¬B b:=by obtain⟨g,C,r,i,D,_⟩:=f.obj id _ hg;rw[hb] at i;cases i;exact D
 have s:∀o,σ.cells b o=none:=by obtain⟨g,C,r,i,_,_,_,h5,_⟩:=f.obj id _ hg;rw[hb] at i;cases i;exact h5
 have K:∀t,te=some t->e=t:=by obtain⟨g,C,r,i,_,h3,_,_,O⟩:=f.obj id _ hg;rw[hb] at i;cases i;rw[z] at h3;cases h3;exact O
 have n:∀k,k≠b->(w.setRow b j).heap[k]? =w.heap[k]? :=λk a=>aGe w b k j a
 have d:∀k x,(H.set id (.cells te q)).get k=some x->∃y,H.get k=some y/\aX σ k x=aX σ k y/\(k≠id->x=y):=by
  intro k x a;rw[ab.eE] at a;split at a
  ·rename_i p;subst p;rw[hg] at a;cases a;exact⟨_,hg,rfl,λh=>absurd rfl h⟩
  ·exact⟨x,a,rfl,λ_=>rfl⟩
 refine⟨f.below.trans ⟨rfl,rfl,rfl,ah,λk a=>n k (by rintro rfl;exact A a)⟩,f.base,?_,f.one,f.fresh,?_,?_,?_⟩
 ·intro g o v h;have:g≠b:=by rintro rfl;rw[s] at h;cases h
  rw[cell_of_heap (n g this)];exact f.cells g o v h
 ·intro k x a;obtain⟨y,l,_⟩:=d k x a;exact f.keys k y l
 ·intro k x a;by_cases m:k=id
  ·subst m;rw[ab.eE,μ rfl,hg] at a;cases a;exact⟨b,j,e,hb,A,setRow_heap w b c j e (0,0) z,N,s,K⟩
  ·obtain⟨y,l,_,E⟩:=d k x a;have:=E m;subst this;refine(f.obj k x l).cj σ.le_refl (λg I=>⟨n g ?_,λ_=>rfl⟩) (λ_=>rfl);rintro rfl;exact m (f.inj k id x _ l hg (by rw[I];simp[aX,hb]))
 ·intro k u x x' a M L;obtain⟨y,l,p,_⟩:=d k x a;obtain⟨F,J,G,_⟩:=d u x' M;exact f.inj k u y F l J (by rw[<-p,<-G,L])
def V4:∀l id k,cg (ze l id) k=if id=k then none else cg l k
 |[],id,k=>by simp[ze,cg]
 |(j,x)::l,id,k=>by
  have ih:=V4 l id k;simp[ze];by_cases a:j=id
  ·subst a;rw[μ rfl,ih];by_cases c:j=k
   ·simp[c]
   ·simp[c,cg]
  ·rw[κ a];simp[cg,ih];by_cases b:j=k
   ·subst b;simp[aFw a]
   ·simp[b]
def ab.Cx(H:ab)(id k):(H.del id).get k=if id=k then none else H.get k:=by
 have:=V4 H.jo id k;simp[ab.get,ab.del,this];by_cases e:id=k
 ·simp[e]
 ·simp[e]
def aY.del(a:aY P B W0 H σ w)(id):aY P B W0 (H.del id) σ w:=by
 have b:∀k x,(H.del id).get k=some x->H.get k=some x:=λk x h=>by
  rw[ab.Cx] at h;split at h
  ·cases h
  ·exact h
 exact⟨a.below,a.base,a.cells,a.one,a.fresh,λk x h=>a.keys k x (b k x h),λk x h=>a.obj k x (b k x h),λk c x x' h d e=>a.inj k c x x' (b k x h) (b c x' d) e⟩
def St.fN(σ:St)(id b cap:Nat):St:=
 {σ with loc:=λi=>if i=id then some b else σ.loc i,own:=λi n=>if i=id/\n=0 then some (b,cap) else σ.own i n}
def aY.NZ(a:aY P B W0 H σ w)(b cap):σ.le (σ.fN H.next b cap):=by
 refine⟨λ_ _ _ h=>h,λi c h=> ?_,λi n x h=> ?_⟩
 ·simp[St.fN];split
  ·rename_i hi;subst hi;rw[(a.fresh H.next (ν _)).1] at h;cases h
  ·exact h
 ·simp[St.fN];split
  ·rename_i hi;obtain⟨rfl,rfl⟩:=hi;rw[(a.fresh H.next (ν _)).2] at h;cases h
  ·exact h
def aY.PG(d:aY P B W0 H σ w){b cap}{w':World}{x}(hB:¬B b)(hb:∀k,k≠b->k<w.heap.size->w'.heap[k]? =w.heap[k]?)(C:gN B W0 w')
  (m:∀id y,H.get id=some y->aX σ id y≠some b) (D:∀o,σ.cells b o=none) (u:aX (σ.fN H.next b cap) H.next x=some b) (G:uu P B (σ.fN H.next b cap) w' H.next x):
  aY P B W0 (H.push x) (σ.fN H.next b cap) w'/\Ext B σ (σ.fN H.next b cap):=by
 have f:=d.NZ b cap;refine⟨⟨C,d.base,?_,d.one,?_,?_,?_,?_⟩,f,λ_ _ _=>rfl⟩
 ·intro a o v h;have c:σ.cells a o=some v:=h;have E:a≠b:=by rintro rfl;rw[D] at c;cases c
  rw[cell_of_heap (hb a E (d.Aq c))];exact d.cells a o v c
 ·intro id hid;have RO:H.next+1<=id:=hid;have:=d.fresh id aa;refine⟨by simp[St.fN];rw[bM];exact this.1,λn=> ?_⟩;simp[St.fN];rw[bM];exact this.2 n
 ·intro id y h;rw[ab.fL] at h;show id<H.next+1;split at h
  ·omega
  ·have:=d.keys id y h;omega
 ·intro id y h;rw[ab.fL] at h;split at h
  ·rename_i hid;subst hid;cases h;exact G
  ·have t:=d.obj id y h;refine t.cj f (λa r=>⟨hb a ?_ ?_,λ_=>rfl⟩) (λn=> ?_)
   ·rintro rfl;exact m id y h r
   ·obtain⟨b2,p,_,j⟩:=t.aX;rw[r] at p;cases p;exact j
   ·simp only[St.fN];rw[bM]
 ·intro id gD y l h e g;rw[ab.fL] at h e;have key:∀i z,H.get i=some z->∃a,aX (σ.fN H.next b cap) i z=some a/\aX σ i z=some a/\a≠b:=λi z s=>by obtain⟨a,c,_,_⟩:=(d.obj i z s).aX;refine⟨a,Cm f c,c,?_⟩;rintro rfl;exact m i z s c
  split at h
  ·rename_i I;split at e
   ·rename_i q;omega
   ·cases h;obtain⟨a,c,_,h3⟩:=key gD l e;rw[c,<-I,u] at g;cases g;exact absurd rfl h3
  ·split at e
   ·rename_i q;cases e;obtain⟨a,c,_,h3⟩:=key id y h;rw[c,<-q,u] at g;cases g;exact absurd rfl h3
   ·obtain⟨b1,c,F,_⟩:=key id y h;obtain⟨b2,A,g2,_⟩:=key gD l e;rw[c,A] at g;exact d.inj id gD y l h e (by rw[F,g2,g])
def aY.YL(a:aY P B W0 H σ w){cap}{w1:World}{o}{x}(f:w1.heap=w.heap)(j:gN B W0 w1)
  (l:aX (σ.fN H.next w.heap.size cap) H.next x=some w.heap.size) (g:(w1.alloc o).heap[w.heap.size]? =some o->uu P B (σ.fN H.next w.heap.size cap) (w1.alloc o) H.next x):
  aY P B W0 (H.push x) (σ.fN H.next w.heap.size cap) (w1.alloc o)/\Ext B σ (σ.fN H.next w.heap.size cap):=by
 have d:w1.heap.size=w.heap.size:=by rw[f]
 refine a.PG a.uh (λk c aO=> ?_) (j.alloc (λk c=>by rw[d];exact a.size k c) _) (λid y h e=> ?_) (λo=>a.yd o) l (g ?_)
 ·rw[Co w1 _ aa,f]
 ·obtain⟨b,i,_,h3⟩:=(a.obj id y h).aX;rw[i] at e;cases e;exact absurd h3 (aEu _)
 ·rw[<-d];exact ES w1 o
def aY.setAt(e:aY P B W0 H σ w){id b}{x y}{w':World}(hg:H.get id=some x)(g:aX σ id x=some b)(A:aX σ id y=some b)(hb:∀k,k≠b->w'.heap[k]? =w.heap[k]?)(n:gN B W0 w')
  (s:∀o,σ.cells b o=none) (F:uu P B σ w' id y):aY P B W0 (H.set id y) σ w':=by
 have a:∀k z,(H.set id y).get k=some z->∃d,H.get k=some d/\aX σ k z=aX σ k d/\(k≠id->z=d):=by
  intro k z c;rw[ab.eE] at c;split at c
  ·rename_i l;subst l;rw[hg] at c;cases c;exact⟨_,hg,by rw[g,A],λh=>absurd rfl h⟩
  ·exact⟨z,c,rfl,λ_=>rfl⟩
 refine⟨n,e.base,?_,e.one,e.fresh,?_,?_,?_⟩
 ·intro f o v h;have:f≠b:=by rintro rfl;rw[s] at h;cases h
  rw[cell_of_heap (hb f this)];exact e.cells f o v h
 ·intro k z c;obtain⟨d,i,_⟩:=a k z c;exact e.keys k d i
 ·intro k z c;by_cases j:k=id
  ·subst j;rw[ab.eE,μ rfl,hg] at c;cases c;exact F
  ·obtain⟨d,i,_,r⟩:=a k z c;have:=r j;subst this;refine(e.obj k z i).cj σ.le_refl (λf u=>⟨hb f ?_,λ_=>rfl⟩) (λ_=>rfl);rintro rfl;exact j (e.inj k id z _ i hg (by rw[u,g]))
 ·intro k m z d c D C;obtain⟨q,p,l,_⟩:=a k z c;obtain⟨G,E,t,_⟩:=a m d D;exact e.inj k m q G p E (by rw[<-l,<-t,C])
def ae0{α:Type}(l m:List α)(off N)(h1:off+m.length<=N)(h2:N<=l.length):(l.take off++m++l.drop (off+m.length)).take N=(l.take N).take off++m++(l.take N).drop (off+m.length):=by
 apply List.ext_getElem?
 intro i;by_cases a:i<N
 ·rw[Τ a];by_cases b:i<off
  ·rw[Λ,atI aP,Λ,atI aP,Τ b,Τ b,Τ a]
  ·have d:(l.take off).length=off:=aP;have c:((l.take N).take off).length=off:=aP;have L:∀X:List α,(l.take off++(m++X))[i]? =(m++X)[i-off]? :=λX=>by rw[Ψ aa,d]
   have R:∀X:List α,((l.take N).take off++(m++X))[i]? =(m++X)[i-off]? :=λX=>by rw[Ψ aa,c]
   rw[Λ,Λ,L,R];by_cases hm:i-off<m.length
   ·rw[atI hm,atI hm]
   ·rw[Ψ aa,Ψ aa,aEz,aEz,Τ aa]
 ·rw[aEh aP,aEh aP]
def aY.YM(g:aY P B W0 H σ w){id n s o}{et}{cs xs:List AV}{us:List Value}(hg:H.get id=some (.row n et s cs))(l:au σ xs us)(q:∀u∈us,u.oneCell'=true)(sa:o+xs.length<=cs.length):
  ∃b cap c,σ.loc id=some b/\σ.own id 0=some (b,cap)/\w.heap[b]? =some (.cells c et (0,0))/\o+us.length<=c.size/\
   aY P B W0 (H.set id (.row n et s (eg cs o xs))) σ (w.setRow b (c.toList.take o++us++c.toList.drop (o+us.length)).toArray):=by
 obtain⟨b,cap,c,e,j,i,h3,y,h5,r,h7,t,h9,m,p,h⟩:=g.obj id _ hg;have x:=l.length;have S7:n*s<=c.size:=by rw[r];exact aEq _ h7
 have cD:c.toList.length=c.size:=ah;refine⟨b,cap,c,e,j,h3,aa,?_⟩;have d:=ae0 c.toList us o (n*s) aa aa
 refine g.setAt (b:=b) hg e e (λk f=>aGe w b k _ f) (g.below.trans ⟨rfl,rfl,rfl,ah,λk f=>aGe w b k _ (by rintro rfl;exact i f)⟩) h
  ⟨b,cap,_,e,j,i,setRow_heap w b c _ et (0,0) h3,y,h5,?_,h7,t,?_,?_,?_,h⟩
 ·simp[aEw,aEH,adv];omega
 ·unfold eg;simp[aEH,adv];omega
 ·rw[d];unfold eg;rw[<-x];exact((m.take _).append l).append (m.drop _)
 ·rw[d];intro v a;rcases aEo.1 a with a|a
  ·rcases aEo.1 a with a|a
   ·exact p v (aGx a)
   ·exact q v a
  ·exact p v (aFh a)
def afs(D:aY P B W0 H σ w){t}{a x v}{F d}{H'}(l:aj σ a F)(r:aj σ x d)(h:ug P t a x H=some (v,H')):
  fx P ((do Instr.storeAt t F d;pure Next.skip:Sem Next).run P w) (kF P B W0 σ v H'):=by
 cases a with
 |ptr id off=>
  simp[ug] at h;split at h
  ·rename_i cs hg;split at h
   ·rename_i E;obtain⟨A,i,h3,p⟩:=E;cases h;obtain⟨b,c,e,hb,hB,q,C,hn⟩:=D.obj id _ hg;simp[aj] at l;obtain⟨I,j,rfl⟩:=l;rw[hb] at j;cases j;have g:=r.cells i;have f:=g.length;have z:=C.length;simp[aEx] at f z;obtain⟨n,G⟩:=aEY.1 i;have y:(sizeOf t).run P w=.ok d.cells.size w:=by rw[r.width G];exact tZ (by rw[A,G])
    have k:=aGK (P:=P) b off e d.cells.toList 0 c w q aP (BZ p g);simp at k;have u:(Instr.storeAt t (.pointer (some ⟨b,off,none⟩)) d).run P w=.ok () (w.setRow b (c.toList.take off++d.cells.toList++c.toList.drop (off+d.cells.toList.length)).toArray):=by simp[Instr.storeAt,Instr.sureAddr,storeVar,Φ,as1,Ε,y];simpa using k
    simp only[Φ,u,Ε,as1,fx];refine⟨σ,Ext.refl _ _,D.V3 hg hb q ?_,by simp[gz,aj,undef]⟩;rw[show d.cells.toList.length=x.cells.length from by simpa using f];exact((C.take _).append g).append (C.drop _)
   ·cases h
  ·rename_i n et s cs hg;split at h
   ·rename_i E;obtain⟨A,i,h3,p⟩:=E;cases h;have g:=r.cells i;obtain⟨b,cap,c,hb,kV,q,K,J⟩:=D.YM (o:=off) hg g (BZ p g) h3;simp[aj] at l;obtain⟨I,j,rfl⟩:=l;rw[hb] at j;cases j;obtain⟨m,hm⟩:=aEY.1 i;have y:(sizeOf t).run P w=.ok d.cells.size w:=by rw[r.width hm];exact tZ (by rw[A,hm])
    have k:=aGK (P:=P) b off et d.cells.toList 0 c w q (by simpa using K) (BZ p g);simp at k;have u:(Instr.storeAt t (.pointer (some ⟨b,off,none⟩)) d).run P w=.ok () (w.setRow b (c.toList.take off++d.cells.toList++c.toList.drop (off+d.cells.toList.length)).toArray):=by simp[Instr.storeAt,Instr.sureAddr,storeVar,Φ,as1,Ε,y];simpa using k
    simp only[Φ,u,Ε,as1,fx];exact⟨σ,Ext.refl _ _,J,by simp[gz,aj,undef]⟩
   ·cases h
  ·cases h
 |_=>simp[ug] at h
def aeT(a:aY P B W0 H σ w)(t):fx P ((do pure (Next.value (<-Instr.makeMap t none)):Sem Next).run P w) (kF P B W0 σ (Ic H).1 (Ic H).2):=by
 have b:(Instr.makeMap t none).run P w=.ok (.map (some w.heap.size)) (w.alloc (.map #[] 0)):=by simp[Instr.makeMap]
 simp[Φ,b,Ε,as1,fx]
 obtain⟨d,c⟩:=a.YL (cap:=0) (x:=.map [] 0) (o:=.map #[] 0) (w1:=w) rfl a.below (by simp[aX,St.fN]) λe=>
  ⟨w.heap.size,#[],by simp[St.fN],a.uh,e,by simp[gR],λo=>a.yd o⟩
 exact⟨_,c,d,by simp[Ic,aj,St.fN]⟩
def gR.append:∀{es fs:List (AV×AV×Nat)} {ms a:List MapEntry},gR σ es ms->gR σ fs a->gR σ (es++fs) (ms++a)
 |[],_,_,_,h,k=>by simp[gR] at h;subst h;simpa using k
 |(k',v,b)::es,fs,ms,a,h,k=>by simp[gR] at h;obtain⟨m,vX,rfl,f,c,e,d⟩:=h;simp only[aE9,gR];exact⟨m,_,rfl,f,c,e,d.append k⟩
def gR.setAt:∀{es:List (AV×AV×Nat)} {ms:List MapEntry} {i:Nat} {k v:AV} {f:MapEntry->MapEntry},gR σ es ms->(∀m,ms[i]? =some m->aj σ k (f m).key/\aj σ v (f m).val/\(f m).born=m.born)->gR σ (setAt es i k v) (ms.modify i f)
 |[],ms,i,k,v,f,h,_=>by simp[gR] at h;subst h;simp[Ab.setAt,gR]
 |(k',v',b)::es,ms,i,k,v,f,h,hf=>by
  simp[gR] at h;obtain⟨m,l,rfl,g,d,c,a⟩:=h
  cases i with
  |zero=>obtain⟨j,o,n⟩:=hf m ah;simp only[Ab.setAt,aFB,aFi,Ο,aFb,aEQ,aFL,List.modify_zero_cons,gR];exact⟨f m,l,rfl,j,o,by rw[n,c],a⟩
  |succ i=>have ih:=gR.setAt (i:=i) (k:=k) (v:=v) a (λm' e=>hf m' (by simpa using e));simp only[Ab.setAt,aFa,aEX,aE9,aFb,List.modify_succ_cons,gR] at ih⊢;exact⟨m,_,rfl,g,d,c,ih⟩
def Vr{d}{k}:∀ms i j x,Instr.findNow d k ms i=some (some (j,x))->∃m,i<=j/\ms[j-i]? =some m/\Instr.sameNow d k m.key=some true
 |[],i,j,x,h=>by simp[Instr.findNow] at h
 |m::ms,i,j,x,h=>by
  simp[Instr.findNow] at h;split at h
  ·rename_i hm;simp at h;obtain⟨rfl,_⟩:=h;exact⟨m,ν _,ah,hm⟩
  ·obtain⟨m',h1,a,h3⟩:=Vr ms (i+1) j x h;refine⟨m',aa,?_,h3⟩;rw[show j-i=(j-(i+1))+1 from aa];simpa using a
  ·cases h
def UB(C:aY P B W0 H σ w){t}{m k x v}{W a s}{H'}(U:aj σ m W)(f:aj σ k a)(V:aj σ x s)(h:x_ P t m k x H=some (v,H')):
  fx P ((do Instr.mapUpdate t W a s;pure Next.skip:Sem Next).run P w) (kF P B W0 σ v H'):=by
 unfold x_ at h;split at h
 ·rename_i id;split at h
  ·rename_i es clock hg;split at h
   ·rename_i I et Z;split at h
    ·rename_i c;obtain⟨c,lG,mv⟩:=c;have T:=Nt Z;obtain⟨b,ms,hb,O,p,r,D⟩:=C.obj id _ hg;simp[aj] at U;obtain⟨Y,S,rfl⟩:=U;rw[hb] at S;cases S;have z:∀g:Obj,(∀o,o≠b->(w.heap.setIfInBounds b g)[o]? =w.heap[o]?)/\(w.heap.setIfInBounds b g)[b]? =some g:=λg=>⟨(Go.MapKept.heap_set p).2,(Go.MapKept.heap_set p).1⟩;have R:∀g:Obj,gN B W0 {w with heap:=w.heap.setIfInBounds b g}:=λg=>C.below.trans ⟨rfl,rfl,rfl,ah,λo sB=>(z g).1 o (by rintro rfl;exact O sB)⟩;split at h
     ·rename_i j v1 hf;obtain⟨k1,Q,k2,J⟩:=Jg (w:=w) f c r hf (em:=false);obtain⟨j',X,y,e1,rfl,ry⟩:=J.resolve_left ah;cases e1;cases h
      obtain⟨mm,A,L⟩:∃mm,ms[j]? =some mm/\(Instr.keyThatStays mm.key a).run P w=.ok a w:=by
       unfold AO at c
       cases Lj:P.underlying I with
       |none=>simp[Lj] at c
       |some d=>
        have M:Go.MapKept.IsKey d a/\(Instr.findNow d a ms.toList 0=some (some (j,y))):=by
         cases d<;>simp[Lj] at c
         case int q=>
          cases k<;>simp at c;rename_i E n;simp[aj] at f;subst f;refine⟨by simpa[Go.MapKept.IsKey] using c,?_⟩;obtain⟨N,i,F⟩:=ER (σ:=σ) (d:=.int q) (k:=.int E n) (u:=.int E n) (by simp[aj]) (.inl ⟨⟨q,rfl⟩,E,n,rfl⟩) es ms.toList 0 _ r hf;have:(Instr.findKey I (.int E n) ms.toList).run P w=.ok N w:=by simp[Instr.findKey,fE Lj,i]
          rw[k2] at this;cases this;exact i
         case string=>
          cases k<;>simp at c;rename_i l;simp[aj] at f;subst f;refine⟨by simp[Go.MapKept.IsKey],?_⟩;obtain⟨N,i,F⟩:=ER (σ:=σ) (d:=.string) (k:=.str l) (u:=.string ⟨l.toArray⟩) (by simp[aj]) (.inr ⟨rfl,l,rfl⟩) es ms.toList 0 _ r hf;have:(Instr.findKey I (.string ⟨l.toArray⟩) ms.toList).run P w=.ok N w:=by simp[Instr.findKey,fE Lj,i]
          rw[k2] at this;cases this;exact i
         case array n el=>
          cases k<;>simp at c
          cases es with
          |nil=>simp[rS] at hf
          |cons e es=>obtain⟨o,X,Y⟩:=e;simp[rS,yI] at hf
        obtain⟨mm,_,A,FG⟩:=Vr ms.toList 0 j y M.2;simp[aEm] at A;refine⟨mm,A,?_⟩;have G:mm.key=a:=by have zD:=M.1;cases d<;>cases a<;>simp[Go.MapKept.IsKey] at zD<;>cases S9:mm.key<;>simp[S9,Instr.sameNow,Go.MapKept.bytes_beq] at FG<;>simp_all
        rw[G];exact Go.MapKept.run_keyThatStays M.1
      have K:(Instr.mapUpdate t (.map (some b)) a s).run P w=.ok () {w with heap:=w.heap.setIfInBounds b (.map (ms.modify j λe=>{e with key:=a,val:=s}) clock)}:=by simp[Instr.mapUpdate,fE T,aFe p,k1,k2,A,L,Go.MapKept.run_setObj_map _ p]
      simp[Φ,K,Ε,as1,fx];refine⟨σ,Ext.refl _ _,C.setAt (b:=b) hg hb hb (z _).1 (R _) D ⟨b,_,hb,O,(z _).2,?_,D⟩,by simp[gz,aj,undef]⟩;rw[Array.toList_modify];exact r.setAt λm' _=>⟨f,V,rfl⟩
     ·rename_i hf;obtain⟨k1,Q,k2,J⟩:=Jg (w:=w) f c r hf (em:=false)
      have:Q=none:=by
       rcases J with⟨_,F⟩|⟨j,v,x,i,_⟩
       ·exact F
       ·simp at i
      subst this;cases h;have K:(Instr.mapUpdate t (.map (some b)) a s).run P w=.ok () {w with heap:=w.heap.setIfInBounds b (.map (ms.push {key:=a,val:=s,born:=clock}) (clock+1))}:=by simp[Instr.mapUpdate,fE T,aFe p,k1,k2,Go.MapKept.run_setObj_map _ p]
      simp[Φ,K,Ε,as1,fx];refine⟨σ,Ext.refl _ _,C.setAt (b:=b) hg hb hb (z _).1 (R _) D ⟨b,_,hb,O,(z _).2,?_,D⟩,by simp[gz,aj,undef]⟩;rw[Array.toList_push];exact r.append (by simp only[gR];exact⟨_,_,rfl,f,V,rfl,rfl⟩)
     ·cases h
    ·cases h
   ·cases h
  ·cases h
 ·cases h
end
section
variable {P:Program} {B:Nat->Prop} {W0:World} {H:ab} {σ:St} {w:World}
def b_.flat{b s}:∀{off:Nat} {es:List AV},b_ σ b s off es->∃cs:List Value,cs.length=es.length*s/\(∀j v,cs[j]? =some v->σ.cells b (off+j)=some v)/\
  ∀aS g d,σ.le aS->(∀j v,cs[j]? =some v->aS.cells g (d+j)=some v)->b_ aS g s d es
 |_,[],_=>⟨[],ah,ah,λ_ _ _ _ _=>by simp[b_]⟩
 |off,e::es,h=>by
  simp[b_] at h;obtain⟨⟨u,r,c,o⟩,q⟩:=h;obtain⟨cs,n,m,k⟩:=b_.flat q;refine⟨u.cells.toList++cs,by simp[n,c,aEM,aFp],?_,?_⟩
  ·intro j v a;by_cases i:j<s
   ·rw[atI (by simpa[c] using i)] at a;exact o j v (by simpa using a)
   ·rw[Ψ (by simp[c];omega)] at a;have:=m _ v a;simp[aEx,c] at this;rwa [show off+s+(j-s)=off+j from aa] at this
  ·intro aS g d f l;simp[b_];refine⟨⟨u,r.mono f,c,?_⟩,k aS g (d+s) f ?_⟩
   ·intro j v a;have i:j<s:=by rw[<-c];exact(Α.1 a).1
    exact l j v (by rw[atI (by simpa[c] using i)];simpa using a)
   ·intro j v a;have:=l (s+j) v (by rw[Ψ (by simp[c])];simpa[c] using a);rwa [show d+(s+j)=d+s+j from aa] at this
def b_.YN{b s}:∀{off:Nat} {es:List AV} {us:List Value},au σ es us->(∀u∈us,u.cells.size=s)->
  (∀i u,us[i]? =some u->∀j v,u.cells[j]? =some v->σ.cells b (off+i*s+j)=some v)->b_ σ b s off es
 |_,[],_,_,_,_=>by simp[b_]
 |off,e::es,us,h,c,d=>by rw[au.eC] at h;obtain⟨u,eG,rfl,r,q⟩:=h;simp[b_];refine⟨⟨u,r,c u ah,λj v a=>by simpa using d 0 u ah j v a⟩,b_.YN q (λu f=>c u (by simp[f])) ?_⟩;intro i g hi j v a;have:=d (i+1) g (by simpa using hi) j v a;rwa [show off+(i+1)*s+j=off+s+i*s+j from by rw[aEM];omega] at this
def b_.append{b s}:∀{off:Nat} {es fs:List AV},b_ σ b s off es->b_ σ b s (off+es.length*s) fs->b_ σ b s off (es++fs)
 |_,[],_,_,h=>by simpa using h
 |off,e::es,fs,h,k=>by simp[b_] at h;simp[b_];refine⟨h.1,b_.append h.2 ?_⟩;rwa [show off+s+es.length*s=off+(e::es).length*s from by simp[aEM];omega]
def St.fh(σ:St)(a o0:Nat)(cs:List Value)(k n cap:Nat):St where
 cells:=λb o=>if b=a/\o0<=o/\o<o0+cs.length then cs[o-o0]? else σ.cells b o
 loc:=σ.loc
 own:=λc d=>if c=k/\d=n then some (a,cap) else σ.own c d
def St.V5{c o0 k n cap}{cs}(f:∀o,o0<=o->σ.cells c o=none)(a:σ.own k n=none\/σ.own k n=some (c,cap)):σ.le (σ.fh c o0 cs k n cap):=by
 refine⟨λb o v h=> ?_,λ_ _ h=>h,λk' n' x h=> ?_⟩
 ·simp[St.fh];split
  ·rename_i d;obtain⟨rfl,e,_⟩:=d;rw[f o e] at h;cases h
  ·exact h
 ·simp[St.fh];split
  ·rename_i d;obtain⟨rfl,rfl⟩:=d;rcases a with a|a<;>rw[a] at h
   ·cases h
   ·exact h
  ·exact h
def St.Al{a o0 k n cap}{cs}{j}{v}(h:cs[j]? =some v):(σ.fh a o0 cs k n cap).cells a (o0+j)=some v:=by have hj:j<cs.length:=(φ.1 h).1;simp only[St.fh];rw[μ ⟨trivial,aa,aa⟩,show o0+j-o0=j from aa,h]
def aY.Cp(a:aY P B W0 H σ w){k n et}{s cap}{cs:List Value}{c:Array Value}{w1:World}
  (J:w1.heap=w.heap) (L:gN B W0 w1) (M:bX P et=some s) (V:cs.length=n*s) (Q:∀(j:Nat) (v:Value),cs[j]? =some v->c[j]? =some v)
  (N:∀v∈cs,v.oneCell'=true) (z:c.size=cap*s) (A:n<=cap) (W:cap<=maxLen)
  (t:∀m,n<=m->σ.own k m=none) {H':ab} (hH:H'.next=max H.next (k+1))
  (hg:∀i,H'.get i=if i=k then some (.bQ n et) else H.get i):
  aY P B W0 H' (σ.fh w.heap.size 0 cs k n cap) (w1.alloc (.cells c et))/\σ.le (σ.fh w.heap.size 0 cs k n cap):=by
 have p:σ.le (σ.fh w.heap.size 0 cs k n cap):=St.V5 (λo _=>a.yd o) (.inl (t n (ν _)));have E:w1.heap.size=w.heap.size:=by rw[J]
 have d:∀b,b<w.heap.size->(w1.alloc (.cells c et)).heap[b]? =w.heap[b]? :=λb hb=>by rw[Co w1 _ aa,J]
 have F:(w1.alloc (.cells c et)).heap[w.heap.size]? =some (.cells c et (0,0)):=by rw[<-E];exact ES w1 _
 refine⟨⟨L.alloc (λk t=>by rw[E];exact a.size k t) _,a.base,?_,?_,?_,?_,?_,?_⟩,p⟩
 ·intro b o v h;simp only[St.fh] at h;split at h
  ·rename_i S;obtain⟨rfl,_,_⟩:=S;rw[cell_of_row F];exact Q _ v (by simpa using h)
  ·rw[cell_of_heap (d b (a.Aq h))];exact a.cells b o v h
 ·intro b o v h;simp[St.fh] at h;split at h
  ·exact N v (Δ h)
  ·exact a.one b o v h
 ·intro id hid;rw[hH] at hid;have u:H.next<=id:=aa;have D:id≠k:=aa;have:=a.fresh id u;refine⟨this.1,λm=> ?_⟩;simp[St.fh];rw[κ (by rintro⟨rfl,_⟩;exact D rfl)];exact this.2 m
 ·intro id x h;rw[hg] at h;rw[hH];split at h
  ·omega
  ·have:=a.keys id x h;omega
 ·intro id x h;rw[hg] at h;split at h
  ·rename_i e;subst e;cases h;refine⟨w.heap.size,cap,c,s,by simp[St.fh],a.uh,F,M,z,A,W,?_,?_⟩
   ·intro o C;simp[St.fh];rw[κ (by rw[V];omega)];exact a.yd o
   ·intro m hm;simp[St.fh];rw[bM];exact t m aa
  ·rename_i D;have C:=a.obj id x h;refine C.cj p (λb hb=> ?_) (λm=>by simp only[St.fh];rw[κ (by rintro⟨e,_⟩;exact D e)]);obtain⟨K,G,_,I⟩:=C.aX;rw[hb] at G;cases G;exact⟨d b I,λo=>by simp only[St.fh];rw[κ (by rintro⟨rfl,_⟩;exact absurd I (aEu _))]⟩
 ·intro id gD x x' h g hb;have key:∀i y,i≠k->H.get i=some y->∃b,aX (σ.fh w.heap.size 0 cs k n cap) i y=some b/\aX σ i y=some b/\b<w.heap.size:=λi y _ R=>by obtain⟨b,f,_,h3⟩:=(a.obj i y R).aX;exact⟨b,Cm p f,f,h3⟩
  have q:aX (σ.fh w.heap.size 0 cs k n cap) k (.bQ n et)=some w.heap.size:=by simp[aX,St.fh]
  rw[hg] at h g;split at h
  ·rename_i r;split at g
   ·rename_i l;rw[r,l]
   ·rename_i l;cases h;obtain⟨b,f,_,h3⟩:=key gD x' l g;rw[r,q,f] at hb;cases hb;exact absurd h3 (aEu _)
  ·rename_i r;split at g
   ·rename_i l;cases g;obtain⟨b,f,_,h3⟩:=key id x r h;rw[l,q,f] at hb;cases hb;exact absurd h3 (aEu _)
   ·rename_i l;obtain⟨b,f,O,_⟩:=key id x r h;obtain⟨K,T,U,_⟩:=key gD x' l g;rw[f,T] at hb;exact a.inj id gD x x' h g (by rw[O,U,hb])
def aY.ahc(d:aY P B W0 H σ w){k n m et}{s cap b}{cs:List Value}{c:Array Value}(p:H.get k=some (.bQ n et))(U:σ.own k n=some (b,cap))
  (I:w.heap[b]? =some (.cells c et (0,0))) (L:bX P et=some s) (S:cs.length=m*s) (Z:∀v∈cs,v.oneCell'=true) (hm:0<m) (V:n+m<=cap):
  aY P B W0 (H.set k (.bQ (n+m) et)) (σ.fh b (n*s) cs k (n+m) cap) (w.setRow b (c.toList.take (n*s)++cs++c.toList.drop (n*s+cs.length)).toArray)/\Ext B σ (σ.fh b (n*s) cs k (n+m) cap):=by
 obtain⟨a,zj,c',s',A,K,h3,M,h5,h6,h7,Q,T⟩:=d.obj k _ p;rw[U] at A;cases A;rw[I] at h3;cases h3;rw[L] at M;cases M;have l:σ.le (σ.fh b (n*s) cs k (n+m) cap):=St.V5 Q (.inl (T _ aa));have J:∀i,i≠b->(w.setRow b (c.toList.take (n*s)++cs++c.toList.drop (n*s+cs.length)).toArray).heap[i]? =w.heap[i]? :=λi hi=>aGe w b i _ hi;have N:=setRow_heap w b c (c.toList.take (n*s)++cs++c.toList.drop (n*s+cs.length)).toArray et (0,0) I;have sa:n*s+cs.length<=c.size:=by rw[S,h5,<-Nat.add_mul];exact aEq _ V
 have Y:∀o,((c.toList.take (n*s)++cs++c.toList.drop (n*s+cs.length)).toArray)[o]? =if n*s<=o/\o<n*s+cs.length then cs[o-n*s]? else c[o]? :=by
  intro o;rw[aFM];by_cases A:o<n*s
  ·rw[bM,Λ,atI aP,Τ A,aEm]
  ·rw[Λ,Ψ aP];simp[aEH,aEx];rw[show min (n*s) c.size=n*s from aa];by_cases W:o<n*s+cs.length
   ·rw[μ ⟨aa,W⟩,atI aa]
   ·rw[bM,Ψ aa,aEz,aEm];congr 1;omega
 have E:∀i,(H.set k (.bQ (n+m) et)).get i=if i=k then some (.bQ (n+m) et) else H.get i:=λi=>by
  rw[ab.eE];by_cases e:k=i
  ·subst e;simp[p]
  ·rw[κ e,κ (aFw e)]
 have u:aX (σ.fh b (n*s) cs k (n+m) cap) k (.bQ (n+m) et)=some b:=by simp[aX,St.fh]
 have t:aX σ k (.bQ n et)=some b:=by simp[aX,U]
 refine⟨⟨d.below.trans ⟨rfl,rfl,rfl,ah,λi hi=>J i (by rintro rfl;exact K hi)⟩,d.base,?_,?_,?_,?_,?_,?_⟩,l,?_⟩
 ·intro a o v h;simp[St.fh] at h;by_cases hb:a=b
  ·subst hb;rw[cell_of_row N,Y];split at h
   ·rename_i D;rw[μ ⟨D.2.1,D.2.2⟩];exact h
   ·rename_i D;rw[κ (λq=>D ⟨rfl,q.1,q.2⟩)];have:=d.cells a o v h;rwa [cell_of_row I] at this
  ·rw[κ (λq=>hb q.1)] at h;rw[cell_of_heap (J a hb)];exact d.cells a o v h
 ·intro a o v h;simp[St.fh] at h;split at h
  ·exact Z v (Δ h)
  ·exact d.one a o v h
 ·intro id hid;have X:H.next<=id:=hid;have C:id≠k:=by have:=d.keys k _ p;omega
  have:=d.fresh id X;refine⟨this.1,λq=> ?_⟩;simp[St.fh];rw[κ (by rintro⟨e,_⟩;exact C e)];exact this.2 q
 ·intro id x h;rw[E] at h;show id<H.next;split at h
  ·rename_i e;subst e;exact d.keys id _ p
  ·exact d.keys id x h
 ·intro id x h;rw[E] at h;split at h
  ·rename_i e;subst e;cases h;refine⟨b,cap,_,s,by simp[St.fh],K,N,L,?_,V,h7,?_,?_⟩
   ·simp[aEw,aEH,adv,aEx];omega
   ·intro o G;simp[St.fh];rw[aEM] at G;rw[κ (by rw[S];omega)];exact Q o aa
   ·intro q hq;simp[St.fh];rw[bM];exact T q aa
  ·rename_i C;have G:=d.obj id x h;have O:∀a,aX σ id x=some a->a≠b:=by rintro a r rfl;exact C (d.inj id k x _ h p (by rw[r,t]))
   refine G.cj l (λa r=>⟨J a (O a r),λo=> ?_⟩) (λq=> ?_)
   ·simp only[St.fh];rw[κ (λq=>O a r q.1)]
   ·simp only[St.fh];rw[κ (by rintro⟨e,_⟩;exact C e)]
 ·intro id gD x x' h g hb;have key:∀i y,i≠k->H.get i=some y->∃a,aX (σ.fh b (n*s) cs k (n+m) cap) i y=some a/\aX σ i y=some a/\a≠b:=λi y hi R=>by obtain⟨a,f,_,_⟩:=(d.obj i y R).aX;refine⟨a,Cm l f,f,?_⟩;rintro rfl;exact hi (d.inj i k y _ R p (by rw[f,t]))
  rw[E] at h g;split at h
  ·rename_i z;split at g
   ·rename_i j;rw[z,j]
   ·rename_i j;cases h;obtain⟨a,f,_,F⟩:=key gD x' j g;rw[z,u,f] at hb;cases hb;exact absurd rfl F
  ·rename_i z;split at g
   ·rename_i j;cases g;obtain⟨a,f,_,F⟩:=key id x z h;rw[j,u,f] at hb;cases hb;exact absurd rfl F
   ·rename_i j;obtain⟨b1,f,g1,_⟩:=key id x z h;obtain⟨b2,q2,g2,_⟩:=key gD x' j g;rw[f,q2] at hb;exact d.inj id gD x x' h g (by rw[g1,g2,hb])
 ·intro a o r;simp only[St.fh];rw[κ (by rintro⟨rfl,_⟩;exact K r)]
end
section
variable {P:Program} {B:Nat->Prop} {W0:World} {H:ab} {σ:St} {w:World}
def aeI(t ty e)(i:TypeInfo)(b:P.underlying t=some (.slice e))(hi:P.info? e=some i)(a a2)(n cap c2)(h:n<=cap):
  (Builtin.append_ #[t,t] ty #[.slice a n cap,.slice a2 0 c2]).run P w=.ok (.slice a n cap) w:=by
 cases a<;>cases a2<;>simp[Builtin.append_,run_underlying b,sizeOf,typeInfo,hi,Builtin.lenOf,Builtin.firstCells,loadCells,loadCellsFrom,h,storeCells]
def qA:∀l k x,cg l k=some x->aH l k x=l
 |[],_,_,h=>by simp[cg] at h
 |(j,y)::l,k,x,h=>by
  simp[cg] at h;simp[aH];split
  ·rename_i e;rw[μ e] at h;cases h;rfl
  ·rename_i e;rw[κ e] at h;rw[qA l k x h]
def ab.N1{k}{x}(h:H.get k=some x):H.set k x=H:=by
 unfold ab.set
 have:cg H.jo k=some x:=by
  unfold ab.get at h;split at h
  ·exact h
  ·cases h
 rw[qA H.jo k x this]
def YO{t}{s b}{z:List AV}(a:bX P t=some s)(hb:jS P t=some b)(d:dz P t=some z):
  ∃i zv,P.info? t=some i/\i.size=s/\i.bytes=b/\i.zero=some zv/\zv.cells.size=z.length:=by
 obtain⟨i,zv,hi,c,rfl⟩:=Ey d;refine⟨i,zv,hi,?_,?_,c,ah⟩
 ·simpa[bX,hi] using a
 ·simpa[jS,hi] using hb
def aeJ(f:aY P B W0 H σ w){A ty}{o o'}{es fs}{v}{ux uy}{H'}(rx:aj σ (.vec o es) ux)(ry:aj σ (.vec o' fs) uy){et s fQ}{z:List AV}
  (kx:fk P A=some et) (F:bX P et=some s) (oO:jS P et=some fQ) (hz:dz P et=some z) (jW:s≠0) (gL:z.length=s) (h:nH P A et fQ o es fs H=some (v,H')):
  fx P ((do pure (Next.value (<-Builtin.append_ #[A,A] ty #[ux,uy])):Sem Next).run P w) (kF P B W0 σ v H'):=by
    simp only[nH] at h;split at h
    ·rename_i hc;obtain⟨a',c',yL,hlen⟩:=hc;have J:=tT kx;obtain⟨i,zv,hi,R,BA,BB,xI⟩:=YO F oO hz;have Ll:=rx;simp only[aj] at rx ry;obtain⟨ax,cx,rfl,Lm,BC,S'⟩:=rx;obtain⟨ay,K,rfl,hly,_,d'⟩:=ry;obtain⟨et1,s1,S,cM,lG⟩:=MT a';obtain⟨et2,s2,qW,bF,mv⟩:=MT c';rw[kx] at S qW;cases S;cases qW;rw[F] at cM bF;cases cM;cases bF;have Ds:es.length+fs.length<=maxLen:=by unfold maxLen;omega
     by_cases G:fs=[]
     ·subst G;have r:=aeI (P:=P) (w:=w) A ty et i J hi ax ay es.length cx K Lm;simp only[Χ] at h⊢;simp only[Φ,r,Ε,as1,fx]
      cases o with
      |nil=>
       simp only at h;split at h
       ·rename_i DR;simp only[aEl,Ζ,aES] at h;obtain⟨rfl,rfl⟩:=h;have:es=[]:=aE4 DR;subst this;exact⟨σ,Ext.refl _ _,f,Ll⟩
       ·cases h
      |ro=>simp only[aEl,Ζ,aES] at h;obtain⟨rfl,rfl⟩:=h;exact⟨σ,Ext.refl _ _,f,Ll⟩
      |full=>simp only[aEl,Ζ,aES] at h;obtain⟨rfl,rfl⟩:=h;exact⟨σ,Ext.refl _ _,f,Ll⟩
      |own k=>
       simp only at h;split at h
       ·rename_i n D M;split at h
        ·rename_i a_;obtain⟨rfl,rfl⟩:=a_;simp only[aFG,Η,Ζ,aES] at h;obtain⟨rfl,rfl⟩:=h;rw[ab.N1 M];exact⟨σ,Ext.refl _ _,f,Ll⟩
        ·cases h
       ·cases h
     ·have FH:0<fs.length:=aE3.2 G;obtain⟨L,Q,p,rfl,T⟩:=d'.resolve_left G;have e':p=s:=T.lr G mv;subst e';obtain⟨news,y,Ta,V⟩:=T.flat;have Y:∀(j:Nat) (u:Value),news[j]? =some u->w.cell? ((⟨L,Q,none⟩:Addr).add j)=some u:=λj u d=>by rw[Addr.qF];exact f.cells _ _ _ (Ta j u d)
      have N:∀u∈news,u.oneCell'=true:=λu q=>by obtain⟨j,d⟩:=aEG q;exact f.one _ _ _ (Ta j u d)
      have O:news.length=fs.length*i.size:=by rw[y,R]
      cases o with
      |ro=>simp only[Ξ,G,ap1] at h;cases h
      |full=>
       simp only[Ξ,G,ap1,Ζ,aES] at h;obtain⟨rfl,rfl⟩:=h;simp only[nO] at BC;subst BC;have qj:∀m,es.length+fs.length<=m->σ.own H.next m=none:=λm _=>(f.fresh H.next (ν _)).2 m
       cases ax with
       |none=>
        have E:es=[]:=by
         rcases S' with h0|⟨b,off,s,e,_⟩
         ·exact h0
         ·cases e
        subst E
        have r:=run_append_nil (P:=P) w A ty et i zv J hi BB ⟨L,Q,none⟩ fs.length K news O Y FH aa (by
         rw[BA];have:=yL;rw[Χ,aEF] at this;omega)
        have x:=aGy w fs.length 0 et;have I:=aFs w fs.length 0 et aa;simp only[Χ,aEF,Ο] at qj⊢;simp only[Φ,r,Ε,as1,fx]
        obtain⟨C,g⟩:=f.Cp (k:=H.next) (n:=fs.length) (et:=et) (s:=p) (cap:=grownCap w fs.length 0 et) (cs:=news)
         (c:=news.toArray++Builtin.zeroCells zv.cells (grownCap w fs.length 0 et-fs.length)) (w1:=w.drew) rfl f.below.drew F y
         (λj v d=>by
          have:j<news.length:=(φ.1 d).1
          rw[aEZ (by simpa using this)];simpa using d)
         N (by
          simp only[aGf,aEw,aFU,xI,gL,y,<-Nat.add_mul]
          congr 1;omega) x I (λm _=>(f.fresh H.next (ν _)).2 m) (H':=H.push (.bQ fs.length et))
         (by show H.next+1=_;omega) (λi=>by
          rw[ab.fL];by_cases e:H.next=i
          ·subst e;simp
          ·rw[κ e,κ (aFw e)])
        refine⟨_,⟨g,λb o hb=> ?_⟩,C,?_⟩
        ·simp only[St.fh];rw[κ (by rintro⟨rfl,_⟩;exact f.uh hb)]
        ·simp only[aj];refine⟨_,_,rfl,x,⟨w.heap.size,by simp[St.fh],rfl⟩,.inr ⟨w.heap.size,0,p,rfl,V _ _ _ g λj v d=>St.Al d⟩⟩
       |some ad=>
        obtain⟨a,t,l,W,FI⟩:∃a:List Value,a.length=es.length*p/\(∀j u,a[j]? =some u->w.cell? (ad.add j)=some u)/\
          (∀aS b' xn,σ.le aS->(∀j v,a[j]? =some v->aS.cells b' (xn+j)=some v)->b_ aS b' p xn es)/\∀u∈a,u.oneCell'=true:=by
         by_cases E:es=[]
         ·subst E;exact⟨[],ah,ah,λ_ _ _ _ _=>by simp[b_],ah⟩
         ·obtain⟨b2,o2,s2,e2,row⟩:=S'.resolve_left E;cases e2;have:=row.lr E lG;subst this;obtain⟨a,t,X,W⟩:=row.flat
          exact⟨a,t,λj u d=>by rw[Addr.qF];exact f.cells _ _ _ (X j u d),W,λu q=>by
           obtain⟨j,d⟩:=aEG q
           exact f.one _ _ _ (X j u d)⟩
        have r:=run_append_grow (P:=P) w A ty et i zv J hi BB ad es.length es.length a (by rw[t,R]) l ⟨L,Q,none⟩ fs.length K news O Y aa aa
         (aGD aa (by rw[BA];exact yL))
        have x:=aGy w (es.length+fs.length) es.length et;have I:=aFs w (es.length+fs.length) es.length et Ds;simp only[Φ,r,Ε,as1,fx]
        obtain⟨C,g⟩:=f.Cp (k:=H.next) (n:=es.length+fs.length) (et:=et) (s:=p) (cap:=grownCap w (es.length+fs.length) es.length et) (cs:=a++news)
         (c:=a.toArray++news.toArray++Builtin.zeroCells zv.cells (grownCap w (es.length+fs.length) es.length et-(es.length+fs.length))) (w1:=w.drew) rfl f.below.drew F
         (by rw[τ,t,y,<-Nat.add_mul])
         (λj v d=>by
          have:j<(a++news).length:=(φ.1 d).1
          rw[aEZ (by simpa using this)];simpa using d)
         (λu q=>by
          rcases aEo.1 q with q|q
          ·exact FI u q
          ·exact N u q) (by
          simp only[aGf,aEw,aFU,xI,gL,y,t,<-Nat.add_mul]
          congr 1;omega) x I qj (H':=H.push (.bQ (es.length+fs.length) et))
         (by show H.next+1=_;omega) (λi=>by
          rw[ab.fL];by_cases e:H.next=i
          ·subst e;simp
          ·rw[κ e,κ (aFw e)])
        refine⟨_,⟨g,λb o hb=> ?_⟩,C,?_⟩
        ·simp only[St.fh];rw[κ (by rintro⟨rfl,_⟩;exact f.uh hb)]
        ·simp only[aj];refine⟨_,_,by rw[τ],by rw[τ];exact x,⟨w.heap.size,by simp[St.fh],rfl⟩,.inr ⟨w.heap.size,0,p,rfl,?_⟩⟩;refine b_.append (W _ _ _ g λj v d=> ?_) (V _ _ _ g λj v d=> ?_)
         ·exact St.Al (by rw[atI (φ.1 d).1];exact d)
         ·rw[aEF,show es.length*p+j=0+(a.length+j) from by rw[t];omega];exact St.Al (by rw[Ψ aa];simpa using d)
      |nil=>
       simp only at h;split at h
       ·rename_i DR;simp only[Ξ,G,ap1,Ζ,aES] at h;obtain⟨rfl,rfl⟩:=h;obtain⟨rfl,_,BD⟩:=BC;subst BD;rw[DR]
        have r:=run_append_nil (P:=P) w A ty et i zv J hi BB ⟨L,Q,none⟩ fs.length K news O Y FH aa (by
         rw[BA];have:=yL;rw[DR,aEF] at this;omega)
        have x:=aGy w fs.length 0 et;have I:=aFs w fs.length 0 et aa;simp only[Φ,r,Ε,as1,fx]
        obtain⟨C,g⟩:=f.Cp (k:=H.next) (n:=fs.length) (et:=et) (s:=p) (cap:=grownCap w fs.length 0 et) (cs:=news)
         (c:=news.toArray++Builtin.zeroCells zv.cells (grownCap w fs.length 0 et-fs.length)) (w1:=w.drew) rfl f.below.drew F y
         (λj v d=>by
          have:j<news.length:=(φ.1 d).1
          rw[aEZ (by simpa using this)];simpa using d)
         N (by
          simp only[aGf,aEw,aFU,xI,gL,y,<-Nat.add_mul]
          congr 1;omega) x I (λm _=>(f.fresh H.next (ν _)).2 m) (H':=H.push (.bQ fs.length et))
         (by show H.next+1=_;omega) (λi=>by
          rw[ab.fL];by_cases e:H.next=i
          ·subst e;simp
          ·rw[κ e,κ (aFw e)])
        refine⟨_,⟨g,λb o hb=> ?_⟩,C,?_⟩
        ·simp only[St.fh];rw[κ (by rintro⟨rfl,_⟩;exact f.uh hb)]
        ·simp only[aj];refine⟨_,_,rfl,x,⟨w.heap.size,by simp[St.fh],rfl⟩,.inr ⟨w.heap.size,0,p,rfl,V _ _ _ g λj v d=>St.Al d⟩⟩
       ·cases h
      |own k=>
       simp only at h;split at h
       ·rename_i n D M;split at h
        ·rename_i a_;obtain⟨rfl,rfl⟩:=a_;cases h;obtain⟨b,cap,c,s',h1,hB,h3,h4,h5,h6,h7,h8,h9⟩:=f.obj k _ M;rw[F] at h4;cases h4;obtain⟨b',be,rfl⟩:=BC;rw[h1] at be;obtain⟨rfl,rfl⟩:b=b'/\cap=cx:=by simpa using be
         have U:b_ σ b p 0 es:=by
          rcases S' with rfl|⟨b2,o2,s2,e2,row⟩
          ·simp[b_]
          ·cases e2;by_cases E:es=[]
           ·subst E;simp[b_]
           ·have:=row.lr E lG;subst this;exact row
         by_cases Z:es.length+fs.length<=cap
         ·have sa:es.length*i.size+news.length<=c.size:=by rw[O,h5,<-R,<-Nat.add_mul];exact aEq _ Z
          have r:=run_append_room (P:=P) w A ty D i J hi b es.length cap c h3 ⟨L,Q,none⟩ fs.length K news O Y N Z sa;obtain⟨C,dg⟩:=f.ahc M h1 h3 F y N FH Z;simp only[Φ,r,Ε,as1,fx,R];refine⟨_,dg,C,?_⟩;simp only[aj];refine⟨_,cap,by rw[τ],by rw[τ];exact Z,⟨b,by simp[St.fh],rfl⟩,.inr ⟨b,0,p,rfl,?_⟩⟩;refine b_.append (U.mono dg.le) ?_;exact V _ _ _ dg.le λj v d=>by rw[aEF];exact St.Al d
         ·obtain⟨a,t,X,W⟩:=U.flat;have l:∀j u,a[j]? =some u->w.cell? ((⟨b,0,none⟩:Addr).add j)=some u:=λj u d=>by rw[Addr.qF];exact f.cells _ _ _ (X j u d)
          have FI:∀u∈a++news,u.oneCell'=true:=λu q=>by
           rcases aEo.1 q with q|q
           ·obtain⟨j,d⟩:=aEG q;exact f.one _ _ _ (X j u d)
           ·exact N u q
          have r:=run_append_grow (P:=P) w A ty D i zv J hi BB ⟨b,0,none⟩ es.length cap a (by rw[t,R]) l ⟨L,Q,none⟩ fs.length K news O Y aa aa
           (aGD aa (by rw[BA];exact yL))
          have x:=aGy w (es.length+fs.length) cap D;have I:=aFs w (es.length+fs.length) cap D Ds;simp only[Φ,r,Ε,as1,fx];have qj:k<H.next:=f.keys k _ M
          obtain⟨C,g⟩:=f.Cp (k:=k) (n:=es.length+fs.length) (et:=D) (s:=p) (cap:=grownCap w (es.length+fs.length) cap D) (cs:=a++news)
           (c:=a.toArray++news.toArray++Builtin.zeroCells zv.cells (grownCap w (es.length+fs.length) cap D-(es.length+fs.length))) (w1:=w.drew) rfl f.below.drew F
           (by rw[τ,t,y,<-Nat.add_mul])
           (λj v d=>by
            have:j<(a++news).length:=(φ.1 d).1
            rw[aEZ (by simpa using this)];simpa using d)
           FI (by
            simp only[aGf,aEw,aFU,xI,gL,y,t,<-Nat.add_mul]
            congr 1;omega) x I (λm hm=>h9 m aa) (H':=H.set k (.bQ (es.length+fs.length) D))
           (by show H.next=_;omega) (λi=>by
            rw[ab.eE];by_cases e:k=i
            ·subst e;simp[M]
            ·rw[κ e,κ (aFw e)])
          refine⟨_,⟨g,λb o hb=> ?_⟩,C,?_⟩
          ·simp only[St.fh];rw[κ (by rintro⟨rfl,_⟩;exact f.uh hb)]
          ·simp only[aj];refine⟨_,_,by rw[τ],by rw[τ];exact x,⟨w.heap.size,by simp[St.fh],rfl⟩,.inr ⟨w.heap.size,0,p,rfl,?_⟩⟩;refine b_.append (W _ _ _ g λj v d=> ?_) (V _ _ _ g λj v d=> ?_)
           ·exact St.Al (by rw[atI (φ.1 d).1];exact d)
           ·rw[aEF,show es.length*p+j=0+(a.length+j) from by rw[t];omega];exact St.Al (by rw[Ψ aa];simpa using d)
        ·cases h
       ·cases h
    ·cases h
def b_.aaU{b s}:∀{off:Nat} {es:List AV},b_ σ b s off es->fF s es=true->∃us:List Value,au σ (es.flatMap AV.cells) us/\us.length=es.length*s/\∀j v,us[j]? =some v->σ.cells b (off+j)=some v
 |_,[],_,_=>⟨[],by simp[au],ah,ah⟩
 |off,e::es,h,d=>by
  simp[b_] at h;simp[fF] at d;obtain⟨⟨u,r,c,k⟩,q⟩:=h;obtain⟨us,f,g,l⟩:=b_.aaU q d.2;refine⟨u.cells.toList++us,?_,by simp[g,c,aEM,aFp],?_⟩
  ·simp[agX];exact(r.cells (by rw[d.1];simp)).append f
  ·intro j v a;by_cases i:j<s
   ·rw[atI (by simpa[c] using i)] at a;exact k j v (by simpa using a)
   ·rw[Ψ (by simp[c];omega)] at a;have:=l _ v a;simp[aEx,c] at this;rwa [show off+s+(j-s)=off+j from aa] at this
def aeU{s}{es:List AV}(h:fF s es=true):∀e,es.head? =some e->e.width=some s:=by
 intro e a
 cases es with
 |nil=>simp at a
 |cons x es=>simp[fF] at h;simp at a;subst a;exact h.1
def Nv(k:aY P B W0 H σ w){o}{es:List AV}{u}{s}(r:aj σ (.vec o es) u)(g:fF s es=true):∃a cap,∃us:List Value,u=.slice a es.length cap/\es.length<=cap/\nO σ o a es.length cap/\au σ (es.flatMap AV.cells) us/\us.length=es.length*s/\
  (∀f,a=some f->∀j v,us[j]? =some v->w.cell? (f.add j)=some v)/\(a=none->es=[])/\∀v∈us,v.oneCell'=true:=by
 simp only[aj] at r;obtain⟨a,cap,rfl,i,h,h3⟩:=r;by_cases d:es=[]
 ·subst d;exact⟨a,cap,[],rfl,i,h,by simp[au],ah,ah,λ_=>rfl,ah⟩
 ·obtain⟨b,off,n,rfl,row⟩:=h3.resolve_left d;have t:n=s:=row.lr d (aeU g);subst t;obtain⟨us,m,p,l⟩:=row.aaU g;refine⟨_,cap,us,rfl,i,h,m,p,λf e j v c=> ?_,ah,λv q=> ?_⟩
  ·cases e;rw[Addr.qF];exact k.cells _ _ _ (l j v c)
  ·obtain⟨j,c⟩:=aEG q;exact k.one _ _ _ (l j v c)
def aro(z:aY P B W0 H σ w){y}{u}{s m}{f}(r:aj σ y u)(h:nT P H s y=some (m,f)):∃a cap,∃us:List Value,u=.slice a m cap/\au σ f us/\us.length=m*s/\
  (∀i,a=some i->∀j v,us[j]? =some v->w.cell? (i.add j)=some v)/\(a=none->m=0)/\∀v∈us,v.oneCell'=true:=by
 cases y with
 |vec o fs=>
  simp only[nT] at h;split at h
  ·rename_i D;cases h;obtain⟨a,cap,us,g,_,_,q,h5,k,h7,x⟩:=Nv z r D;exact⟨a,cap,us,g,q,h5,k,λe=>by rw[h7 e];rfl,x⟩
  ·cases h
 |sl id s' off len=>
  simp[nT] at h;split at h
  ·rename_i n et d cs hg;split at h
   ·rename_i L;obtain⟨rfl,p,rfl⟩:=L;simp at h;obtain⟨rfl,rfl⟩:=h;obtain⟨b,cap,c,g,F,h2,h3,q,h5,k,h7,x,h9,C,G,nY⟩:=z.obj id _ hg;simp only[aj] at r;obtain⟨b',zj,A,t,rfl,e3⟩:=r;rw[g] at A;cases A;rw[F] at t;cases t;have hmul:off*d+len*d<=n*d:=by rw[<-Nat.add_mul];exact aEq _ p
    have S7:n*d<=c.size:=by rw[k];exact aEq _ h7
    refine⟨some ⟨b,off*d,none⟩,cap-off,((c.toList.take (n*d)).drop (off*d)).take (len*d),rfl,(C.drop _).take _,?_,?_,ah,λv J=>G v (aFh (aGx J))⟩
    ·simp[aEH,adv,aEx];omega
    ·rintro i e j v l;cases e;have I:j<len*d:=by have:=(φ.1 l).1;simp at this;omega
     rw[Τ I,aEz,Τ aa,aEm] at l;rw[Addr.qF,cell_of_row h3];exact l
   ·cases h
  ·cases h
 |val v0=>
  simp only[nT] at h;split at h
  ·rename_i E;obtain⟨a0,K,rfl⟩:=Ns E;cases h;simp[aj] at r;subst r;exact⟨some a0,K,[],rfl,by simp[au],ah,ah,ah,ah⟩
  ·cases h
 |_=>simp[nT] at h
def aY.YP(a:aY P B W0 H σ w){n s cap}{et}{cs}{us:List Value}{zs:Array Value}{w1:World}(e:bX P et=some s)(g:s≠0)(c:au σ cs us)(b:us.length=n*s)(d:∀v∈us,v.oneCell'=true)
  (k:us.length+zs.size=cap*s) (l:n<=cap) (f:cap<=maxLen) (h:w1.heap=w.heap) (j:gN B W0 w1):
  aY P B W0 (H.push (.row n et s cs)) (σ.fN H.next w.heap.size cap) (w1.alloc (.cells (us.toArray++zs) et))/\Ext B σ (σ.fN H.next w.heap.size cap):=by
 refine a.YL (cap:=cap) h j (by simp[aX,St.fN]) λi=>⟨w.heap.size,cap,_,by simp[St.fN],by simp[St.fN],a.uh,i,e,g,by simp[k],l,f,by rw[<-c.length,b],?_,?_,λo=>a.yd o⟩
 ·have:((us.toArray++zs).toList).take (n*s)=us:=by simp[<-b]
  rw[this];exact c.mono (a.NZ _ _)
 ·have:((us.toArray++zs).toList).take (n*s)=us:=by simp[<-b]
  rw[this];exact d
def aeE(t tx ty e)(i:TypeInfo)(j:P.underlying t=some (.slice e))(hi:P.info? e=some i)(g Bf RP)(a:Array Value)(hg:w.heap[g]? =some (.cells a e (0,0)))
  (x) (m) (news:List Value) (b:Src P i.size tx x m news w) (h:Bf+m<=RP) (f:Bf*i.size+news.length<=a.size):
  (Builtin.append_ #[t,tx] ty #[.slice (some ⟨g,0,none⟩) Bf RP,x]).run P w=
   .ok (.slice (some ⟨g,0,none⟩) (Bf+m) RP) (w.setRow g (a.toList.take (Bf*i.size)++news++a.toList.drop (Bf*i.size+news.length)).toArray):=by
 have d:=aGK P g (Bf*i.size) e news 0 a w hg (by simpa using f) b.one;simp at d;rcases b.kind with⟨e',c⟩|c<;>simp[Builtin.append_,run_underlying j,run_underlying c,sizeOf,typeInfo,hi,b.len,h,b.cells,Addr.add_lit,d]
def UC(g:aY P B W0 H σ w){D C ty}{x v}{S A}{H'}(p:aj σ x S){m}{f}{news}{et s fQ}{z:List AV}
  (zg:Src P s C A m news w) (U:au σ f news)
  (kx:fk P D=some et) (cz:bX P et=some s) (oO:jS P et=some fQ) (hz:dz P et=some z) (jW:s≠0) (gL:z.length=s) (h:oV et s fQ x m f H=some (v,H')):
  fx P ((do pure (Next.value (<-Builtin.append_ #[D,C] ty #[S,A])):Sem Next).run P w) (kF P B W0 σ v H'):=by
 have I:=tT kx;obtain⟨i,zv,hi,G,BA,BB,xI⟩:=YO cz oO hz;unfold oV at h;have q:=zg.newsLen;have gP:=zg.one;have J:Src P i.size C A m news w:=by rw[G];exact zg
 cases x with
 |vec o es=>
  simp only at h;split at h
  ·rename_i F;subst F;cases h;have uL:news=[]:=by apply aE4;rw[q];simp
   subst uL;have X:=p;simp[aj] at p;obtain⟨R,W,rfl,Lm,_⟩:=p;have r:=run_append_nothing (P:=P) w D C ty et i I hi R es.length W Lm A J;simp[Φ,r,Ε,as1,fx];exact⟨σ,Ext.refl _ _,g,X⟩
  ·rename_i F;have FH:0<m:=aGE F
   have go:∀{o:Own},aj σ (.vec o es) S->(o=.nil\/o=.full)->(if fF s es=true/\(es.length+m)*fQ<=140737488355328/\es.length+m<=9223372036854775807 then some (AV.sl H.next s 0 (es.length+m),H.push (.row (es.length+m) et s (es.flatMap AV.cells++f))) else none)=some (v,H')->
     fx P ((do pure (Next.value (<-Builtin.append_ #[D,C] ty #[S,A])):Sem Next).run P w) (kF P B W0 σ v H'):=by
    intro o p ho h;split at h
    ·rename_i hc;obtain⟨hw,yL,K⟩:=hc;cases h;obtain⟨R,W,e,rfl,Lm,BC,d',V,E,a',FI⟩:=Nv g p hw
     have BD:W=es.length:=by
      rcases ho with rfl|rfl
      ·simp[nO] at BC;omega
      ·exact BC
     subst BD;have Ds:es.length+m<=maxLen:=by unfold maxLen;omega
     have l:(Builtin.firstCells i.size es.length (.slice R es.length es.length)).run P w.drew=.ok e.toArray w.drew:=by
      cases R with
      |none=>
       have gT:=a' rfl;subst gT;have c':e=[]:=by apply aE4;rw[V];simp
       subst c';exact run_firstCells_none _ _ _ _ _
      |some Z=>exact run_firstCells_some _ _ _ _ _ _ _ (by rw[V,G]) (by simpa using E Z rfl)
     have r:=run_append_grow_src (P:=P) w D C ty et i zv I hi BB R es.length es.length e l A m news J aa aa
      (aGD aa (by rw[BA];exact yL))
     have jT:=aGy w (es.length+m) es.length et;have lY:=aFs w (es.length+m) es.length et Ds
     obtain⟨Q,N⟩:=g.YP (n:=es.length+m) (cap:=grownCap w (es.length+m) es.length et) (us:=e++news) (cs:=es.flatMap AV.cells++f) (zs:=Builtin.zeroCells zv.cells (grownCap w (es.length+m) es.length et-(es.length+m))) (w1:=w.drew) cz jW (d'.append U)
      (by rw[τ,V,q,<-Nat.add_mul]) (λv d=>by
       rcases aEo.1 d with d|d
       ·exact FI v d
       ·exact gP v d) (by
       rw[τ,V,q,aFU,xI,gL,<-Nat.add_mul,<-Nat.add_mul];congr 1;omega) jT lY rfl g.below.drew
     simp[Φ,r,Ε,as1,fx];refine⟨_,N,Q,?_⟩;simp only[aj];exact⟨w.heap.size,grownCap w (es.length+m) es.length et,by simp[St.fN],by simp[St.fN],ah,aa⟩
    ·cases h
   cases o with
   |ro=>simp at h
   |own k=>simp at h
   |nil=>exact go p (.inl rfl) h
   |full=>exact go p (.inr rfl) h
 |sl id s' off len=>
  simp only at h;have X:=p;simp only[aj] at p;obtain⟨b,cap,Bc,kV,rfl,lA⟩:=p;split at h
  ·rename_i F;subst F;cases h;have uL:news=[]:=by apply aE4;rw[q];simp
   subst uL;have r:=run_append_nothing (P:=P) w D C ty et i I hi (some ⟨b,off*s',none⟩) len (cap-off) aa A J;simp[Φ,r,Ε,as1,fx];exact⟨σ,Ext.refl _ _,g,X⟩
  ·rename_i F;have FH:0<m:=aGE F;split at h
   ·rename_i n t a cs hg;split at h
    ·rename_i hc;obtain⟨rfl,rfl,rfl,rfl,Bv,yL,K⟩:=hc;cases h;obtain⟨b',zj,c,h1,jV,h2,h3,h4,h5,h6,h7,h8,h9,k7,mu,nY⟩:=g.obj id _ hg;rw[Bc] at h1;cases h1;rw[kV] at jV;cases jV;have Ds:len+m<=maxLen:=by unfold maxLen;omega
     have aD7:len*a<=n*a:=aEq _ Bv;have S7:n*a<=c.size:=by rw[h6];exact aEq _ h7
     have M:(c.toList.take (len*a)).length=len*a:=aP;have nU:(c.toList.take (n*a)).take (len*a)=c.toList.take (len*a):=by rw[List.take_take];congr 1;omega
     have Tb:au σ (cs.take (len*a)) (c.toList.take (len*a)):=by rw[<-nU];exact k7.take _
     have L:∀v∈c.toList.take (len*a),v.oneCell'=true:=λv d=>mu v (by rw[<-nU] at d;exact aGx d);have c9:(cs.take (len*a)).length=len*a:=by rw[<-Tb.length,M]
     simp;by_cases rT:len+m<=cap
     ·have sa:len*i.size+news.length<=c.size:=by rw[q,h6,G,<-Nat.add_mul];exact aEq _ rT
      have r:=aeE (P:=P) (w:=w) D C ty t i I hi b len cap c h3 A m news J rT sa;simp only[Φ,r,Ε,as1,fx,G];have O:=g.del id
      have oP:((c.toList.take (len*a)++news++c.toList.drop (len*a+news.length)).toArray.toList).take ((len+m)*a)=c.toList.take (len*a)++news:=by
       have:(len+m)*a=(c.toList.take (len*a)++news).length:=by rw[τ,M,q,aEM]
       rw[this];exact List.take_left' rfl
      obtain⟨Q,N⟩:=O.PG (b:=b) (cap:=cap) (x:=.row (len+m) t a (cs.take (len*a)++f)) (w':=w.setRow b (c.toList.take (len*a)++news++c.toList.drop (len*a+news.length)).toArray) h2 (λk hk _=>aGe w b k _ hk)
       (g.below.trans ⟨rfl,rfl,rfl,ah,λk hk=>aGe w b k _ (by rintro rfl;exact h2 hk)⟩)
       (λk y T he=>by
        rw[ab.Cx] at T;split at T
        ·cases T
        ·rename_i a_
         exact a_ (g.inj id k _ y hg T (by rw[he];simp[aX,Bc])))
       nY (by simp[aX,St.fN])
       ⟨b,cap,_,by simp[St.fN],by simp[St.fN],h2,setRow_heap w b c (c.toList.take (len*a)++news++c.toList.drop (len*a+news.length)).toArray t (0,0) h3,h4,h5,by
        simp only[aEw,τ,aEH,adv,aEx];rw[G] at sa;omega,rT,h8,by
        rw[τ,c9,U.length.symm,q,aEM],by
        rw[oP];exact(Tb.append U).mono (O.NZ b cap),by
        rw[oP];intro v d;rcases aEo.1 d with d|d
        ·exact L v d
        ·exact gP v d,nY⟩
      refine⟨_,N,Q,?_⟩;simp only[aj];refine⟨b,cap,?_,?_,ah,aa⟩
      ·show(σ.fN H.next b cap).loc H.next=_;simp[St.fN]
      ·show(σ.fN H.next b cap).own H.next 0=_;simp[St.fN]
     ·have l:(Builtin.firstCells i.size len (.slice (some ⟨b,0,none⟩) len cap)).run P w.drew=.ok (c.toList.take (len*a)).toArray w.drew:=
       run_firstCells_some _ _ _ _ _ _ _ (by rw[M,G]) (λj u Y=>by
        have qV:j<len*a:=by have:=(φ.1 Y).1;omega
        rw[Τ qV,aEm] at Y;rw[Addr.qF,aEF]
        exact(cell_of_row (w:=w) h3 j).trans Y)
      have r:=run_append_grow_src (P:=P) w D C ty t i zv I hi BB (some ⟨b,0,none⟩) len cap (c.toList.take (len*a)) l A m news J aa aa
       (aGD aa (by rw[BA];exact yL))
      have jT:=aGy w (len+m) cap t;have lY:=aFs w (len+m) cap t Ds;simp[Φ,r,Ε,as1,fx]
      obtain⟨Q,N⟩:=(g.del id).YP (n:=len+m) (cap:=grownCap w (len+m) cap t) (us:=c.toList.take (len*a)++news) (cs:=cs.take (len*a)++f) (zs:=Builtin.zeroCells zv.cells (grownCap w (len+m) cap t-(len+m))) (w1:=w.drew) h4 h5 (Tb.append U)
       (by rw[τ,M,q,<-Nat.add_mul]) (λv d=>by
        rcases aEo.1 d with d|d
        ·exact L v d
        ·exact gP v d) (by
        rw[τ,M,q,aFU,xI,gL,<-Nat.add_mul,<-Nat.add_mul];congr 1;omega) jT lY rfl g.below.drew
      refine⟨_,N,Q,?_⟩;simp only[aj];refine⟨w.heap.size,grownCap w (len+m) cap t,?_,?_,ah,aa⟩
      ·show(σ.fN H.next w.heap.size _).loc H.next=_;simp[St.fN]
      ·show(σ.fN H.next w.heap.size _).own H.next 0=_;simp[St.fN]
    ·cases h
   ·cases h
 |_=>simp at h
def aeK(i:aY P B W0 H σ w){a ty}{x y v}{k j}{H'}(C:aj σ x k)(F:aj σ y j){et s fQ}{z:List AV}
  (c:fk P a=some et) (o:bX P et=some s) (t:jS P et=some fQ) (u:dz P et=some z) (l:s≠0) (D:z.length=s) (h:vk P et s fQ x y H=some (v,H')):
  fx P ((do pure (Next.value (<-Builtin.append_ #[a,a] ty #[k,j])):Sem Next).run P w) (kF P B W0 σ v H'):=by
 have d:=tT c;unfold vk at h;split at h
 ·cases h
 ·rename_i m src n;obtain⟨A,e,news,rfl,q,f,G,b,r⟩:=aro i F n;refine UC i C (news:=news) ?_ q c o t u l D h
  cases A with
  |none=>
   have p:=b rfl;subst p;have E:news=[]:=by apply aE4;rw[f];simp
   subst E;exact Src.ofNil w d e
  |some g=>exact Src.ofSlice w d g m e news f (G g rfl) r
def aeL(r:aY P B W0 H σ w){a c ty}{x v}{l}{e d}{H'}(p:aj σ x e)(g:aj σ (.str l) d){et s fQ}{z:List AV}
  (m:fk P a=some et) (k:bX P et=some s) (i:jS P et=some fQ) (u:dz P et=some z) (n:s≠0) (q:z.length=s) (h:Nu P a c et s fQ x l H=some (v,H')):
  fx P ((do pure (Next.value (<-Builtin.append_ #[a,c] ty #[e,d])):Sem Next).run P w) (kF P B W0 σ v H'):=by
 unfold Nu at h;split at h
 ·rename_i t;obtain⟨_,o,rfl⟩:=t;simp[aj] at g;subst g;have f:=Src.ofString (P:=P) w (HB o) ⟨l.toArray⟩;have hb:byteCells ⟨l.toArray⟩=l.map λb=>Value.int .u8 b.toNat:=by simp[byteCells]
  have j:(⟨l.toArray⟩:ByteArray).size=l.length:=by simp[ByteArray.size]
  rw[hb,j] at f;exact UC r p f (au.of_map _ _ l λb _=>by simp[aj]) m k i u n q h
 ·cases h
def ae1(i:aY P B W0 H σ w){fq}{q n ty}{x y v}{r p}{H'}(g:aj σ x r)(j:aj σ y p)(h:cH fq P q n x y H=some (v,H')):
  fx P ((do pure (Next.value (<-Builtin.append_ #[q,n] ty #[r,p])):Sem Next).run P w) (kF P B W0 σ v H'):=by
 unfold cH at h;split at h
 ·rename_i et f;split at h
  ·rename_i s fQ z e d m;split at h
   ·rename_i l;split at h
    ·rename_i k;obtain⟨b,c⟩:=k;exact aeL i g j f e d m b c h
    ·cases h
   ·rename_i a_;split at h
    ·rename_i k;obtain⟨rfl,b,c⟩:=k;split at h
     ·rename_i o es fs a
      obtain⟨t,A,u⟩:∃t,x=.vec o es/\y=.vec t fs:=by
       unfold jK at a;split at a
       ·rename_i o1 es1 o2 fs1;cases o1<;>simp only at a;case ro=>simp at a;obtain⟨rfl,rfl,rfl⟩:=a;exact⟨_,rfl,rfl⟩
        case own=>simp at a;obtain⟨rfl,rfl,rfl⟩:=a;exact⟨_,rfl,rfl⟩
        all_goals
         split at a
         ·cases a
         ·simp at a;obtain⟨rfl,rfl,rfl⟩:=a;exact⟨_,rfl,rfl⟩
       ·cases a
      subst A u;exact aeJ i g j f e d m b c h
     ·exact aeK i g j f e d m b c h
    ·cases h
  ·cases h
 ·cases h
end
section
variable {P:Program} {B:Nat->Prop} {W0:World} {H:ab} {σ:St} {w:World}
def UI:∀{parts:List (Nat×AV)} {k:Nat},mc k parts=true->∀i p,parts[i]? =some p->p.1=k+i
 |[],_,_,i,p,b=>by simp at b
 |(j,a)::parts,k,h,i,p,b=>by
  simp[mc] at h
  cases i with
  |zero=>simp at b;subst b;simpa using h.1
  |succ i=>simp at b;have:=UI h.2 i p b;omega
def W_(s):∀us k cells,(∀i p,us[i]? =some p->p.1=k+i/\p.2.cells.size=s)->(k+us.length)*s<=cells.size->
  ∃out,Instr.fill (λi=>some (i*s,s)) cells us=some out/\out.size=cells.size/\(∀o,o<k*s->out[o]? =cells[o]?)/\
   ∀i p,us[i]? =some p->∀j v,p.2.cells[j]? =some v->out[(k+i)*s+j]? =some v
 |[],k,cells,_,_=>⟨cells,rfl,rfl,λ_ _=>rfl,ah⟩
 |(i0,u)::us,k,cells,e,b=>by
  obtain⟨h,a⟩:=e 0 (i0,u) ah;simp at h a;subst h;simp at b;have sa:i0*s+s<=cells.size:=by have:(i0+1)*s<=(i0+(us.length+1))*s:=aEq _ aa;rw[aEM,aGL] at this;omega
  have g:=M1 (i0*s) u.cells.toList 0 cells (by simp[a];omega)
  obtain⟨out,l,n,f,m⟩:=W_ s us (i0+1) ((u.cells.toList.zipIdx 0).foldl (λ(cs:Array Value) (p:Value×Nat)=>cs.setIfInBounds (i0*s+p.2) p.1) cells)
   (λi p hi=>by have:=e (i+1) p (by simpa using hi);omega)
   (by
    have d:((u.cells.toList.zipIdx 0).foldl (λ(cs:Array Value) (p:Value×Nat)=>cs.setIfInBounds (i0*s+p.2) p.1) cells).size=cells.size:=by have hf:=Ι List.length (MS (i0*s) u.cells.toList cells (by simp[a];omega));simp[aEx,aEH,adv,a] at hf;rw[hf];omega
    rw[d];rw[show i0+1+us.length=i0+(us.length+1) from aa]
    exact b)
  have d:((u.cells.toList.zipIdx 0).foldl (λ(cs:Array Value) (p:Value×Nat)=>cs.setIfInBounds (i0*s+p.2) p.1) cells).size=cells.size:=by have hf:=Ι List.length (MS (i0*s) u.cells.toList cells (by simp[a];omega));simp[aEx,aEH,adv,a] at hf;rw[hf];omega
  refine⟨out,?_,n.trans d,?_,?_⟩
  ·simp only[Instr.fill];rw[κ (by simp[a];omega),<-Array.foldl_toList,Array.toList_zipIdx];exact l
  ·intro o ho;rw[f o (by rw[aEM];omega),g o,bM]
  ·intro i p hi j v c
   cases i with
   |zero=>
    simp at hi;subst hi;have uN:j<s:=by rw[<-a];exact(Α.1 c).1
    rw[aFG,f _ (by rw[aEM,aGL];omega),g,μ (by simp[a];omega)];rw[show i0*s+j-(i0*s+0)=j from aa];simpa using c
   |succ i=>have:=m i p (by simpa using hi) j v c;rwa [show i0+(i+1)=i0+1+i from aa]
mutual
def aj.erase0(v:AV)(u)(h:aj σ v u):aj σ v.bare u:=by
 cases v with
 |vec o es=>
  simp[AV.bare,aj] at h⊢;obtain⟨a,cap,e,hl,ho,r⟩:=h;refine⟨a,cap,e,hl,?_,r⟩
  cases o with
  |own k=>trivial
  |full=>trivial
  |_=>exact ho
 |_=>exact h
end
def au.bare:∀{cs:List AV} {us:List Value},au σ cs us->au σ (cs.map AV.bare) us
 |[],_,h=>by simpa using h
 |c::cs,_,h=>by rw[au.eC] at h;obtain⟨u,a,rfl,r,q⟩:=h;exact au.eC.2 ⟨u,a,rfl,aj.erase0 c u r,au.bare q⟩
def aj.erase{v:AV}{u}(h:aj σ v u):aj σ v.erase u:=by
 cases v with
 |agg cs=>simp[AV.erase,aj] at h⊢;obtain⟨us,e,r⟩:=h;exact⟨us,e,r.bare⟩
 |tup cs=>
  simp[AV.erase,aj] at h⊢;obtain⟨us,e,r⟩:=h;refine⟨us,e,?_⟩;clear e
  induction cs generalizing us with
  |nil=>simpa using r
  |cons c cs ih=>
   rw[au.eC] at r;obtain⟨g,b,rfl,a,q⟩:=r;refine au.eC.2 ⟨g,b,rfl,?_,ih b q⟩
   cases c with
   |agg ds=>simp[aj] at a⊢;obtain⟨xs,f,d⟩:=a;exact⟨xs,f,d.bare⟩
   |_=>exact aj.erase0 _ _ a
 |_=>exact aj.erase0 _ _ h
def au.erase:∀{cs:List AV} {us:List Value},au σ cs us->au σ (cs.map AV.erase) us
 |[],_,h=>by simpa using h
 |c::cs,_,h=>by rw[au.eC] at h;obtain⟨u,a,rfl,r,q⟩:=h;exact au.eC.2 ⟨u,a,rfl,r.erase,au.erase q⟩
def MQ{n}:∀{cs:List AV},fF n cs=true->∀c∈cs,c.width=some n
 |[],_,c,a=>by cases a
 |d::cs,h,c,a=>by
  simp[fF] at h
  cases a with
  |head=>exact h.1
  |tail _ a=>exact MQ h.2 c a
def UJ:∀{cs:List AV},lj cs=true->∀c∈cs,eo c.cells=true
 |[],_,c,a=>by cases a
 |d::cs,h,c,a=>by
  simp[lj] at h
  cases a with
  |head=>exact h.1
  |tail _ a=>exact UJ h.2 c a
def St.xo(σ:St)(a:Nat)(cs:List Value):St:={σ with cells:=λb o=>if b=a/\o<cs.length then cs[o]? else σ.cells b o}
def aY.aip(a:aY P B W0 H σ w){cs}{c}{et}{w1:World}(i:w1.heap=w.heap)(t:gN B W0 w1)(q:∀(j:Nat) (v:Value),cs[j]? =some v->c[j]? =some v)
  (n:∀v∈cs,v.oneCell'=true):aY P B W0 H (σ.xo w.heap.size cs) (w1.alloc (.cells c et))/\Ext B σ (σ.xo w.heap.size cs):=by
 have g:w1.heap.size=w.heap.size:=by rw[i]
 have d:∀b,b<w.heap.size->(w1.alloc (.cells c et)).heap[b]? =w.heap[b]? :=λb hb=>by rw[Co w1 _ aa,i]
 have s:(w1.alloc (.cells c et)).heap[w.heap.size]? =some (.cells c et (0,0)):=by rw[<-g];exact ES w1 _
 have e:σ.le (σ.xo w.heap.size cs):=by
  refine⟨λb o v h=> ?_,λ_ _ h=>h,λ_ _ _ h=>h⟩;simp[St.xo];rw[κ]
  ·exact h
  ·rintro⟨rfl,_⟩;rw[a.yd] at h;cases h
 refine⟨⟨t.alloc (λk p=>by rw[g];exact a.size k p) _,a.base,?_,?_,a.fresh,a.keys,?_,a.inj⟩,e,?_⟩
 ·intro b o v h;simp[St.xo] at h;split at h
  ·rename_i r;obtain⟨rfl,_⟩:=r;rw[cell_of_row s];exact q _ v h
  ·rw[cell_of_heap (d b (a.Aq h))];exact a.cells b o v h
 ·intro b o v h;simp[St.xo] at h;split at h
  ·exact n v (Δ h)
  ·exact a.one b o v h
 ·intro id x u;have f:=a.obj id x u;refine f.cj e (λb hb=> ?_) (λ_=>rfl);obtain⟨b',l,_,m⟩:=f.aX;rw[hb] at l;cases l;refine⟨d b m,λo=> ?_⟩;simp only[St.xo];rw[κ (by rintro⟨rfl,_⟩;exact absurd m (aEu _))]
 ·intro b o hb;simp only[St.xo];rw[κ (by rintro⟨rfl,_⟩;exact a.uh hb)]
def aeH(X:aY P B W0 H σ w){t}{len}{parts:List (Nat×AV)}{us:Array (Nat×Value)}{v}{H'}
  (W:us.toList.map (·.1)=parts.map (·.1)) (hp:au σ (parts.map (·.2)) (us.toList.map (·.2))) (h:dZ P t len parts H=some (v,H')):
  fx P ((do pure (Next.value (<-Instr.buildSlice t len us)):Sem Next).run P w) (kF P B W0 σ v H'):=by
 unfold dZ at h;split at h
 ·rename_i et kx;split at h
  ·rename_i s z cz hz;split at h
   ·rename_i hc;obtain⟨g,N,m,p_,jW,gL,adD⟩:=hc;cases h;obtain⟨i,zv,hi,tE,Gv⟩:=Ey hz;have R:us.toList.length=len:=by have:=Ι List.length W;simp only[Θ] at this;omega
    have A:au σ (parts.map λp=>p.2.erase) (us.toList.map (·.2)):=by have:=hp.erase;rwa [aGC] at this
    have D:∀(i:Nat) (p:Nat×Value),us.toList[i]? =some p->p.1=0+i/\p.2.cells.size=s:=by
     intro i p S;have U:(us.toList.map (·.1))[i]? =some p.1:=by simp[aEt,S]
     rw[W,aEt] at U;obtain⟨q,a,E⟩:=aEj.1 U;have h3:(parts.map λp=>p.2.erase)[i]? =some q.2.erase:=by simp[aEt,a]
     obtain⟨u,r,Q⟩:=A.get h3;have h4:(us.toList.map (·.2))[i]? =some p.2:=by simp[aEt,S]
     rw[h4] at r;cases r;exact⟨by rw[<-E,UI N i q a],Q.width (MQ m _ (Δ h3))⟩
    obtain⟨y,n,I,K⟩:∃y:Array Value,y.size=len*s/\(len*s=0->(Array.range (len*s)).map (λx=>(#[]:Array Value)[x%(#[]:Array Value).size]!)=y)/\
      (¬len*s=0->(Array.range (len*s)).map (λx=>zv.cells[x%zv.cells.size]!)=y):=by
     by_cases b:len*s=0
     ·exact⟨_,ah,λ_=>rfl,λh=>absurd b h⟩
     ·exact⟨_,ah,λh=>absurd h b,λ_=>rfl⟩
    obtain⟨out,Y,e2,_,e4⟩:=W_ s us.toList 0 y D (by rw[R,n,aEF];exact ν _)
    have bP:(Instr.buildSlice t len us).run P w=.ok (.slice (some ⟨w.heap.size,0,none⟩) len len) (w.alloc (.cells out et)):=by
     have G:¬(len*s>2^24):=aa;simp only[Instr.buildSlice,Φ,fE (tT kx),Ε,tZ cz,Sem.run_ite,κ G,as1];by_cases b:len*s=0
     ·simp only[μ b,I b,Y,Φ,newRow,run_newObj,Ε,as1];rfl
     ·have M:(zeroValue et).run P w=.ok zv w:=by simp[zeroValue,typeInfo,hi,tE]
      simp only[κ b,M,Ε,K b,Y,Φ,newRow,run_newObj,as1];rfl
    simp[Φ,bP,Ε,as1,fx]
    have oA:∀x∈out.toList.take (len*s),x.oneCell'=true:=by
     intro x hx;obtain⟨o,L⟩:=aEG hx;have C:o<len*s:=by have:=(φ.1 L).1;simp at this;omega
     rw[Τ C,aEm] at L;have e:0<s:=aGE jW;have f:o/s<us.toList.length:=by rw[R];exact(Nat.div_lt_iff_lt_mul e).2 C
     have F:us.toList[o/s]? =some (us.toList[o/s]):=Ν f;have O:o%s<(us.toList[o/s]).2.cells.size:=by rw[(D _ _ F).2];exact Nat.mod_lt _ e
     have:=e4 (o/s) _ F (o%s) _ (aEE O);rw[aEF,aGg,Nat.div_add_mod,L] at this;cases this;have h3:(us.toList.map (·.2))[o/s]? =some (us.toList[o/s]).2:=by rw[aEt,F];rfl
     have l:o/s<(parts.map λp=>p.2.erase).length:=by rw[<-A.length];simpa using f
     obtain⟨u,r,Q⟩:=A.get (Ν l);rw[h3] at r;cases r;have Z:=List.getElem_mem l;refine BZ (UJ p_ _ Z) (Q.cells (by rw[MQ m _ Z];simp)) _ ?_;simp
    have C:(out.toList.take (len*s)).length=len*s:=by simp[e2,n]
    obtain⟨dP,V⟩:=X.aip (cs:=out.toList.take (len*s)) (c:=out) (et:=et) (w1:=w) rfl X.below
     (λj x d=>by
      have qV:j<len*s:=by have:=(φ.1 d).1;omega
      rw[Τ qV] at d;simpa using d)
     oA
    have J:(parts.map λp=>p.2.erase).length=len:=by simp[g]
    refine⟨_,V,dP,?_⟩;simp only[aj];refine⟨_,len,by rw[J],by rw[J];exact ν _,by rw[J];rfl,.inr ⟨w.heap.size,0,s,rfl,?_⟩⟩;refine b_.YN (A.mono V.le) (λu DP=> ?_) (λi u f j x d=> ?_)
    ·obtain⟨q,a,rfl⟩:=aEI.1 DP;obtain⟨k,hk⟩:=aEG a;exact(D k q hk).2
    ·rw[aEt] at f;obtain⟨q,a,rfl⟩:=aEj.1 f;have T:=e4 i q a j x d;rw[aEF] at T;have aG:i<len:=by rw[<-R];exact(φ.1 a).1
     have uN:j<s:=by rw[<-(D i q a).2];exact(Α.1 d).1
     have l:i*s+j<len*s:=by have:(i+1)*s<=len*s:=aEq _ aG;rw[aEM,aGL] at this;omega
     rw[show 0+i*s+j=i*s+j from aa];simp only[St.xo];rw[μ ⟨trivial,by rw[C];exact l⟩,Τ l,aEm];exact T
   ·cases h
  ·cases h
 ·cases h
end
mutual
def aj.aq{σ aS:St}(hc:∀b o v,σ.cells b o=some v->aS.cells b o=some v):∀a u,a.aq=true->aj σ a u->aj aS a u
 | .ts,_,_,_=>by simp[aj]
 | .any,_,_,k=>by simpa[aj] using k
 | .int _ _,_,_,k=>by simpa[aj] using k
 | .bool _,_,_,k=>by simpa[aj] using k
 | .str _,_,_,k=>by simpa[aj] using k
 | .agg cs,_,n,k=>by simp[AV.aq] at n;simp[aj] at k⊢;obtain⟨us,e,r⟩:=k;exact⟨us,e,au.aq hc cs us n r⟩
 | .tup cs,_,n,k=>by simp[AV.aq] at n;simp[aj] at k⊢;obtain⟨us,e,r⟩:=k;exact⟨us,e,au.aq hc cs us n r⟩
 | .vec o es,_,n,k=>by
  simp[AV.aq] at n;simp only[aj] at k⊢;obtain⟨a,cap,e,hl,ho,r⟩:=k;refine⟨a,cap,e,hl,?_,r.imp id ?_⟩
  ·cases o with
   |own k=>simp at n
   |_=>exact ho
  ·rintro⟨b,off,s,ea,r⟩;exact⟨b,off,s,ea,b_.aq hc b s off es n.2 r⟩
 | .ptr _ _,_,n,_=>by simp[AV.aq] at n
 | .rptr cs,_,n,k=>by simp[AV.aq] at n;simp[aj] at k⊢;obtain⟨b,off,e,r⟩:=k;exact⟨b,off,e,fe.aq hc b off cs n r⟩
 | .fn _ first cap,_,n,k=>by
  simp[AV.aq] at n;simp[aj] at k⊢;obtain⟨us,vs,e,r,q⟩:=k;exact⟨us,vs,e,au.aq hc first us n.1 r,au.aq hc cap vs n.2 q⟩
 | .iface _ v,_,n,k=>by simp[AV.aq] at n;simp[aj] at k⊢;obtain⟨x,e,r⟩:=k;exact⟨x,e,aj.aq hc v x n r⟩
 | .val _,_,_,k=>by simpa[aj] using k
 | .sl _ _ _ _,_,n,_=>by simp[AV.aq] at n
 | .map _,_,n,_=>by simp[AV.aq] at n
def au.aq{σ aS:St}(hc:∀b o v,σ.cells b o=some v->aS.cells b o=some v):∀cs us,AV.aq.go cs=true->au σ cs us->au aS cs us
 |[],_,_,k=>by simpa[au] using k
 |c::cs,_,n,k=>by simp[AV.aq.go] at n;simp[au] at k⊢;obtain⟨u,eG,e,r,q⟩:=k;exact⟨u,eG,e,aj.aq hc c u n.1 r,au.aq hc cs eG n.2 q⟩
def fe.aq{σ aS:St}(hc:∀b o v,σ.cells b o=some v->aS.cells b o=some v)(b):∀off cs,AV.aq.go cs=true->fe σ b off cs->fe aS b off cs
 |_,[],_,_=>by simp[fe]
 |off,c::cs,n,k=>by simp[AV.aq.go] at n;simp[fe] at k⊢;obtain⟨⟨u,e,r⟩,q⟩:=k;exact⟨⟨u,hc _ _ _ e,aj.aq hc c u n.1 r⟩,fe.aq hc b (off+1) cs n.2 q⟩
def b_.aq{σ aS:St}(hc:∀b o v,σ.cells b o=some v->aS.cells b o=some v)(b s):∀off es,AV.aq.go es=true->b_ σ b s off es->b_ aS b s off es
 |_,[],_,_=>by simp[b_]
 |off,e::es,n,k=>by simp[AV.aq.go] at n;simp[b_] at k⊢;obtain⟨⟨u,r,hs,iE⟩,q⟩:=k;exact⟨⟨u,aj.aq hc e u n.1 r,hs,λj v hj=>hc _ _ _ (iE j v hj)⟩,b_.aq hc b s (off+s) es n.2 q⟩
end
def kM(P:Program)(f:FuncId):Prop:=∃fn,P.funcs[f]? =some fn/\(fn.name== "runtime.NumGoroutine")=false/\fn.body.isNone=false
def Jh(P:Program)(f:FuncId)(args:List AV)(H:ab)(v:AV)(H':ab):Prop:=
 ∀B W0 σ w us,aY P B W0 H σ w->au σ args us->Calls P f us.toArray w (λe w'=>∃u,e=.returned u/\kF P B W0 σ v H' u w')
def dK(P:Program)(call:cu):Prop:=∀f args H v H',call f args H=some (v,H')->kM P f/\Jh P f args H v H'
section
variable {P:Program} {B:Nat->Prop} {W0:World} {H:ab} {σ:St} {w:World} {call:cu}
def frozen(σ:St)(a:Nat)(w:World):Nat->Nat->Option Value:=λb o=>
 match σ.cells b o with
 |some v=>some v
 |none=>if a<=b then(match w.cell? ⟨b,o,none⟩ with|some v=>if v.oneCell'=true then some v else none|none=>none) else none
def V6{σ:St}{a}{w}{b o}{v}(h:σ.cells b o=some v):frozen σ a w b o=some v:=by simp[frozen,h]
def M4{a}{d}{g}{w:World}(f:aY P d g H σ w){b o}{v:Value}(hb:a<=b)(c:w.cell? ⟨b,o,none⟩=some v)(e:v.oneCell'=true):frozen σ a w b o=some v:=by
 unfold frozen
 cases h:σ.cells b o with
 |some x=>have:=f.cells b o x h;rw[c] at this;simp only;exact this.symm
 |none=>simp[hb,c,e]
def Ar{σ aS:St}{f}(hf:∀c d u,f c=some d->aj σ c u->aj aS d u):∀{cs ds:List AV} {us:List Value},dv f cs=some ds->au σ cs us->au aS ds us
 |[],ds,us,h,r=>by simp[dv] at h;subst h;rw[au.pR] at r;subst r;simp[au]
 |c::cs,ds,us,h,r=>by
  simp[dv] at h;rw[au.eC] at r;obtain⟨u,b,rfl,e,a⟩:=r
  cases hc:f c with
  |none=>simp[hc,an] at h
  |some d=>
   cases hm:dv f cs with
   |none=>simp[hc,hm,an] at h
   |some Gx=>simp[hc,hm,an] at h;subst h;exact au.eC.2 ⟨u,b,rfl,hf c d u hc e,Ar hf hm a⟩
def N2{α β:Type}{f:α->Option β}:∀{cs:List α} {ds:List β},dv f cs=some ds->ds.length=cs.length
 |[],ds,h=>by simp[dv] at h;subst h;rfl
 |c::cs,ds,h=>by
  simp[dv] at h
  cases hc:f c with
  |none=>simp[hc,an] at h
  |some d=>
   cases hm:dv f cs with
   |none=>simp[hc,hm,an] at h
   |some Gx=>simp[hc,hm,an] at h;subst h;simp[N2 hm]
def Xa{σ aS:St}{f}(hf:∀c d u,f c=some d->aj σ c u->aj aS d u)(a:∀b o v,σ.cells b o=some v->aS.cells b o=some v){b s}:∀{off:Nat} {cs ds:List AV},dv f cs=some ds->b_ σ b s off cs->b_ aS b s off ds
 |_,[],ds,h,r=>by simp[dv] at h;subst h;simp[b_]
 |off,c::cs,ds,h,r=>by
  simp[dv] at h;simp[b_] at r;obtain⟨⟨u,l,e,i⟩,g⟩:=r
  cases iE:f c with
  |none=>simp[iE,an] at h
  |some d=>
   cases hm:dv f cs with
   |none=>simp[iE,hm,an] at h
   |some Gx=>simp[iE,hm,an] at h;subst h;simp[b_];exact⟨⟨u,hf c d u iE l,e,λj v k=>a _ _ _ (i j v k)⟩,Xa hf a hm g⟩
def Vs{σ aS:St}{f}(hf:∀c d u,f c=some d->aj σ c u->aj aS d u)(a:∀b o v,σ.cells b o=some v->aS.cells b o=some v){b}:∀{off:Nat} {cs ds:List AV},dv f cs=some ds->fe σ b off cs->fe aS b off ds
 |_,[],ds,h,r=>by simp[dv] at h;subst h;simp[fe]
 |off,c::cs,ds,h,r=>by
  simp[dv] at h;simp[fe] at r;obtain⟨⟨u,i,e⟩,g⟩:=r
  cases iE:f c with
  |none=>simp[iE,an] at h
  |some d=>
   cases hm:dv f cs with
   |none=>simp[iE,hm,an] at h
   |some Gx=>simp[iE,hm,an] at h;subst h;simp[fe];exact⟨⟨u,a _ _ _ i,hf c d u iE e⟩,Vs hf a hm g⟩
def V7{σ aS:St}{f}(hf:∀c d u,f c=some d->aj σ c u->aj aS d u){g}{s b}(hg:g=true\/s=1):∀n off cs ds us,au σ cs us->n*s<=us.length->(∀u∈us,u.oneCell'=true)->
  (∀j v,us[j]? =some v->aS.cells b (off+j)=some v)->dv f (oB g s n cs)=some ds->b_ aS b s off ds
 |0,off,cs,ds,us,_,_,_,_,h=>by simp only[oB,dv,Ζ] at h;subst h;simp[b_]
 |n+1,off,cs,ds,us,r,l,m,i,h=>by
  rw[aEM] at l;simp only[oB,dv] at h
  cases iE:f (if g=true then AV.agg (cs.take s) else cs.headD .ts) with
  |none=>simp only[iE,an,reduceCtorEq] at h
  |some d=>
   cases hm:dv f (oB g s n (cs.drop s)) with
   |none=>simp only[iE,hm,an,reduceCtorEq] at h
   |some y=>
    simp only[iE,hm,an,Ζ] at h;subst h;simp only[b_];constructor
    ·cases g with
     |true=>
      refine⟨.agg (us.take s).toArray,hf _ _ _ iE ?_,?_,?_⟩
      ·simp only[aEl,aj];exact⟨_,rfl,r.take s⟩
      ·simp[Value.cells];omega
      ·intro j v a;simp only[Value.cells,aFM] at a;have p:j<s:=by have:=(φ.1 a).1;simp at this;omega
       rw[Τ p] at a;exact i j v a
     |false=>
      have w:s=1:=by simpa using hg
      subst w
      cases us with
      |nil=>simp at l
      |cons u us=>
       cases cs with
       |nil=>rw[au.pR] at r;cases r
       |cons c cs=>
        rw[au.eC] at r;obtain⟨u',eG,e,q,r2⟩:=r;cases e;have o:=m u ah;have k:u.cells=#[u]:=by cases u<;>simp[Value.oneCell'] at o<;>rfl
        refine⟨u,hf _ _ _ iE (by simpa using q),by rw[k];rfl,?_⟩;intro j v a;rw[k] at a;have x:j=0:=by have:=(Α.1 a).1;simp at this;omega
        subst x;simp at a;subst a;exact i 0 u ah
    ·refine V7 hf hg n (off+s) (cs.drop s) y (us.drop s) (r.drop s) aP (λu t=>m u (aFh t)) (λj v a=> ?_) hm;rw[aEz] at a;have:=i (s+j) v a;rwa [show off+(s+j)=off+s+j from aa] at this
def V8(g)(s):∀n cs,(oB g s n cs).length=n
 |0,cs=>rfl
 |n+1,cs=>by simp[oB,V8 g s n]
def aaV{Z}{W1 w1}{L N:St}(C:aY P (·<Z) W1 H L w1)(F:N.cells=frozen L Z w1):∀n v I u,cA P H n v=some I->aj L v u->aj N I u
 |0,v,I,u,h,_=>by simp[cA] at h
 |n+1,v,I,u,h,r=>by
  have hf:=aaV C F n;have Y:∀b o v,L.cells b o=some v->N.cells b o=some v:=λb o v hv=>by rw[F];exact V6 hv
  have w:∀{α β:Type} {x:Option α} {f:α->Option β} {y:β},an x f=some y->∃a,x=some a/\f a=some y:=λ{α β x f y} hx=>by
   cases x with
   |none=>simp[an] at hx
   |some a=>exact⟨a,rfl,hx⟩
  cases v<;>simp only[cA] at h
  case agg cs=>
   obtain⟨ds,d,i⟩:=w h;cases i;simp only[aj] at r⊢;obtain⟨us,e,q⟩:=r;exact⟨us,e,Ar hf d q⟩
  case tup cs=>
   obtain⟨ds,d,i⟩:=w h;cases i;simp only[aj] at r⊢;obtain⟨us,e,q⟩:=r;exact⟨us,e,Ar hf d q⟩
  case vec o es=>
   obtain⟨ds,d,i⟩:=w h;cases i;have O:=N2 d;simp only[aj] at r⊢;obtain⟨a,cap,e,q,Q,r3⟩:=r;refine⟨a,cap,by rw[O];exact e,by rw[O];exact q,?_,?_⟩
   ·rw[O]
    cases o with
    |own k=>trivial
    |full=>trivial
    |_=>exact Q
   ·rcases r3 with rfl|⟨b,off,s,ea,row⟩
    ·simp only[dv,Ζ] at d;exact .inl d.symm
    ·exact .inr ⟨b,off,s,ea,Xa hf Y d row⟩
  case rptr cs=>
   obtain⟨ds,d,i⟩:=w h;cases i;simp only[aj] at r⊢;obtain⟨b,off,e,q⟩:=r;exact⟨b,off,e,Vs hf Y d q⟩
  case fn f a b=>
   obtain⟨ds,d,i⟩:=w h;obtain⟨es,h3,h4⟩:=w i;cases h4;simp only[aj] at r⊢;obtain⟨us,vs,e,q,Q⟩:=r;exact⟨us,vs,e,Ar hf d q,Ar hf h3 Q⟩
  case iface t x=>
   obtain⟨y,d,i⟩:=w h;cases i;simp only[aj] at r⊢;obtain⟨z,e,q⟩:=r;exact⟨z,e,hf _ _ _ d q⟩
  case ptr id off=>
   simp only[aj] at r;obtain⟨b,hb,rfl⟩:=r;split at h
   ·rename_i cs hg;split at h
    ·rename_i p_;obtain⟨ds,d,i⟩:=w h;cases i;obtain⟨V,c,e,A,G,E,K,X⟩:=C.obj id _ hg;rw[hb] at A;cases A;simp only[aj];refine⟨b,off,rfl,fe.IC (Ar hf d (K.drop off)) λj v l=> ?_⟩;rw[F];have D:=l;rw[aEz,aEm] at l;exact M4 C (aET G) (by rw[cell_of_row E];exact l) (BZ p_ (K.drop off) v (Δ D))
    ·cases h
   ·rename_i m et s cs hg;obtain⟨ds,d,i⟩:=w h;cases i;obtain⟨V,cap,c,A,_,G,E,K,X,W,U,q8,q9,S,J,Td⟩:=C.obj id _ hg;rw[hb] at A;cases A;simp only[aj];refine⟨b,off,rfl,fe.IC (Ar hf d (S.drop off)) λj v l=> ?_⟩;rw[F];have D:=l;rw[aEz] at l;have M:off+j<m*s:=by have:=(φ.1 l).1;simp at this;omega
    rw[Τ M,aEm] at l;exact M4 C (aET G) (by rw[cell_of_row E];exact l) (J v (aFh (Δ D)))
   ·cases h
  case sl id s off len=>
   simp only[aj] at r;obtain⟨b,cap,hb,kV,rfl,lA⟩:=r;split at h
   ·rename_i m et p cs hg;split at h
    ·rename_i g xG;split at h
     ·rename_i hc;obtain⟨rfl,T,R⟩:=hc;obtain⟨ds,d,i⟩:=w h;cases i;obtain⟨V,zj,c,A,_,G,E,K,X,W,U,q8,q9,S,J,Td⟩:=C.obj id _ hg;rw[hb] at A;cases A;have B:ds.length=len:=by rw[N2 d,V8]
      have hmul:off*p+len*p<=m*p:=by rw[<-Nat.add_mul];exact aEq _ T
      have S7:m*p<=c.size:=by rw[W];exact aEq _ U
      simp only[aj];refine⟨_,cap-off,by rw[B],by rw[B];omega,trivial,.inr ⟨b,off*p,p,rfl,?_⟩⟩;refine V7 hf R len (off*p) _ ds ((c.toList.take (m*p)).drop (off*p)) (S.drop _) aP (λu hu=>J u (aFh hu)) (λj v l=> ?_) d;rw[F];have D:=l;rw[aEz] at l;have M:off*p+j<m*p:=by have:=(φ.1 l).1;simp at this;omega
      rw[Τ M,aEm] at l;exact M4 C (aET G) (by rw[cell_of_row E];exact l) (J v (aFh (Δ D)))
     ·cases h
    ·cases h
   ·cases h
  case map id=>cases h
  all_goals(cases h;simp only[aj] at r⊢;try exact r)
def UK(a:aY P B W0 H σ w){H1}{e:St}{w1:World}(f:Ext (·<w.heap.size) {cells:=σ.cells,loc:=λ_=>none,own:=λ_ _=>none} e)(g:aY P (·<w.heap.size) w H1 e w1)
  {K} (m:∀b o v,e.cells b o=some v->K b o=some v) (i:∀b o v,K b o=some v->w1.cell? ⟨b,o,none⟩=some v/\v.oneCell'=true) (k:∀b o,b<w.heap.size->K b o=e.cells b o):
  Ext B σ {cells:=K,loc:=σ.loc,own:=σ.own}/\aY P B W0 H {cells:=K,loc:=σ.loc,own:=σ.own} w1:=by
 have d:σ.le {cells:=K,loc:=σ.loc,own:=σ.own}:=⟨λb o v h=>m b o v (f.le.cells b o v h),λ_ _ h=>h,λ_ _ _ h=>h⟩;refine⟨⟨d,λb o hb=> ?_⟩,?_⟩
 ·have c:=a.size b hb;show K b o=σ.cells b o;rw[k b o c];exact f.old b o c
 ·refine⟨a.below.trans (g.below.mono a.size),a.base,λb o v h=>(i b o v h).1,λb o v h=>(i b o v h).2,a.fresh,a.keys,?_,a.inj⟩;intro id x n;have j:=a.obj id x n;refine j.cj d (λb hb=> ?_) (λ_=>rfl);obtain⟨b',l,_,c⟩:=j.aX;rw[hb] at l;cases l;refine⟨g.below.block b c,λo=> ?_⟩;show K b o=σ.cells b o;rw[k b o c];exact f.old b o c
def MU(g:aY P B W0 H σ w)(y:dK P call){f:FuncId}{args:List AV}{us:List Value}{v:AV}(t:au σ args us)(h:aK P call f args=some v):
  kM P f/\Calls P f us.toArray w (λe w'=>∃u,e=.returned u/\kF P B W0 σ v H u w'):=by
 unfold aK at h;split at h
 ·rename_i z;split at h
  ·rename_i m H1 r;obtain⟨k,q⟩:=y _ _ _ _ _ r;refine⟨k,?_⟩;let my:St:={cells:=σ.cells,loc:=λ_=>none,own:=λ_ _=>none}
   have s:aY P (·<w.heap.size) w .empty my w:=
    ⟨gN.refl _ _,g.yx,g.cells,g.one,λ_ _=>⟨rfl,λ_=>rfl⟩,λid x a=>by simp[ab.get,ab.empty] at a,λid x a=>by simp[ab.get,ab.empty] at a,
     λid gD x x' a=>by simp[ab.get,ab.empty] at a⟩
   refine(q (·<w.heap.size) w my w us s (au.aq (σ:=σ) (aS:=my) (λ_ _ _ h=>h) _ _ z t.erase)).mono ?_;rintro e w1 ⟨u,rfl,d,n,c,l⟩;refine⟨u,rfl,?_⟩;split at h
   ·rename_i p;cases h;obtain⟨j,i⟩:=UK g n c (K:=d.cells) (λ_ _ _ h=>h) (λb o v h=>⟨c.cells b o v h,c.one b o v h⟩) (λ_ _ _=>rfl);exact⟨_,j,i,aj.aq (σ:=d) (aS:={cells:=d.cells,loc:=σ.loc,own:=σ.own}) (λ_ _ _ h=>h) _ _ p l.erase⟩
   ·cases uP:cA P H1 1000 m with
    |none=>simp[uP,an] at h
    |some v2=>
     simp only[uP,an] at h;split at h
     ·cases h
      obtain⟨j,i⟩:=UK g n c (K:=frozen d w.heap.size w1) (λ_ _ _ h=>V6 h) (λb o v h=>by
       unfold frozen at h;split at h
       ·rename_i x a;cases h;exact⟨c.cells b o _ a,c.one b o _ a⟩
       ·split at h
        ·split at h
         ·rename_i x a;split at h
          ·rename_i k;cases h;exact⟨a,k⟩
          ·cases h
         ·cases h
        ·cases h) (λb o hb=>by
       unfold frozen
       cases d.cells b o with
       |some x=>rfl
       |none=>simp;omega)
      exact⟨_,j,i,aaV c rfl 1000 m _ u uP l⟩
     ·cases h
  ·cases h
 ·cases h
def M5{k}:∀{args as:List AV} {us:List Value} {id:Nat},gH k args=some (id,as)->au σ args us->∃b,σ.loc id=some b/\∀c:St,(∀b o v,σ.cells b o=some v->c.cells b o=some v)->c.loc k=some b->au c as us
 |[],as,us,id,h,_=>by simp[gH] at h
 |a::r,as,us,id,h,n=>by
  rw[au.eC] at n;obtain⟨u,m,rfl,i,l⟩:=n;by_cases f:a.aq=true
  ·have e:gH k (a::r)=an (gH k r) λp=>some (p.1,a::p.2):=by
    cases a<;>(try simp[AV.aq] at f)<;>simp[gH,AV.aq,f]
   rw[e] at h
   cases hZ:gH k r with
   |none=>simp[hZ,an] at h
   |some p=>obtain⟨gD,Lo⟩:=p;simp[hZ,an] at h;obtain⟨rfl,rfl⟩:=h;obtain⟨b,j,q⟩:=M5 hZ l;exact⟨b,j,λc d g=>au.eC.2 ⟨u,m,rfl,aj.aq d _ _ f i,q c d g⟩⟩
  ·have e:∃gD off,a=.ptr gD off/\off=0:=by
    cases a with
    |ptr gD off=>
     cases off with
     |zero=>exact⟨gD,0,rfl,rfl⟩
     |succ off=>simp[gH,AV.aq] at h
    |_=>simp[gH,f] at h
   obtain⟨gD,off,rfl,rfl⟩:=e;simp only[gH] at h;split at h
   ·rename_i hg;cases h;simp[aj] at i;obtain⟨b,j,rfl⟩:=i;refine⟨b,j,λc d g=>au.eC.2 ⟨_,m,rfl,?_,au.aq d _ _ hg l⟩⟩;simp only[aj];exact⟨b,g,rfl⟩
   ·cases h
def V9{k d}:∀{args as Lo:List AV} {id gD:Nat},gH k args=some (id,as)->gH d args=some (gD,Lo)->id=gD
 |[],_,_,_,_,h,_=>by simp[gH] at h
 |a::r,as,Lo,id,gD,h,b=>by
  by_cases c:a.aq=true
  ·have e:∀k,gH k (a::r)=an (gH k r) λp=>some (p.1,a::p.2):=λk=>by
    cases a<;>(try simp[AV.aq] at c)<;>simp[gH,AV.aq,c]
   rw[e] at h b
   cases hZ:gH k r with
   |none=>simp[hZ,an] at h
   |some p=>
    cases RQ:gH d r with
    |none=>simp[RQ,an] at b
    |some f=>simp[hZ,an] at h;simp[RQ,an] at b;rw[<-h.1,<-b.1];exact V9 (as:=p.2) (Lo:=f.2) hZ RQ
  ·cases a with
   |ptr id0 off=>
    cases off with
    |zero=>
     simp only[gH] at h b;split at h
     ·rename_i hg;rw[μ hg] at b;simp at h b;rw[<-h.1,<-b.1]
     ·cases h
    |succ off=>simp[gH,AV.aq] at h
   |_=>simp[gH,c] at h
def Xb(d:aY P B W0 H σ w){S:Nat->Prop}{g:Nat->Prop}(s:∀k,g k↔k<w.heap.size/\∀id x,S id->H.get id=some x->aX σ id x≠some k){my c:St}{w1}{H1 H':ab}
  (n:my.cells=σ.cells) (p:Ext g my c) (m:aY P g w H1 c w1) (O:H'.next=H.next) (r:∀id,¬S id->H'.get id=H.get id)
  (A:∀id x',S id->H'.get id=some x'->∃x,H.get id=some x/\aX σ id x=aX σ id x'/\uu P B {cells:=c.cells,loc:=σ.loc,own:=σ.own} w1 id x'):
  Ext B σ {cells:=c.cells,loc:=σ.loc,own:=σ.own}/\aY P B W0 H' {cells:=c.cells,loc:=σ.loc,own:=σ.own} w1:=by
 have j:∀k,B k->g k:=λk t=>(s k).2 ⟨d.size k t,λid x _ a e=>by
  obtain⟨b,hb,J,_⟩:=(d.obj id x a).aX;rw[hb] at e;cases e
  exact J t⟩
 have l:σ.le {cells:=c.cells,loc:=σ.loc,own:=σ.own}:=⟨λb o v h=>p.le.cells b o v (by rw[n];exact h),λ_ _ h=>h,λ_ _ _ h=>h⟩
 have f:∀i x,H'.get i=some x->∃y,H.get i=some y/\aX σ i y=aX σ i x:=by
  intro i x a;by_cases hi:S i
  ·obtain⟨y,K,I,_⟩:=A i x hi a;exact⟨y,K,I⟩
  ·rw[r i hi] at a;exact⟨x,a,rfl⟩
 have u:∀i x,aX {cells:=c.cells,loc:=σ.loc,own:=σ.own} i x=aX σ i x:=λi x=>by cases x<;>rfl
 refine⟨⟨l,λb o hb=> ?_⟩,d.below.trans (m.below.mono j),d.base,m.cells,m.one,λi hi=>d.fresh i (by rw[<-O];exact hi),λi x a=>ab.ep a,λi x a=> ?_,λi E x x' a G C=> ?_⟩
 ·show c.cells b o=σ.cells b o;rw[p.old b o (j b hb),n]
 ·by_cases hi:S i
  ·obtain⟨y,_,_,h3⟩:=A i x hi a;exact h3
  ·rw[r i hi] at a;have D:=d.obj i x a;refine D.cj l (λb hb=> ?_) (λ_=>rfl);obtain⟨b',z,_,M⟩:=D.aX;rw[hb] at z;cases z;have F:g b:=(s b).2 ⟨M,λid y R q e=>hi (by rw[<-d.inj id i y x q a (by rw[e,hb])];exact R)⟩;refine⟨m.below.block b F,λo=> ?_⟩;show c.cells b o=σ.cells b o;rw[p.old b o F,n]
 ·obtain⟨y,q,Q⟩:=f i x a;obtain⟨L,N,T⟩:=f E x' G;rw[u,u] at C;exact d.inj i E y L q N (by rw[Q,T,C])
def YQ(c:aY P B W0 H σ w){S:Nat->Prop}{g:Nat->Prop}(d:∀k,g k↔k<w.heap.size/\∀id x,S id->H.get id=some x->aX σ id x≠some k):xm P g w:=
 ⟨λk a=>((d k).1 a).1,λb2 o p a=>by
  obtain⟨f,_⟩:=c.base.vY b2 o p a;refine⟨(d b2).2 ⟨c.size b2 f,λid x _ i e=> ?_⟩,(c.yx.vY b2 o p a).2⟩;obtain⟨b,hb,h,_⟩:=(c.obj id x i).aX;rw[hb] at e;cases e
  exact h f⟩
def ahd(d:aY P B W0 H σ w)(N:dK P call){f:FuncId}{args as:List AV}{us:List Value}{v:AV}{id:Nat}{te m:Option TypeId}{cs r:List AV}(V:au σ args us)(X:gH 0 (args.map AV.erase)=some (id,as))
  (g:H.get id=some (.cells te cs)) (y:AV.aq.go (cs.map AV.bare)=true) (h:oG call f as te (cs.map AV.bare)=some (v,m,r)):
  kM P f/\Calls P f us.toArray w (λe w'=>∃u,e=.returned u/\kF P B W0 σ v (H.set id (.cells m r)) u w'):=by
 unfold oG at h;split at h
 ·rename_i v1 H1 rU;split at h
  ·rename_i G K Z;split at h
   ·rename_i W;obtain⟨xJ,D⟩:=W;simp at h;obtain⟨rfl,rfl,rfl⟩:=h;obtain⟨L,t⟩:=N _ _ _ _ _ rU;refine⟨L,?_⟩;obtain⟨b,hb,U⟩:=M5 X V.erase;obtain⟨b',c,e,p,q2,O,T,R,J⟩:=d.obj id _ g;rw[hb] at p;cases p;let my:St:={cells:=σ.cells,loc:=λi=>if i=0 then some b else none,own:=λ_ _=>none};let j:Nat->Prop:=λk=>k<w.heap.size/\∀i x,i=id->H.get i=some x->aX σ i x≠some k;have o:∀k,j k↔k<w.heap.size/\∀i x,i=id->H.get i=some x->aX σ i x≠some k:=λ_=>Iff.rfl;have F:¬j b:=λI=>I.2 id _ rfl g hb
    have z:aY P j w {next:=1,jo:=[(0,.cells te (cs.map AV.bare))]} my w:=by
     refine⟨gN.refl _ _,YQ d o,d.cells,d.one,λi hi=>⟨?_,λ_=>rfl⟩,λi x a=>ab.ep a,?_,?_⟩
     ·show(if i=0 then some b else none)=none;rw[κ];rintro rfl;exact absurd hi ah
     ·intro i x a;have hi:i=0:=by have:=ab.ep a;simp at this;omega
      subst hi;simp[ab.get,cg,μ,Nat.zero_lt_one] at a;subst a;exact⟨b,c,e,rfl,F,O,au.aq (σ:=σ) (aS:=my) (λ_ _ _ h=>h) _ _ y T.bare,R,J⟩
     ·intro i i' x x' a s _;have hi:i=0:=by have:=ab.ep a;simp at this;omega
      have E:i'=0:=by have:=ab.ep s;simp at this;omega
      rw[hi,E]
    refine(t j w my w us z (U my (λ_ _ _ h=>h) rfl)).mono ?_;rintro e1 w1 ⟨u,rfl,l,q,n,dC⟩;obtain⟨b2,c2,Q,p1,p2,p3,p4,p5,C⟩:=n.obj 0 _ Z;have M:b2=b:=by have:=q.le.loc 0 b rfl;rw[this] at p1;cases p1;rfl
    subst M
    obtain⟨A,Y⟩:=Xb d (S:=(·=id)) o (my:=my) rfl q n (H':=H.set id (.cells G (K.map AV.bare))) rfl (λi hi=>by rw[ab.eE,κ (λe=>hi e.symm)]) (by
     rintro i x' rfl a;rw[ab.eE,μ rfl,g] at a;simp at a;subst a
     exact⟨_,g,rfl,b2,c2,Q,hb,q2,p3,au.aq (σ:=l) (aS:={cells:=l.cells,loc:=σ.loc,own:=σ.own}) (λ_ _ _ h=>h) _ _ D p4.bare,p5,C⟩)
    exact⟨u,rfl,_,A,Y,aj.aq (σ:=l) (aS:={cells:=l.cells,loc:=σ.loc,own:=σ.own}) (λ_ _ _ h=>h) _ _ xJ dC.erase⟩
   ·cases h
  ·cases h
 ·cases h
def ahe(j:aY P B W0 H σ w)(hc:dK P call){f:FuncId}{args as:List AV}{us:List Value}{v:AV}{id a:Nat}{tb R te Q:Option TypeId}{cs Z:List AV}(hr:au σ args us)(hZ:gH 1 (args.map AV.erase)=some (id,as))
  (m:H.get id=some (.cells tb [.ptr a 0])) (p:H.get a=some (.cells te cs)) (O:a≠id) (iQ:AV.aq.go (cs.map AV.bare)=true) (h:oC call f as tb te (cs.map AV.bare)=some (v,R,Q,Z)):
  kM P f/\Calls P f us.toArray w (λe w'=>∃u,e=.returned u/\kF P B W0 σ v ((H.set a (.cells Q Z)).set id (.cells R [.ptr a 0])) u w'):=by
 unfold oC at h;split at h
 ·rename_i v1 H1 rU;split at h
  ·rename_i J Gy Gz D QB;split at h
   ·rename_i zF;obtain⟨xJ,ql⟩:=zF;simp at h;obtain⟨rfl,rfl,rfl,rfl⟩:=h;obtain⟨h1,h2⟩:=hc _ _ _ _ _ rU;refine⟨h1,?_⟩;obtain⟨g,y,jr⟩:=M5 hZ hr.erase;obtain⟨bb',cb,eb,V,g2,g3,N,g5,g6⟩:=j.obj id _ m;rw[y] at V;cases V;obtain⟨b,c,e,q,q2,q3,q4,q5,q6⟩:=j.obj a _ p;have o:b≠g:=by rintro rfl;exact O (j.inj a id _ _ p m (by show σ.loc a=σ.loc id;rw[q,y]))
    let my:St:={cells:=σ.cells,loc:=λi=>if i=0 then some b else if i=1 then some g else none,own:=λ_ _=>none};let n:Nat->Prop:=λk=>k<w.heap.size/\∀i x,(i=id\/i=a)->H.get i=some x->aX σ i x≠some k;have T:∀k,n k↔k<w.heap.size/\∀i x,(i=id\/i=a)->H.get i=some x->aX σ i x≠some k:=λ_=>Iff.rfl;have zE:¬n b:=λA=>A.2 a _ (.inr rfl) p q;have I:¬n g:=λA=>A.2 id _ (.inl rfl) m y
    have C:∀i x,(ab.get {next:=2,jo:=[(1,.cells tb [.ptr 0 0]),(0,.cells te (cs.map AV.bare))]} i=some x)->(i=1/\x=.cells tb [.ptr 0 0])\/(i=0/\x=.cells te (cs.map AV.bare)):=by
     intro i x d;have hi:i=0\/i=1:=by have:=ab.ep d;simp at this;omega
     rcases hi with rfl|rfl
     ·simp[ab.get,cg] at d;exact .inr ⟨rfl,d.symm⟩
     ·simp[ab.get,cg] at d;exact .inl ⟨rfl,d.symm⟩
    have jW:aY P n w {next:=2,jo:=[(1,.cells tb [.ptr 0 0]),(0,.cells te (cs.map AV.bare))]} my w:=by
     refine⟨gN.refl _ _,YQ j T,j.cells,j.one,λi hi=>⟨?_,λ_=>rfl⟩,λi x d=>ab.ep d,?_,?_⟩
     ·have lH:2<=i:=hi;show(if i=0 then some b else if i=1 then some g else none)=none;rw[bM,bM]
     ·intro i x d;rcases C i x d with⟨rfl,rfl⟩|⟨rfl,rfl⟩
      ·refine⟨g,cb,eb,rfl,I,g3,?_,g5,g6⟩;rw[au.eC] at N⊢;obtain⟨u,eG,L,t,z⟩:=N;refine⟨u,eG,L,?_,by rw[au.pR] at z⊢;exact z⟩;simp[aj] at t⊢;obtain⟨b3,U,rfl⟩:=t;rw[q] at U;cases U;exact⟨b,rfl,rfl⟩
      ·exact⟨b,c,e,rfl,zE,q3,au.aq (σ:=σ) (aS:=my) (λ_ _ _ h=>h) _ _ iQ q4.bare,q5,q6⟩
     ·intro i i' x x' d qZ l;rcases C i x d with⟨rfl,rfl⟩|⟨rfl,rfl⟩<;>rcases C i' x' qZ with⟨rfl,rfl⟩|⟨rfl,rfl⟩
      ·rfl
      ·have l:some g=some b:=l;cases l;exact absurd rfl o
      ·have l:some b=some g:=l;cases l;exact absurd rfl o
      ·rfl
    refine(h2 n w my w us jW (jr my (λ_ _ _ h=>h) rfl)).mono ?_;rintro L w1 ⟨u,rfl,s,G,E,dC⟩;obtain⟨b2,c2,e2,p1,p2,p3,p4,p5,p6⟩:=E.obj 0 _ QB;have jG:b2=b:=by have:=G.le.loc 0 b rfl;rw[this] at p1;cases p1;rfl
    subst jG;obtain⟨W,c4,e4,M,y2,y3,X,y5,y6⟩:=E.obj 1 _ D;have Lp:W=g:=by have:=G.le.loc 1 g rfl;rw[this] at M;cases M;rfl
    subst Lp
    obtain⟨t,z⟩:=Xb j (S:=λi=>i=id\/i=a) T (my:=my) rfl G E (H':=(H.set a (.cells Gy (Gz.map AV.bare))).set id (.cells J [.ptr a 0])) rfl
     (λi hi=>by rw[ab.eE,κ (λe=>hi (.inl e.symm)),ab.eE,κ (λe=>hi (.inr e.symm))]) (by
     intro i x' hi d;rw[ab.eE] at d;by_cases hid:id=i
     ·subst hid;rw[μ rfl,ab.eE,κ O,m] at d;simp at d;subst d;refine⟨_,m,rfl,W,c4,e4,y,g2,y3,?_,y5,y6⟩;rw[au.eC] at X⊢;obtain⟨u4,F,f1,K,Y⟩:=X;refine⟨u4,F,f1,?_,by rw[au.pR] at Y⊢;exact Y⟩;simp[aj] at K⊢;obtain⟨b5,r,rfl⟩:=K;rw[p1] at r;cases r;exact⟨b2,q,rfl⟩
     ·rw[κ hid] at d;have Ln:i=a:=hi.resolve_left (λe=>hid e.symm);subst Ln;rw[ab.eE,μ rfl,p] at d;simp at d;subst d
      exact⟨_,p,rfl,b2,c2,e2,q,q2,p3,au.aq (σ:=s) (aS:={cells:=s.cells,loc:=σ.loc,own:=σ.own}) (λ_ _ _ h=>h) _ _ ql p4.bare,p5,p6⟩)
    exact⟨u,rfl,_,t,z,aj.aq (σ:=s) (aS:={cells:=s.cells,loc:=σ.loc,own:=σ.own}) (λ_ _ _ h=>h) _ _ xJ dC.erase⟩
   ·cases h
  ·cases h
 ·cases h
def M6{c}{f}{args:List AV}{H:ab}{r}(b:yJ c f args H=some r):
  (∃id as te cs x,gH 0 (args.map AV.erase)=some (id,as)/\(gH 1 (args.map AV.erase)).isSome=true/\H.get id=some (.cells te cs)/\(∀a,cs≠[.ptr a 0])/\AV.aq.go (cs.map AV.bare)=true/\oG c f as te (cs.map AV.bare)=some x/\r=(x.1,H.set id (.cells x.2.1 x.2.2)))\/
  (∃id a as tb te cs x,(gH 0 (args.map AV.erase)).map (·.1)=some id/\gH 1 (args.map AV.erase)=some (id,as)/\H.get id=some (.cells tb [.ptr a 0])/\H.get a=some (.cells te cs)/\a≠id/\AV.aq.go (cs.map AV.bare)=true/\
   oC c f as tb te (cs.map AV.bare)=some x/\r=(x.1,(H.set a (.cells x.2.2.1 x.2.2.2)).set id (.cells x.2.1 [.ptr a 0]))):=by
 unfold yJ at b;split at b
 ·rename_i id as gD j i h;have hid:=V9 i h;subst hid;split at b
  ·rename_i tb a k;split at b
   ·rename_i te cs g;split at b
    ·rename_i d;refine .inr ?_
     cases hx:oC c f j tb te (cs.map AV.bare) with
     |none=>simp[hx,an] at b
     |some x=>simp[hx,an] at b;exact⟨id,a,j,tb,te,cs,x,by rw[i];rfl,h,k,g,d.1,d.2,hx,b.symm⟩
    ·cases b
   ·cases b
  ·rename_i te cs l g;split at b
   ·rename_i d;refine .inl ?_
    cases hx:oG c f as te (cs.map AV.bare) with
    |none=>simp[hx,an] at b
    |some x=>simp[hx,an] at b;exact⟨id,as,te,cs,x,i,by rw[h];rfl,g,λa e=>l a e,d,hx,b.symm⟩
   ·cases b
  ·cases b
 ·cases b
def aft(a:dK P call){f:FuncId}{as:List AV}{te:Option TypeId}{cs:List AV}{x:AV×Option TypeId×List AV}(h:oG call f as te cs=some x):kM P f:=by
 unfold oG at h;split at h
 ·rename_i b;exact(a _ _ _ _ _ b).1
 ·cases h
def ae2(a:dK P call){f:FuncId}{as:List AV}{tb te:Option TypeId}{cs:List AV}{x:AV×Option TypeId×Option TypeId×List AV}(h:oC call f as tb te cs=some x):kM P f:=by
 unfold oC at h;split at h
 ·rename_i b;exact(a _ _ _ _ _ b).1
 ·cases h
def ahf(a:dK P call)(io:FuncId->Bool):dK P (sV io call):=by
 intro f args H v H' h;unfold sV at h;split at h
 ·rcases M6 h with⟨id,as,te,cs,x,e,_,c,_,h3,b,h5⟩|⟨id,pid,as,tb,te,cs,x,_,e,c,h3,b,h5,i,h7⟩
  ·simp at h5;obtain⟨rfl,rfl⟩:=h5;exact⟨aft a b,λB W0 σ w us g d=>(ahd g a d e c h3 b).2⟩
  ·simp at h7;obtain⟨rfl,rfl⟩:=h7;exact⟨ae2 a i,λB W0 σ w us g d=>(ahe g a d e c h3 b h5 i).2⟩
 ·exact a _ _ _ _ _ h
def UL{f:FuncId}(h:kM P f)(args):(callFunc f args).run P w=.ok (.enter f args) w:=by obtain⟨fn,a,b,h3⟩:=h;simp only[callFunc,Φ,run_program,Ε,a,b,h3,υ,ap1];rfl
def UX{a}{f}{first cap}{u}(h:target a=some (f,first,cap))(r:aj σ a u):∃us b:List Value,u=.func (.func f) us.toArray b.toArray/\au σ first us/\au σ cap b:=by
 unfold target at h;split at h
 ·simp at h;obtain⟨rfl,rfl,rfl⟩:=h;simpa[aj] using r
 ·cases h
def Xc{o:Oper}{c:Call}{x}{ρ}(b:o.op=.call c)(d:c.callee=.value x){f:FuncId}{us a:List Value}(g:ρ x=.func (.func f) us.toArray a.toArray)(e:kM P f):
  (execOp ρ o).run P w=.ok (.enter f (us++c.args.toList.map ρ++a).toArray) w:=by
 obtain⟨dst,op,ty,pos,after,guard⟩:=o;simp only at b;subst b;obtain⟨cal,as,d_⟩:=c;simp only at d;subst d;simp only[execOp,resolve,Deferred.ofValue,g,Φ,as1,Ε,invoke,UL e];congr 2;apply aF9;simp
def aeM(b:aY P B W0 H σ w){dst}{ty}{pos}{after}{guard}{t}{len}{parts:Array (Nat×Operand)}{a:Operand->AV}
  {ρ:Operand->Value} {v:AV} {H':ab} (h:dZ P t len (parts.toList.map λp=>(p.1,a p.2)) H=some (v,H')) (c:∀p∈parts.toList,aj σ (a p.2) (ρ p.2)):
  fx P ((execOp ρ {dst:=dst,op:=.buildSlice t len parts,type:=ty,pos:=pos,after:=after,guard:=guard}).run P w) (kF P B W0 σ v H'):=by
 have d:au σ ((parts.toList.map λp=>(p.1,a p.2)).map (·.2)) ((parts.map λp=>(p.1,ρ p.2)).toList.map (·.2)):=by simp[aGr,aGC];exact au.map (λp:Nat×Operand=>a p.2) (λp=>ρ p.2) parts.toList c
 simp only[execOp];have key:=aeH (us:=parts.map λp=>(p.1,ρ p.2)) b ah d h;exact key
def aY.aw1(a:aY P B W0 H σ w){b}{w':World}(hb:∀k,k≠b->w'.heap[k]? =w.heap[k]?)(i:∀o,w'.cell? ⟨b,o,none⟩=w.cell? ⟨b,o,none⟩)(g:gN B W0 w')(f:∀id y,H.get id=some y->aX σ id y≠some b):
  aY P B W0 H σ w':=by
 refine⟨g,a.base,λc o v h=> ?_,a.one,a.fresh,a.keys,λid x d=> ?_,a.inj⟩
 ·by_cases e:c=b
  ·subst e;rw[i];exact a.cells _ o v h
  ·rw[cell_of_heap (hb c e)];exact a.cells c o v h
 ·refine(a.obj id x d).cj σ.le_refl (λc j=>⟨hb c ?_,λ_=>rfl⟩) (λ_=>rfl);rintro rfl;exact f id x d j
def gR.length:∀{es:List (AV×AV×Nat)} {ms:List MapEntry},gR σ es ms->ms.length=es.length
 |[],ms,h=>by simp[gR] at h;subst h;rfl
 |(k,v,b)::es,ms,h=>by simp[gR] at h;obtain⟨m,vX,rfl,r1,r2,r3,a⟩:=h;simp[a.length]
def ahg{d_}(h:zh P d_=true):∃t a et,d_[0]? =some t/\P.underlying t=some (.map a et):=by
 unfold zh at h;split at h
 ·rename_i t b;obtain⟨⟨a,et⟩,hm⟩:=Option.isSome_iff_exists.1 h;exact⟨t,a,et,b,Nt hm⟩
 ·cases h
def ahh(e:aY P B W0 H σ w){d_}{ty}{args}{us:Array Value}{v}{H'}(c:au σ args us.toList)(h:td P d_ args H=some (v,H')):
  fx P ((do pure (Next.value (<-Builtin.len_ d_ ty us)):Sem Next).run P w) (kF P B W0 σ v H'):=by
 unfold td at h;split at h
 ·rename_i id;split at h
  ·rename_i hm;obtain⟨t,kt,et,l,d⟩:=ahg hm;split at h
   ·rename_i es clock hg;cases h;obtain⟨b,ms,hb,_,j,k,_⟩:=e.obj id _ hg;obtain⟨us⟩:=us;simp only at c;rw[au.eC] at c;obtain⟨u,eG,rfl,r,q⟩:=c;rw[au.pR] at q;subst q;simp[aj] at r;obtain⟨b',f,rfl⟩:=r;rw[hb] at f;cases f;have g:(Builtin.len_ d_ ty #[.map (some b)]).run P w=.ok (.int .i64 (es.length:Nat)) w:=by have a:=k.length;simp[aEx] at a;simp[Builtin.len_,l,fE d,aFe j,goInt,a]
    simp[Φ,g,Ε,as1,fx];exact⟨σ,Ext.refl _ _,e,by simp[aj]⟩
   ·cases h
  ·cases h
 ·cases a:gB P d_ args with
  |none=>simp[a,an] at h
  |some v0=>simp[a,an] at h;obtain⟨rfl,rfl⟩:=h;obtain⟨u,d,i⟩:=W9 (P:=P) (w:=w) (ty:=ty) c a;rw[d];exact⟨σ,Ext.refl _ _,e,i⟩
def UF:∀l:List UInt8,fF 1 (l.map λx=>AV.int .u8 x.toNat)=true
 |[]=>rfl
 |x::l=>by simp only[aEv,fF,AV.width,UF l];rfl
def UM:∀l:List UInt8,(l.map λx=>AV.int .u8 x.toNat).flatMap AV.cells=l.map λx=>AV.int .u8 x.toNat
 |[]=>rfl
 |x::l=>by simp only[aEv,agX,AV.cells,UM l];rfl
def Er{E:Env}(d:aY E.P B W0 H σ w)(F:dK E.P call)(o:Oper)(kA)(ρ:Operand->Value)(b:∀x∈o.op.operands,aj σ (kA x) (ρ x)){v:AV}{H':ab}
  (h:bh E call o.op kA H=some (v,H')):fx E.P ((execOp ρ o).run E.P w) (kF E.P B W0 σ v H'):=by
 have n:∀{v:AV},lq E.P o.op kA H=some v->fx E.P ((execOp ρ o).run E.P w) (kF E.P B W0 σ v H):=λ{v} e=>by obtain⟨u,j,T⟩:=aeZ d o kA ρ b e;rw[j];exact⟨σ,Ext.refl _ _,d,T⟩
 have C:∀{v:AV} {H':ab},(an (lq E.P o.op kA H) λv=>some (v,H))=some (v,H')->fx E.P ((execOp ρ o).run E.P w) (kF E.P B W0 σ v H'):=λ{v H'} hb=>by
  cases e:lq E.P o.op kA H with
  |none=>simp[e,an] at hb
  |some v0=>simp only[e,an,Ζ,aES] at hb;obtain⟨rfl,rfl⟩:=hb;exact n e
 obtain⟨dst,op,ty,pos,after,guard⟩:=o;simp only at h b C;cases op;case alloc t=>simp only[bh] at h;simp only[execOp];exact afr d h
 case box t x=>simp only[bh] at h;simp only[execOp];exact ahb d (b x (by simp[Op.operands])) h
 case store t a x=>simp only[bh] at h;simp only[execOp];exact afs d (b a (by simp[Op.operands])) (b x (by simp[Op.operands])) h
 case buildSlice t len parts=>
  simp only[bh] at h;refine aeM d h λp e=>b p.2 ?_;simp only[Op.operands];simp;exact⟨p.1,by simpa using e⟩
 case makeMap t r=>
  simp only[bh] at h
  cases r with
  |none=>simp only[Ζ] at h;simp only[execOp];have:=aeT d t;rw[h] at this;exact this
  |some _=>simp at h
 case mapUpdate t m k x=>simp only[bh] at h;simp only[execOp];exact UB d (b m (by simp[Op.operands])) (b k (by simp[Op.operands])) (b x (by simp[Op.operands])) h
 case insert t m k x=>simp only[bh] at h;simp only[execOp];exact UB d (b m (by simp[Op.operands])) (b k (by simp[Op.operands])) (b x (by simp[Op.operands])) h
 case call c=>
  simp only[bh] at h
  have i:au σ (c.args.toList.map kA) (c.args.toList.map ρ):=
   au.map _ _ _ λx Q=>b x (by
    simp only[Op.operands,Call.operands]
    exact aGP.2 (.inr (by simpa using Q)))
  unfold tX at h;split at h
  ·rename_i x g;have z:aj σ (kA x) (ρ x):=b x (by simp[Op.operands,Call.operands,g]);unfold dD at h;split at h
   ·rename_i f first cap K
    obtain⟨us,vs,j,J,R⟩:=UX K z;have D:=(J.append i).append R;split at h
    ·cases cD:aK E.P call f (first++c.args.toList.map kA++cap) with
     |none=>simp only[cD,an,reduceCtorEq] at h
     |some v0=>simp only[cD,an,Ζ,aES] at h;obtain⟨rfl,rfl⟩:=h;obtain⟨s,l⟩:=MU d F D cD;rw[Xc rfl g j s];exact l
    ·obtain⟨s,l⟩:=ahf F E.io _ _ _ _ _ h;rw[Xc rfl g j s];exact l B W0 σ w _ d D
   ·cases h
  ·rename_i g;unfold cG at h;split at h
   ·rename_i x y N I M A;rw[M] at i;rw[au.eC] at i;obtain⟨u,eG,S,z,q⟩:=i;rw[au.eC] at q;obtain⟨L,Lf,rfl,O,G⟩:=q;rw[au.pR] at G;subst G;have:=ae1 (ty:=ty) d z O h;have U:c.args.map ρ=#[u,L]:=by apply aF9;simp[S]
    have et:c.argTypes=#[N,I]:=by apply aF9;simp[A]
    simpa[execOp,resolve,g,invoke,builtin,U,et] using this
   ·cases h
  ·rename_i g;have:=ahh (ty:=ty) (us:=c.args.map ρ) d (by simpa only[aGr] using i) h;simpa[execOp,resolve,g,invoke,builtin] using this
  ·exact C h
 all_goals(simp only[bh] at h;with_reducible exact C h)
end
end Go.Ab
