/- LintCalls: part 2 of its proof. -/
import Derived.Test.YtmehamiifalmaaaGreatDoorG0
import Derived.Deep.Upon
import Derived.Laws.MakeOwn
import Derived.Laws.IdiomStrings
set_option linter.all false
namespace Go.Ab
open Go
def AV.aq:AV->Bool
 | .agg cs=>go cs
 | .tup cs=>go cs
 | .vec o es=>(match o with| .own _=>false| .cut _ _ _ _=>false|_=>true)&&go es
 | .ptr _ _=>false
 | .sl _ _ _ _=>false
 | .map _=>false
 | .rptr cs=>go cs
 | .fn _ first cap=>go first&&go cap
 | .iface _ v=>v.aq
 |_=>true
where go:List AV->Bool
 |[]=>true
 |c::cs=>c.aq&&go cs
def an{α β:Type}(x:Option α)(f:α->Option β):Option β:=match x with|some a=>f a|none=>none
def cY{α:Type}(c:Bool)(x y:α):α:=if c then x else y
def dt{α β:Type}(f:α->Option β):List α->Option (List β)
 |[]=>some []
 |x::r=>an (f x) λy=>an (dt f r) λa=>some (y::a)
def eE:List AV->Bool
 |[]=>true
 |c::cs=>c.one&&eE cs
def nT(agg:Bool)(s:Nat):Nat->List AV->List AV
 |0,_=>[]
 |n+1,cs=>(if agg then .agg (cs.take s) else cs.headD .rK)::nT agg s n (cs.drop s)
def cH(P:Program)(H:ab):Nat->AV->Option AV
 |0,_=>none
 |n+1,v=>match v with
  | .agg cs=>an (dt (cH P H n) cs) λds=>some (.agg ds)
  | .tup cs=>an (dt (cH P H n) cs) λds=>some (.tup ds)
  | .vec o es=>an (dt (cH P H n) es) λds=>some (.vec o.bare ds)
  | .rptr cs=>an (dt (cH P H n) cs) λds=>some (.rptr ds)
  | .fn f a b=>an (dt (cH P H n) a) λa'=>an (dt (cH P H n) b) λd=>some (.fn f a' d)
  | .iface t x=>an (cH P H n x) λy=>some (.iface t y)
  | .ptr id off=>match H.get id with
   |some (.cells _ cs)=>if eE (cs.drop off)=true then an (dt (cH P H n) (cs.drop off)) λds=>some (.rptr ds) else none
   |some (.row _ _ _ cs)=>an (dt (cH P H n) (cs.drop off)) λds=>some (.rptr ds)
   |_=>none
  | .sl id s off len=>match H.get id with
   |some (.row m et c cs)=>match cu P et with
    |some g=>if c=s/\off+len<=m/\(g=true\/s=1) then an (dt (cH P H n) (nT g s len (cs.drop (off*s)))) λds=>some (.vec .ro ds) else none
    |none=>none
   |_=>none
  | .map _=>none
  |v=>some v
abbrev ck:=FuncId->List AV->ab->Option (AV×ab)
abbrev az:=Nat->AV
def hM:AV:=.val (.tuple #[])
def ev(α:az):Operand->AV
 | .tmp t=>α t
 | .const v=>od v
 | .global g=>.val (.pointer (some ⟨g,0,none⟩))
 | .func f=>.fn (.func f) [] []
def put(α:az)(dst:Option Tmp)(v:AV):az:=
 match dst with
 |some d=>λi=>if i=d then v else α i
 |none=>α
structure Env where
 P:Program
 G:FuncId->Bool
 cl:FuncId->Bool
 eX:TypeId->Bool
 df:FuncId->Bool
 dyn:Nat->Bool
 ext:ck
 any:Array Oper->Bool:=λ_=>false
 io:FuncId->Bool:=λ_=>false
def aI(P:Program)(call:ck)(f:FuncId)(args:List AV):Option AV:=
 if AV.aq.go (args.map AV.erase)=true then
  match call f (args.map AV.erase) .empty with
  |some (v,H)=>if v.erase.aq=true then some v.erase else an (cH P H 1000 v) λa=>if a.aq=true then some a else none
  |none=>none
 else none
def gN(k:Nat):List AV->Option (Nat×List AV)
 |[]=>none
 | .ptr id 0::r=>if AV.aq.go r=true then some (id,.ptr k 0::r) else none
 |a::r=>if a.aq=true then an (gN k r) λp=>some (p.1,a::p.2) else none
def oD(call:ck)(f:FuncId)(args:List AV)(te:Option TypeId)(cs:List AV):Option (AV×Option TypeId×List AV):=
 match call f args {next:=1,jx:=[(0,.cells te cs)]} with
 |some (v,b)=>match b.get 0 with
  |some (.cells c a)=>if v.erase.aq=true/\AV.aq.go (a.map AV.bare)=true then some (v.erase,c,a.map AV.bare) else none
  |_=>none
 |none=>none
def oA(call:ck)(f:FuncId)(args:List AV)(tb te:Option TypeId)(cs:List AV):Option (AV×Option TypeId×Option TypeId×List AV):=
 match call f args {next:=2,jx:=[(1,.cells tb [.ptr 0 0]),(0,.cells te cs)]} with
 |some (v,a)=>match a.get 1,a.get 0 with
  |some (.cells d [.ptr 0 0]),some (.cells c b)=>if v.erase.aq=true/\AV.aq.go (b.map AV.bare)=true then some (v.erase,d,c,b.map AV.bare) else none
  |_,_=>none
 |none=>none
def yk(call:ck)(f:FuncId)(args:List AV)(H:ab):Option (AV×ab):=
 match gN 0 (args.map AV.erase),gN 1 (args.map AV.erase) with
 |some (id,as),some (_,b)=>match H.get id with
  |some (.cells tb [.ptr a 0])=>match H.get a with
   |some (.cells te cs)=>if a≠id/\AV.aq.go (cs.map AV.bare)=true then an (oA call f b tb te (cs.map AV.bare)) λr=>some (r.1,(H.set a (.cells r.2.2.1 r.2.2.2)).set id (.cells r.2.1 [.ptr a 0])) else none
   |_=>none
  |some (.cells te cs)=>if AV.aq.go (cs.map AV.bare)=true then an (oD call f as te (cs.map AV.bare)) λr=>some (r.1,H.set id (.cells r.2.1 r.2.2)) else none
  |_=>none
 |_,_=>none
def rf(io:FuncId->Bool)(call:ck):ck:=λf args H=>if io f=true then yk call f args H else call f args H
def target:AV->Option (FuncId×List AV×List AV)
 | .fn (.func f) first cap=>some (f,first,cap)
 |_=>none
def fF(n:Nat):List AV->Bool
 |[]=>true
 |c::cs=>(c.width==some n)&&fF n cs
def lZ:List AV->Bool
 |[]=>true
 |c::cs=>eE c.cells&&lZ cs
def tG(P:Program)(t:TypeId)(a x:AV)(H:ab):Option (AV×ab):=
 match a with
 | .ptr id off=>match H.get id with
  |some (.cells te cs)=>
   if bF P t=x.width/\x.width≠none/\off+x.cells.length<=cs.length/\eE x.cells=true then some (hM,H.set id (.cells te (eD cs off x.cells))) else none
  |some (.row n et s cs)=>
   if bF P t=x.width/\x.width≠none/\off+x.cells.length<=cs.length/\eE x.cells=true then some (hM,H.set id (.row n et s (eD cs off x.cells))) else none
  |_=>none
 |_=>none
def sB(P:Program)(t:TypeId)(H:ab):Option (AV×ab):=
 match dq P t with
 |some z=>some (.ptr H.next 0,H.push (.cells (some t) z))
 |none=>none
def fY(x:AV)(H:ab):Option (AV×ab):=
 if x.width≠none then some (.ptr H.next 0,H.push (.cells none x.cells)) else none
def mH:Nat->List (Nat×AV)->Bool
 |_,[]=>true
 |n,(i,_)::r=>(i==n)&&mH (n+1) r
def dS(P:Program)(t:TypeId)(len:Nat)(parts:List (Nat×AV))(H:ab):Option (AV×ab):=
 match eW P t with
 |some et=>match bF P et,dq P et with
  |some s,some z=>
   if parts.length=len/\mH 0 parts=true/\fF s (parts.map λp=>p.2.erase)=true/\lZ (parts.map λp=>p.2.erase)=true/\s≠0/\z.length=s/\len*s<=16777216 then
    some (.vec .full (parts.map λp=>p.2.erase),H)
   else none
  |_,_=>none
 |none=>none
def pU(P:Program)(H:ab)(s:Nat):AV->Option (Nat×List AV)
 | .vec _ fs=>if fF s fs=true then some (fs.length,fs.flatMap AV.cells) else none
 | .sl id b off len=>match H.get id with
  |some (.row m _ a cs)=>if b=s/\off+len<=m/\a=s then some (len,(cs.drop (off*s)).take (len*s)) else none
  |_=>none
 | .val v=>if Fv v=true then some (0,[]) else none
 |_=>none
def pM(et s fq:Nat)(x:AV)(m:Nat)(a:List AV)(H:ab):Option (AV×ab):=
  match x with
  | .vec o es=>
   if m=0 then some (x,H) else
   match o with
   | .own _=>none
   | .cut _ _ _ _=>none
   | .ro=>none
   |_=>if fF s es=true/\(es.length+m)*fq<=140737488355328/\es.length+m<=9223372036854775807 then some (.sl H.next s 0 (es.length+m),H.push (.row (es.length+m) et s (es.flatMap AV.cells++a))) else none
  | .sl id c off len=>
   if m=0 then some (x,H) else
   match H.get id with
   |some (.row n d b cs)=>
    if c=s/\d=et/\b=s/\off=0/\len<=n/\(len+m)*fq<=140737488355328/\len+m<=9223372036854775807 then some (.sl H.next s 0 (len+m),(H.del id).push (.row (len+m) et s (cs.take (len*s)++a)))
    else none
   |_=>none
  |_=>none
def we(P:Program)(et s fq:Nat)(x y:AV)(H:ab):Option (AV×ab):=
 match pU P H s y with
 |none=>none
 |some (m,a)=>pM et s fq x m a H
def lC(P:Program)(b:TypeId)(et fq:Nat)(o:Own)(es fs:List AV)(H:ab):Option (AV×ab):=
 if ow P b es=true/\ow P b fs=true/\(es.length+fs.length)*fq<=140737488355328/\es.length+fs.length<=9223372036854775807 then
  match o with
  | .nil=>if es.length=0 then(if fs.length=0 then some (.vec .nil [],H) else some (.vec (.own H.next) fs,H.push (.bB fs.length et))) else none
  | .full=>if fs.length=0 then some (.vec .full es,H) else some (.vec (.own H.next) (es++fs),H.push (.bB (es.length+fs.length) et))
  | .own k=>match H.get k with
   |some (.bB n a)=>if n=es.length/\a=et then some (.vec (.own k) (es++fs),H.set k (.bB (es.length+fs.length) et)) else none
   |_=>none
  | .cut z k j s=>if fs.length=0\/bF P et≠some s then none else
   match z,H.get k with
   |true,some (.bB n a)=>if n=j+es.length/\a=et then some (.vec (.cut false H.next 0 s) (es++fs),(H.del k).push (.mf (es.length+fs.length) et)) else none
   |false,some (.mf n a)=>if n=j+es.length/\a=et then some (.vec (.cut false H.next 0 s) (es++fs),(H.del k).push (.mf (es.length+fs.length) et)) else none
   |_,_=>none
  | .ro=>if fs.length=0 then some (.vec .ro es,H) else none
 else none
def jt(eX:TypeId->Bool)(t:TypeId)(x y:AV):Option (Own×List AV×List AV):=
 match x,y with
 | .vec o es,.vec _ fs=>match o with
  | .nil=>if eX t=true then none else some (.nil,es,fs)
  | .full=>if eX t=true then none else some (.full,es,fs)
  |o=>some (o,es,fs)
 |_,_=>none
def aqC(P:Program)(d:TypeId):Bool:=match eW P d with
 |some et=>(match P.underlying et with|some (.int .u8)=>true|_=>false)&&bF P et==some 1
 |none=>false
def MN(P:Program)(c a et s fq:Nat)(x:AV)(l:List UInt8)(H:ab):Option (AV×ab):=
 if aqC P c=true/\yi P a=true/\s=1 then pM et s fq x l.length (l.map λb=>.int .u8 b.toNat) H else none
def cj(eX:TypeId->Bool)(P:Program)(a b:TypeId)(x y:AV)(H:ab):Option (AV×ab):=
 match eW P a with
 |some et=>match bF P et,jN P et,dq P et with
  |some s,some fq,some z=>
   match y with
   | .str l=>if s≠0/\z.length=s then MN P a b et s fq x l H else none
   |y=>
   if a=b/\s≠0/\z.length=s then
    match jt eX a x y with
    |some (o,es,fs)=>lC P a et fq o es fs H
    |none=>we P et s fq x y H
   else none
  |_,_,_=>none
 |none=>none
def Hm(H:ab):AV×ab:=(.map H.next,H.push (.map [] 0))
def setAt(es:List (AV×AV×Nat))(i:Nat)(k v:AV):List (AV×AV×Nat):=es.take i++(match es[i]? with|some (_,_,b)=>[(k,v,b)]|none=>[])++es.drop (i+1)
def AV.Rh:AV->Bool
 | .agg _=>true
 |_=>false
def uG(P:Program)(t:TypeId)(m k v:AV)(H:ab):Option (AV×ab):=
 match m with
 | .map id=>match H.get id with
  |some (.map es clock)=>match AM P t with
   |some (a,et)=>if yj P a k=true/\bF P et=v.width/\v.width≠none then
     match mL k es 0 with
     |some (some (i,_))=>if k.Rh=true then none else some (hM,H.set id (.map (setAt es i k v) clock))
     |some none=>some (hM,H.set id (.map (es++[(k,v,clock)]) (clock+1)))
     |none=>none
    else none
   |none=>none
  |_=>none
 |_=>none
def dX(E:Env)(call:ck)(f:AV)(args:List AV)(H:ab):Option (AV×ab):=
 match target f with
 |some (f,first,cap)=>
  if E.cl f=true then an (aI E.P call f (first++args++cap)) λv=>some (v,H)
  else rf E.io call f (first++args++cap) H
 |none=>none
def cQ(eX:TypeId->Bool)(P:Program)(dV:List TypeId)(args:List AV)(H:ab):Option (AV×ab):=
 match args,dV with
 |[x,y],[b,a]=>cj eX P b a x y H
 |_,_=>none
def yE(P:Program)(dV:Array TypeId):Bool:=match dV[0]? with
 |some t=>(AM P t).isSome
 |none=>false
def tO(P:Program)(dV:Array TypeId)(args:List AV)(H:ab):Option (AV×ab):=
 match args with
 |[.map id]=>if yE P dV=true then match H.get id with|some (.map es _)=>some (.int .i64 es.length,H)|_=>none else none
 |args=>an (gD P dV args) λv=>some (v,H)
def tq(E:Env)(call:ck)(c:Call)(ρ:Operand->AV)(H:ab):Option (AV×ab):=
 match c.callee with
 | .value f=>dX E call (ρ f) (c.args.toList.map ρ) H
 | .builtin .append=>cQ E.eX E.P c.argTypes.toList (c.args.toList.map ρ) H
 | .builtin .len=>tO E.P c.argTypes (c.args.toList.map ρ) H
 |_=>an (lF E.P (.call c) ρ H) λv=>some (v,H)
def bz(E:Env)(call:ck)(op:Op)(ρ:Operand->AV)(H:ab):Option (AV×ab):=
 match op with
 | .alloc t=>sB E.P t H
 | .box _ x=>fY (ρ x) H
 | .store t a x=>tG E.P t (ρ a) (ρ x) H
 | .makeMap _ r=>match r with|none=>some (Hm H)|some _=>none
 | .mapUpdate t m k v=>uG E.P t (ρ m) (ρ k) (ρ v) H
 | .insert t m k v=>uG E.P t (ρ m) (ρ k) (ρ v) H
 | .buildSlice t len parts=>dS E.P t len (parts.toList.map λp=>(p.1,ρ p.2)) H
 | .call c=>tq E call c ρ H
 |op=>an (lF E.P op ρ H) λv=>some (v,H)
inductive Kd where
 |ins
 |rd
 |wr
 deriving DecidableEq
def bO(E:Env)(o:Op):Kd:=
 match o with
 | .load _ _=>.rd
 | .lookup _ _ _ _=>.rd
 | .alloc _=>.wr
 | .box _ _=>.wr
 | .store _ _ _=>.wr
 | .makeMap _ _=>.wr
 | .mapUpdate _ _ _ _=>.wr
 | .insert _ _ _ _=>.wr
 | .call c=>
  match c.callee with
  | .value (.func f)=>if E.cl f=true then .ins else .wr
  | .value _=>.wr
  | .builtin .append=>.wr
  | .builtin .len=>if yE E.P c.argTypes=true then .rd else .ins
  |_=>.ins
 |_=>.ins
def NX:Value->Value->Bool
 | .pointer a,v=>match v with| .pointer b=>decide (a=b)|_=>false
 | .nilIface,v=>match v with| .nilIface=>true|_=>false
 | .nilFunc,v=>match v with| .nilFunc=>true|_=>false
 | .map a,v=>match v with| .map b=>a.isNone&&b.isNone|_=>false
 |_,_=>false
def OY:Fn->Fn->Bool
 | .func f,g=>match g with| .func a=>f==a|_=>false
 |_,_=>false
def xX:Own->Own->Bool
 | .ro,.ro=>true
 | .nil,.nil=>true
 | .full,.full=>true
 | .own a,.own b=>a==b
 | .cut z a b c,.cut d a' e f=>z==d&&a==a'&&b==e&&c==f
 |_,_=>false
mutual
def ef:AV->AV->Bool
 | .int k a,v=>match v with| .int k' b=>decide (k=k')&&a==b|_=>false
 | .bool a,v=>match v with| .bool b=>a==b|_=>false
 | .str a,v=>match v with| .str b=>a==b|_=>false
 | .agg xs,v=>match v with| .agg ys=>iV xs ys|_=>false
 | .tup xs,v=>match v with| .tup ys=>iV xs ys|_=>false
 | .ptr a b,v=>match v with| .ptr c d=>a==c&&b==d|_=>false
 | .sl a b c d,v=>match v with| .sl a' b' c' d'=>a==a'&&b==b'&&c==c'&&d==d'|_=>false
 | .map a,v=>match v with| .map b=>a==b|_=>false
 | .rptr xs,v=>match v with| .rptr ys=>iV xs ys|_=>false
 | .vec o xs,v=>match v with| .vec o' ys=>xX o o'&&iV xs ys|_=>false
 | .val a,v=>match v with| .val b=>NX a b|_=>false
 | .fn f a b,v=>match v with| .fn g c d=>OY f g&&iV a c&&iV b d|_=>false
 | .rK,v=>match v with| .rK=>true|_=>false
 | .any,v=>match v with| .any=>true|_=>false
 | .iface t x,v=>match v with| .iface t' y=>decide (t=t')&&ef x y|_=>false
def iV:List AV->List AV->Bool
 |[],ys=>match ys with|[]=>true|_=>false
 |x::xs,ys=>match ys with|y::ys=>ef x y&&iV xs ys|[]=>false
end
def behind(ops:Array Oper):Nat->Nat->Nat->Bool
 |0,_,_=>false
 |n+1,j,k=>match ops[j]? with
  |some o=>o.after.any λe=>Region.binds .any e&&(e.on==k||behind ops n e.on k)
  |none=>false
def reads(E:Env)(call:ck)(o:Oper)(α:az)(v:AV)(H:ab):Bool:=
 match bz E call o.op (ev α) H with
 |some (u,_)=>ef u v
 |none=>false
def jG(ops:Array Oper)(g:Option (Nat×Bool))(α:az):Option Bool:=
 match g with
 |none=>some true
 |some (j,b)=>match(ops[j]?).bind (·.dst) with
  |some d=>match α d with
   | .bool c=>some (c==b)
   | .val (.tuple _)=>some false
   |_=>none
  |none=>none
def iS(E:Env)(call:ck)(all:Array Oper):List Oper->az->ab->Option (az×ab)
 |[],α,H=>some (α,H)
 |o::rest,α,H=>
  an (jG all o.guard α) λb=>
   cY b (an (bz E call o.op (ev α) H) λr=>iS E call all rest (put α o.dst r.1) r.2)
    (iS E call all rest (put α o.dst hM) H)
def eP(E:Env)(call:ck)(all:Array Oper):Nat->List Oper->List (Nat×Oper×az×AV)->List (Nat×ab)->az->ab->Option (az×ab)
 |_,[],_,_,α,H=>some (α,H)
 |k,o::rest,a,c,α,H=>
  an (jG all o.guard α) λb=>
   cY b (an (bz E call o.op (ev α) H) λr=>
     match bO E o.op with
     | .ins=>eP E call all (k+1) rest a c (put α o.dst r.1) r.2
     | .rd=>cY (c.all λw=>behind all all.size k w.1||reads E call o α r.1 w.2) (eP E call all (k+1) rest ((k,o,α,r.1)::a) c (put α o.dst r.1) r.2) none
     | .wr=>cY (a.all λq=>behind all all.size k q.1||reads E call q.2.1 q.2.2.1 q.2.2.2 r.2) (eP E call all (k+1) rest a ((k,H)::c) (put α o.dst r.1) r.2) none)
    (eP E call all (k+1) rest a c (put α o.dst hM) H)
def uK(a b:Kd):Bool:=
 match a,b with
 | .ins,_=>true
 |_,.ins=>true
 | .rd,.rd=>true
 |_,_=>false
def Fa(E:Env)(ops:Array Oper)(listed:Array Bool)(i:Nat):Bool:=
 match ops[i]? with
 |none=>false
 |some b=>(List.range ops.size).all λj=>j==i||listed.getD j true||match ops[j]? with
   |some a=>a.after.any (λe=>Region.binds .any e&&e.on==i)||(b.apart ops a&&uK (bO E b.op) (bO E a.op))
   |none=>true
def Ch:List (AV×AV×Nat)->List (AV×AV×Nat)->Bool
 |[],l=>match l with|[]=>true|_=>false
 |(a,b,n)::r,l=>match l with|(c,d,m)::l=>ef a c&&ef b d&&decide (n=m)&&Ch r l|[]=>false
def xY:bH->bH->Bool
 | .cells t cs,v=>match v with| .cells t' ds=>decide (t=t')&&iV cs ds|_=>false
 | .bB n t,v=>match v with| .bB m t'=>decide (n=m)&&decide (t=t')|_=>false
 | .mf n t,v=>match v with| .mf m t'=>decide (n=m)&&decide (t=t')|_=>false
 | .row n t s cs,v=>match v with| .row m t' a ds=>decide (n=m)&&decide (t=t')&&decide (s=a)&&iV cs ds|_=>false
 | .map es c,v=>match v with| .map fs d=>Ch es fs&&decide (c=d)|_=>false
def Ci:List (Nat×bH)->List (Nat×bH)->Bool
 |[],l=>match l with|[]=>true|_=>false
 |(i,x)::r,l=>match l with|(j,y)::l=>decide (i=j)&&xY x y&&Ci r l|[]=>false
def Yc(ops:Array Oper)(a:az)(H':ab)(α:az)(H:ab):Bool:=
 (ops.toList.all λo=>match o.dst with|some d=>ef (α d) (a d)|none=>true)&&decide (H.next=H'.next)&&Ci H.jx H'.jx
def EP:ck:=λ_ _ _=>none
def CV(E:Env)(ops:Array Oper)(yN:az->ab->Bool):Nat->Array Bool->az->ab->Bool
 |0,listed,α,H=>(Region.ready .any ops listed).isEmpty&&yN α H
 |fuel+1,listed,α,H=>
  let a (i:Nat):Bool:=match ops[i]? with
   |some o=>match jG ops o.guard α with
    |some true=>match bz E EP o.op (ev α) H with
     |some (v,H')=>CV E ops yN fuel (listed.setIfInBounds i true) (put α o.dst v) H'
     |none=>false
    |some false=>CV E ops yN fuel (listed.setIfInBounds i true) (put α o.dst hM) H
    |none=>false
   |none=>false
  match(Region.ready .any ops listed).find? (Fa E ops listed) with
  |some i=>a i
  |none=>(!(Region.ready .any ops listed).isEmpty||yN α H)&&(Region.ready .any ops listed).all a
def BU(E:Env)(ops:Array Oper)(α:az)(H:ab):Option (az×ab):=
 match iS E EP ops ops.toList α H with
 |some r=>cY (CV E ops (Yc ops r.1 r.2) ops.size (Array.replicate ops.size false) α H) (some r) none
 |none=>none
inductive Ex where
 |normal
 |exit (id:Nat)
 |ret
abbrev dZ:=Ex×az×ab
def andThen(r:dZ)(f:az->ab->Option dZ):Option dZ:=
 match r with
 |(.normal,α,H)=>f α H
 |r=>some r
def tw(id:Nat)(r:dZ):dZ:=
 match r with
 |(.exit j,α,H)=>if j=id then(.normal,α,H) else(.exit j,α,H)
 |r=>r
def h_(f:az->ab->Option dZ):Nat->az->ab->Option dZ
 |0,_,_=>none
 |n+1,α,H=>an (f α H) λr=>andThen r (h_ f n)
def CE(α:az)(c:Operand)(x y:Option dZ):Option dZ:=
 match ev α c with
 | .bool v=>cY v x y
 |_=>none
def aP(E:Env)(call:ck)(loop:(az->ab->Option dZ)->az->ab->Option dZ):Code->az->ab->Option dZ
 | .skip,α,H=>some (.normal,α,H)
 | .region id ops d,α,H=>an (cY (d&&E.dyn id) (cY (E.any ops) (BU E ops α H) (eP E call ops 0 ops.toList [] [] α H)) (iS E call ops ops.toList α H)) λr=>some (.normal,r.1,r.2)
 | .seq a b,α,H=>an (aP E call loop a α H) λr=>andThen r (aP E call loop b)
 | .cond c a b,α,H=>CE α c (aP E call loop a α H) (aP E call loop b α H)
 | .block id c,α,H=>an (aP E call loop c α H) λr=>some (tw id r)
 | .loop c,α,H=>loop (aP E call loop c) α H
 | .exit id,α,H=>some (.exit id,α,H)
 | .ret,α,H=>some (.ret,α,H)
 |_,_,_=>none
def kT(P:Program)(α:az)(H:ab):List ResultVar->Option (List AV)
 |[]=>some []
 | .tmp t::r=>an (kT P α H r) λb=>some (α t::b)
 | .cell a t::r=>an (match α a with| .ptr id off=>kH P H t (.ptr id off)|_=>none) λv=>an (kT P α H r) λb=>some (v::b)
def qz:List AV->AV
 |[v]=>v
 |vs=>.tup vs
def jy(args:List AV):az:=λi=>(args[i]?).getD hM
def finish(P:Program)(a:List ResultVar)(r:dZ):Option (AV×ab):=
 match r with
 |(.exit _,_,_)=>none
 |(_,α,H)=>an (kT P α H a) λb=>some (qz b,H)
def sH(E:Env)(call:ck)(loop:(az->ab->Option dZ)->az->ab->Option dZ)(f:FuncId)(args:List AV)(H:ab):Option (AV×ab):=
 match E.P.funcs[f]? with
 |some fn=>match fn.body with
  |some c=>if args.length<=fn.ntmps then an (aP E call loop c (jy args) H) (finish E.P fn.results.toList) else none
  |none=>none
 |none=>none
def Aw:Code->Option (Oper×Oper)
 | .region _ ops a=>
  match a,ops.toList with
  |false,[o,d]=>match o.op,o.dst,o.guard,d.op,d.guard,d.dst with
   | .makeFunc _ _ _,some t,none,.defer c,none,none=>match c.callee with
    | .value (.tmp t')=>if t=t'/\c.args.toList.isEmpty=true then some (o,d) else none
    |_=>none
   |_,_,_,_,_,_=>none
  |_,_=>none
 |_=>none
def iB(E:Env)(call:ck)(loop:(az->ab->Option dZ)->az->ab->Option dZ):Code->az->ab->Option (dZ×AV)
 | .seq a b,α,H=>
  match Aw a with
  |some (o,_)=>an (bz E call o.op (ev α) H) λr=>an (aP E call loop b (put α o.dst r.1) r.2) λq=>some (q,r.1)
  |none=>an (aP E call loop a α H) λr=>match r with
   |(.normal,ae,H')=>iB E call loop b ae H'
   |_=>none
 |_,_,_=>none
def Ag(E:Env)(call:ck)(loop:(az->ab->Option dZ)->az->ab->Option dZ)(f:FuncId)(args:List AV)(H:ab):Option (AV×ab):=
 match E.P.funcs[f]? with
 |some fn=>match fn.body with
  |some c=>if args.length<=fn.ntmps then
    an (iB E call loop c (jy args) H) λr=>
     match r.1,target r.2 with
     |(.exit _,_,_),_=>none
     |(_,α,H'),some (g,first,cap)=>if E.G g=true/\E.df g=false then an (call g (first++cap) H') λq=>finish E.P fn.results.toList (.ret,α,q.2) else none
     |_,none=>none
   else none
  |none=>none
 |none=>none
def eI(E:Env):Nat->ck
 |0,_,_,_=>none
 |n+1,f,args,H=>if E.G f=true then if E.df f=true then Ag E (eI E n) (λg=>h_ g n) f args H else sH E (eI E n) (λg=>h_ g n) f args H else E.ext f args H
end Go.Ab
namespace Go.Ab
open Go Go.RowKit
section
variable {P:Program} {B:Nat->Prop} {W0:World} {H:ab} {σ:St} {w:World}
def tN.aS{id}{x}(h:tN P B σ w id x):∃b,Ab.aS σ id x=some b/\¬B b/\b<w.heap.size:=by
 cases x with
 |cells te cs=>obtain⟨b,c,e,a,d,f,_⟩:=h;exact⟨b,a,d,(Δ.1 f).1⟩
 |bB n et=>obtain⟨b,cap,c,s,a,d,f,_⟩:=h;exact⟨b,by simp[Ab.aS,a],d,(Δ.1 f).1⟩
 |mf n et=>obtain⟨b,cap,c,s,β,a,_,d,f,_⟩:=h;exact⟨b,by simp[Ab.aS,a],d,(Δ.1 f).1⟩
 |row n et s cs=>obtain⟨b,cap,c,a,_,d,f,_⟩:=h;exact⟨b,a,d,(Δ.1 f).1⟩
 |map es clock=>obtain⟨b,ms,a,d,f,_⟩:=h;exact⟨b,a,d,(Δ.1 f).1⟩
def tN.bU{aR:St}{w':World}{id}{x}(h:tN P B σ w id x)(a:σ.le aR)
  (hb:∀b,Ab.aS σ id x=some b->w'.heap[b]? =w.heap[b]?∧∀o,aR.cells b o=σ.cells b o) (z:∀n,aR.own id n=σ.own id n):tN P B aR w' id x:=by
 cases x with
 |cells te cs=>obtain⟨b,c,e,d,f,k,g,j,p⟩:=h;obtain⟨i,l⟩:=hb b d;exact⟨b,c,e,a.loc _ _ d,f,i.trans k,g.mono a,λo=>(l o).trans (j o),p⟩
 |bB n et=>obtain⟨b,cap,c,s,d,f,k,g,j,p,r,q,u⟩:=h;obtain⟨i,l⟩:=hb b (by simp[Ab.aS,d]);exact⟨b,cap,c,s,a.own _ _ _ d,f,i.trans k,g,j,p,r,λo t=>(l o).trans (q o t),λm hm=>(z m).trans (u m hm)⟩
 |mf n et=>obtain⟨b,cap,c,s,β,d,v,f,k,g,j,p,r,q⟩:=h;obtain⟨i,l⟩:=hb b (by simp[Ab.aS,d]);exact⟨b,cap,c,s,β,a.own _ _ _ d,a.loc _ _ v,f,i.trans k,g,j,p,r,λo t=>(l o).trans (q o t)⟩
 |row n et s cs=>obtain⟨b,cap,c,d,v,f,k,g,j,p,r,q,u,A,C,y⟩:=h;obtain⟨i,l⟩:=hb b d;exact⟨b,cap,c,a.loc _ _ d,a.own _ _ _ v,f,i.trans k,g,j,p,r,q,u,A.mono a,C,λo=>(l o).trans (y o)⟩
 |map es clock=>obtain⟨b,ms,d,f,k,g,j⟩:=h;obtain⟨i,l⟩:=hb b d;exact⟨b,ms,a.loc _ _ d,f,i.trans k,g.mono a,λo=>(l o).trans (j o)⟩
def zM{aR}{id}{x}{b}(a:σ.le aR)(h:aS σ id x=some b):aS aR id x=some b:=by
 cases x with
 |cells te cs=>exact a.loc _ _ h
 |row n et s cs=>exact a.loc _ _ h
 |map es clock=>exact a.loc _ _ h
 |bB n et=>simp only[aS] at h⊢;obtain⟨p,c,rfl⟩:=aDy.1 h;rw[a.own _ _ _ c];rfl
 |mf n et=>simp only[aS] at h⊢;obtain⟨p,c,rfl⟩:=aDy.1 h;rw[a.own _ _ _ c];rfl
def ab.eg{H:ab}{id}{x}(h:H.get id=some x):id<H.next:=by
 unfold ab.get at h;split at h
 ·assumption
 ·cases h
def ab.dT(H:ab)(x)(id):(H.push x).get id=if H.next=id then some x else H.get id:=by
 simp[ab.get,ab.push,cq];by_cases b:id<H.next
 ·rw[xh,ν b]
 ·by_cases a:H.next=id
  ·rw[xh,ν a,ν a]
  ·rw[bV,κ a,κ b]
def bg:∀l id y k,cq (aH l id y) k=if id=k then(cq l id).map λ_=>y else cq l k
 |[],id,y,k=>by simp[aH,cq]
 |(j,x)::l,id,y,k=>by
  by_cases b:j=id
  ·subst b;simp[aH,ν,cq];by_cases a:j=k<;>simp[a]
  ·simp[aH,κ b,cq];by_cases a:j=k
   ·subst a;simp[aEy b]
   ·simp[κ a];exact(bg l id y k)
def ab.ec(H:ab)(id)(y)(k):(H.set id y).get k=if id=k then(H.get id).map (λ_=>y) else H.get k:=by
 have:=bg H.jx id y k;simp[ab.get,ab.set,this];by_cases e:id=k
 ·subst e;by_cases h:id<H.next
  ·simp[h]
  ·simp[h]
 ·simp[e]
def aW.size(a:aW P B W0 H σ w):∀k,B k->k<w.heap.size:=λk b=>Nat.lt_of_lt_of_le (a.base.lt k b) a.below.size
def aW.xZ(a:aW P B W0 H σ w):wQ P (·<w.heap.size) w:=
 ⟨λ_ h=>h,λb o p e=>by
  obtain⟨c,v,f,d⟩:=a.base.vC b o p e
  exact⟨a.size b c,v,by simpa only[World.cell?,a.below.block b c] using f,d⟩⟩
def aW.rh(a:aW P B W0 H σ w):¬B w.heap.size:=λh=>aDF _ (a.size _ h)
def aW.xS(c:aW P B W0 H σ w){b o}{v}(h:σ.cells b o=some v):b<w.heap.size:=by
 have:=c.cells b o v h;unfold World.cell? at this;rcases aEo b w.heap.size with a|a
 ·exact a
 ·simp[aEJ a] at this
def aW.uL(a:aW P B W0 H σ w)(o):σ.cells w.heap.size o=none:=by
 cases h:σ.cells w.heap.size o with
 |none=>rfl
 |some v=>exact absurd (a.xS h) (aDF _)
def BV(w:World)(o):(w.alloc o).heap[w.heap.size]? =some o:=by show(w.heap.push o)[w.heap.size]? =some o;simp
def zN(w:World)(o){k}(h:k<w.heap.size):(w.alloc o).heap[k]? =w.heap[k]? :=Below.heap_alloc w o k h
def cell_of_heap{w w':World}{b}(h:w'.heap[b]? =w.heap[b]?)(o):w'.cell? ⟨b,o,none⟩=w.cell? ⟨b,o,none⟩:=by simp[World.cell?,h]
def St.bind(σ:St)(id b:Nat):St:={σ with loc:=λi=>if i=id then some b else σ.loc i}
def aW.NY(a:aW P B W0 H σ w)(b):σ.le (σ.bind H.next b):=by
 refine⟨λ_ _ _ h=>h,λi c h=> ?_,λ_ _ _ h=>h⟩;simp[St.bind];split
 ·rename_i hi;subst hi;rw[(a.fresh H.next (μ _)).1] at h;cases h
 ·exact h
def aW.push(a:aW P B W0 H σ w){cs}{c:Array Value}(e){te}(z:∀t,te=some t->e=t)(r:aw σ cs c.toList):
  aW P B W0 (H.push (.cells te cs)) (σ.bind H.next w.heap.size) (w.alloc (.cells c e)):=by
 have d:=a.NY w.heap.size;refine⟨a.below.alloc a.size _,a.base,?_,a.one,?_,?_,?_,?_⟩
 ·intro b o v h;rw[cell_of_heap (zN w _ (a.xS h))];exact a.cells b o v h
 ·intro id hid;have JA:H.next+1<=id:=hid;have:=a.fresh id aa;exact⟨by simp[St.bind];rw[bV];exact this.1,this.2⟩
 ·intro id x h;rw[ab.dT] at h;show id<H.next+1;split at h
  ·omega
  ·have:=a.keys id x h;omega
 ·intro id x h;rw[ab.dT] at h;split at h
  ·rename_i hid;subst hid;cases h;exact⟨w.heap.size,c,e,by simp[St.bind],a.rh,BV w _,r.mono d,λo=>a.uL o,z⟩
  ·have j:=a.obj id x h;refine j.bU d (λb hb=> ?_) (λ_=>rfl);obtain⟨s,l,_,A⟩:=j.aS;rw[hb] at l;cases l;exact⟨zN w _ A,λ_=>rfl⟩
 ·intro id gg x x' h g hb;rw[ab.dT] at h g;have key:∀i y,H.get i=some y->∃b,aS (σ.bind H.next w.heap.size) i y=some b/\b<w.heap.size:=λi y q=>by obtain⟨b,f,_,u⟩:=(a.obj i y q).aS;exact⟨b,zM d f,u⟩
  split at h
  ·rename_i n;split at g
   ·rename_i m;omega
   ·cases h;obtain⟨b,f,p⟩:=key gg x' g;rw[f,<-n] at hb;simp[aS,St.bind] at hb;omega
  ·split at g
   ·rename_i m;cases g;obtain⟨b,f,p⟩:=key id x h;rw[f,<-m] at hb;simp[aS,St.bind] at hb;omega
   ·obtain⟨b,f,_,_⟩:=(a.obj id x h).aS;obtain⟨s,k,_,_⟩:=(a.obj gg x' g).aS;rw[zM d f,zM d k] at hb;exact a.inj id gg x x' h g (by rw[f,k,hb])
def fc(P:Program)(r:Result Next)(vl:Value->World->Prop):Prop:=
 match r with
 | .ok (.value u) w'=>vl u w'
 | .ok .skip w'=>vl undef w'
 | .ok (.enter f args) w'=>Calls P f args w' (λe a=>∃u,e=.returned u/\vl u a)
 |_=>False
def kJ(P:Program)(B:Nat->Prop)(W0:World)(σ:St)(v:AV)(H':ab)(u:Value)(w':World):Prop:=∃aR,Ext B σ aR/\aW P B W0 H' aR w'/\ah aR v u
def aeP(a:aW P B W0 H σ w){t}{v}{H'}(h:sB P t H=some (v,H')):
  fc P ((do pure (Next.value (<-Instr.alloc t true (.tuple #[]))):Sem Next).run P w) (kJ P B W0 σ v H'):=by
 unfold sB at h;split at h
 ·rename_i z b;cases h;obtain⟨i,zv,hi,d,rfl⟩:=D2 b;have c:(Instr.alloc t true (.tuple #[])).run P w=.ok (.pointer (some ⟨w.heap.size,0,none⟩)) (w.alloc (.cells zv.cells t)):=by simp[Instr.alloc,zeroValue,typeInfo,hi,d,newVar,newRow]
  simp[Τ,c,Γ,atG,fc];refine⟨_,⟨a.NY _,λ_ _ _=>rfl⟩,a.push t (λ_ h=>aDP h) (aw.iG _),?_⟩;simp[ah,St.bind]
 ·cases h
def agA(a:aW P B W0 H σ w){t}{x v}{u}{H'}(d:ah σ x u)(h:fY x H=some (v,H')):
  fc P ((do pure (Next.value (<-Instr.box t u)):Sem Next).run P w) (kJ P B W0 σ v H'):=by
 unfold fY at h;split at h
 ·rename_i b;cases h;have c:(Instr.box t u).run P w=.ok (.pointer (some ⟨w.heap.size,0,none⟩)) (w.alloc (.cells u.cells t)):=by simp[Instr.box,newVar,newRow]
  simp[Τ,c,Γ,atG,fc];refine⟨_,⟨a.NY _,λ_ _ _=>rfl⟩,a.push t (λ_ h=>by cases h) (d.cells b),?_⟩;simp[ah,St.bind]
 ·cases h
def BD:∀{cs:List AV} {us:List Value},eE cs=true->aw σ cs us->∀u∈us,u.oneCell'=true
 |[],us,_,e,u,d=>by rw[aw.pO] at e;subst e;cases d
 |c::cs,us,h,e,u,d=>by
  rw[aw.eC] at e;obtain⟨x,dW,rfl,r,q⟩:=e;simp[eE] at h
  cases d with
  |tail _ d=>exact BD h.2 q u d
  |head=>
   have f:=h.1;cases c<;>simp[AV.one] at f<;>simp[ah] at r;case any=>exact r
   case int=>subst r;rfl
   case bool=>subst r;rfl
   case str=>subst r;rfl
   case vec=>obtain⟨a,cap,rfl,_⟩:=r;rfl
   case ptr=>obtain⟨b,_,rfl⟩:=r;rfl
   case rptr=>obtain⟨b,o,rfl,_⟩:=r;rfl
   case fn=>obtain⟨us,vs,rfl,_⟩:=r;rfl
   case iface=>obtain⟨x,rfl,_⟩:=r;rfl
   case sl=>obtain⟨b,cap,_,_,rfl,_⟩:=r;rfl
   case map=>obtain⟨b,_,rfl⟩:=r;rfl
   case val=>subst r;exact f
def aW.VH(f:aW P B W0 H σ w){id b}{cs q}{te}(hg:H.get id=some (.cells te cs))(hb:σ.loc id=some b){c j:Array Value}{e}
  (u:w.heap[b]? =some (.cells c e (0,0))) (M:aw σ q j.toList):aW P B W0 (H.set id (.cells te q)) σ (w.setRow b j):=by
 have C:¬B b:=by obtain⟨g,D,r,i,F,_⟩:=f.obj id _ hg;rw[hb] at i;cases i;exact F
 have A:∀o,σ.cells b o=none:=by obtain⟨g,D,r,i,_,_,_,I,_⟩:=f.obj id _ hg;rw[hb] at i;cases i;exact I
 have J:∀t,te=some t->e=t:=by obtain⟨g,D,r,i,_,z,_,_,R⟩:=f.obj id _ hg;rw[hb] at i;cases i;rw[u] at z;cases z;exact R
 have m:∀k,k≠b->(w.setRow b j).heap[k]? =w.heap[k]? :=λk a=>aEK w b k j a
 have d:∀k x,(H.set id (.cells te q)).get k=some x->∃y,H.get k=some y/\aS σ k x=aS σ k y/\(k≠id->x=y):=by
  intro k x a;rw[ab.ec] at a;split at a
  ·rename_i p;subst p;rw[hg] at a;cases a;exact⟨_,hg,rfl,λh=>absurd rfl h⟩
  ·exact⟨x,a,rfl,λ_=>rfl⟩
 refine⟨f.below.trans ⟨rfl,rfl,rfl,ai,λk a=>m k (by rintro rfl;exact C a)⟩,f.base,?_,f.one,f.fresh,?_,?_,?_⟩
 ·intro g o v h;have:g≠b:=by rintro rfl;rw[A] at h;cases h
  rw[cell_of_heap (m g this)];exact f.cells g o v h
 ·intro k x a;obtain⟨y,l,_⟩:=d k x a;exact f.keys k y l
 ·intro k x a;by_cases n:k=id
  ·subst n;rw[ab.ec,ν rfl,hg] at a;cases a;exact⟨b,j,e,hb,C,aFD w b c j e (0,0) u,M,A,J⟩
  ·obtain⟨y,l,_,Q⟩:=d k x a;have:=Q n;subst this;refine(f.obj k x l).bU σ.le_refl (λg O=>⟨m g ?_,λ_=>rfl⟩) (λ_=>rfl);rintro rfl;exact n (f.inj k id x _ l hg (by rw[O];simp[aS,hb]))
 ·intro k s x x' a N G;obtain⟨y,l,p,_⟩:=d k x a;obtain⟨K,E,L,_⟩:=d s x' N;exact f.inj k s y K l E (by rw[<-p,<-L,G])
def VI:∀l id k,cq (yD l id) k=if id=k then none else cq l k
 |[],id,k=>by simp[yD,cq]
 |(j,x)::l,id,k=>by
  have ih:=VI l id k;simp[yD];by_cases a:j=id
  ·subst a;rw[ν rfl,ih];by_cases b:j=k
   ·simp[b]
   ·simp[b,cq]
  ·rw[κ a];simp[cq,ih];by_cases c:j=k
   ·subst c;simp[aEy a]
   ·simp[c]
def ab.tz(H:ab)(id k):(H.del id).get k=if id=k then none else H.get k:=by
 have:=VI H.jx id k;simp[ab.get,ab.del,this];by_cases e:id=k
 ·simp[e]
 ·simp[e]
def aW.del(a:aW P B W0 H σ w)(id):aW P B W0 (H.del id) σ w:=by
 have b:∀k x,(H.del id).get k=some x->H.get k=some x:=λk x h=>by
  rw[ab.tz] at h;split at h
  ·cases h
  ·exact h
 exact⟨a.below,a.base,a.cells,a.one,a.fresh,λk x h=>a.keys k x (b k x h),λk x h=>a.obj k x (b k x h),λk c x x' h d e=>a.inj k c x x' (b k x h) (b c x' d) e⟩
def St.fQ(σ:St)(id b cap:Nat):St:=
 {σ with loc:=λi=>if i=id then some b else σ.loc i,own:=λi n=>if i=id/\n=0 then some (b,cap) else σ.own i n}
def aW.Nb(a:aW P B W0 H σ w)(b cap):σ.le (σ.fQ H.next b cap):=by
 refine⟨λ_ _ _ h=>h,λi c h=> ?_,λi n x h=> ?_⟩
 ·simp[St.fQ];split
  ·rename_i hi;subst hi;rw[(a.fresh H.next (μ _)).1] at h;cases h
  ·exact h
 ·simp[St.fQ];split
  ·rename_i hi;obtain⟨rfl,rfl⟩:=hi;rw[(a.fresh H.next (μ _)).2] at h;cases h
  ·exact h
def aW.OZ(d:aW P B W0 H σ w){b cap}{w':World}{x}(hB:¬B b)(hb:∀k,k≠b->k<w.heap.size->w'.heap[k]? =w.heap[k]?)(J:gL B W0 w')
  (u:∀id y,H.get id=some y->aS σ id y≠some b) (I:∀o,σ.cells b o=none) (t:aS (σ.fQ H.next b cap) H.next x=some b) (D:tN P B (σ.fQ H.next b cap) w' H.next x):
  aW P B W0 (H.push x) (σ.fQ H.next b cap) w'/\Ext B σ (σ.fQ H.next b cap):=by
 have f:=d.Nb b cap;refine⟨⟨J,d.base,?_,d.one,?_,?_,?_,?_⟩,f,λ_ _ _=>rfl⟩
 ·intro a o v h;have c:σ.cells a o=some v:=h;have C:a≠b:=by rintro rfl;rw[I] at c;cases c
  rw[cell_of_heap (hb a C (d.xS c))];exact d.cells a o v c
 ·intro id hid;have JA:H.next+1<=id:=hid;have:=d.fresh id aa;refine⟨by simp[St.fQ];rw[bV];exact this.1,λn=> ?_⟩;simp[St.fQ];rw[bV];exact this.2 n
 ·intro id y h;rw[ab.dT] at h;show id<H.next+1;split at h
  ·omega
  ·have:=d.keys id y h;omega
 ·intro id y h;rw[ab.dT] at h;split at h
  ·rename_i hid;subst hid;cases h;exact D
  ·have r:=d.obj id y h;refine r.bU f (λa s=>⟨hb a ?_ ?_,λ_=>rfl⟩) (λn=> ?_)
   ·rintro rfl;exact u id y h s
   ·obtain⟨b2,p,_,F⟩:=r.aS;rw[s] at p;cases p;exact F
   ·simp only[St.fQ];rw[bV]
 ·intro id gg y j h e g;rw[ab.dT] at h e;have key:∀i z,H.get i=some z->∃a,aS (σ.fQ H.next b cap) i z=some a/\aS σ i z=some a/\a≠b:=λi z q=>by obtain⟨a,c,_,_⟩:=(d.obj i z q).aS;refine⟨a,zM f c,c,?_⟩;rintro rfl;exact u i z q c
  split at h
  ·rename_i G;split at e
   ·rename_i m;omega
   ·cases h;obtain⟨a,c,_,l⟩:=key gg j e;rw[c,<-G,t] at g;cases g;exact absurd rfl l
  ·split at e
   ·rename_i m;cases e;obtain⟨a,c,_,l⟩:=key id y h;rw[c,<-m,t] at g;cases g;exact absurd rfl l
   ·obtain⟨b1,c,E,_⟩:=key id y h;obtain⟨b2,A,g2,_⟩:=key gg j e;rw[c,A] at g;exact d.inj id gg y j h e (by rw[E,g2,g])
def aW.Yd(a:aW P B W0 H σ w){cap}{w1:World}{o}{x}(c:w1.heap=w.heap)(h:gL B W0 w1)
  (l:aS (σ.fQ H.next w.heap.size cap) H.next x=some w.heap.size) (m:(w1.alloc o).heap[w.heap.size]? =some o->tN P B (σ.fQ H.next w.heap.size cap) (w1.alloc o) H.next x):
  aW P B W0 (H.push x) (σ.fQ H.next w.heap.size cap) (w1.alloc o)/\Ext B σ (σ.fQ H.next w.heap.size cap):=by
 have f:w1.heap.size=w.heap.size:=by rw[c]
 refine a.OZ a.rh (λk d aN=> ?_) (h.alloc (λk d=>by rw[f];exact a.size k d) _) (λid y g e=> ?_) (λo=>a.uL o) l (m ?_)
 ·rw[zN w1 _ aa,c]
 ·obtain⟨b,i,_,j⟩:=(a.obj id y g).aS;rw[i] at e;cases e;exact absurd j (aDF _)
 ·rw[<-f];exact BV w1 o
def aW.setAt(e:aW P B W0 H σ w){id b}{x y}{w':World}(hg:H.get id=some x)(m:aS σ id x=some b)(u:aS σ id y=some b)(hb:∀k,k≠b->w'.heap[k]? =w.heap[k]?)(E:gL B W0 w')
  (D:∀o,σ.cells b o=none) (s:tN P B σ w' id y):aW P B W0 (H.set id y) σ w':=by
 have a:∀k z,(H.set id y).get k=some z->∃d,H.get k=some d/\aS σ k z=aS σ k d/\(k≠id->z=d):=by
  intro k z c;rw[ab.ec] at c;split at c
  ·rename_i j;subst j;rw[hg] at c;cases c;exact⟨_,hg,by rw[m,u],λh=>absurd rfl h⟩
  ·exact⟨z,c,rfl,λ_=>rfl⟩
 refine⟨E,e.base,?_,e.one,e.fresh,?_,?_,?_⟩
 ·intro f o v h;have:f≠b:=by rintro rfl;rw[D] at h;cases h
  rw[cell_of_heap (hb f this)];exact e.cells f o v h
 ·intro k z c;obtain⟨d,g,_⟩:=a k z c;exact e.keys k d g
 ·intro k z c;by_cases i:k=id
  ·subst i;rw[ab.ec,ν rfl,hg] at c;cases c;exact s
  ·obtain⟨d,g,_,C⟩:=a k z c;have:=C i;subst this;refine(e.obj k z g).bU σ.le_refl (λf A=>⟨hb f ?_,λ_=>rfl⟩) (λ_=>rfl);rintro rfl;exact i (e.inj k id z _ g hg (by rw[A,m]))
 ·intro k l z d c G n;obtain⟨q,p,j,_⟩:=a k z c;obtain⟨F,t,r,_⟩:=a l d G;exact e.inj k l q F p t (by rw[<-j,<-r,n])
def aer{α:Type}(l m:List α)(off N)(h1:off+m.length<=N)(h2:N<=l.length):(l.take off++m++l.drop (off+m.length)).take N=(l.take N).take off++m++(l.take N).drop (off+m.length):=by
 apply List.ext_getElem?
 intro i;by_cases a:i<N
 ·rw[Υ a];by_cases b:i<off
  ·rw[adv,Ξ aX,adv,Ξ aX,Υ b,Υ b,Υ a]
  ·have d:(l.take off).length=off:=aX;have c:((l.take N).take off).length=off:=aX;have L:∀X:List α,(l.take off++(m++X))[i]? =(m++X)[i-off]? :=λX=>by rw[Ρ aa,d]
   have R:∀X:List α,((l.take N).take off++(m++X))[i]? =(m++X)[i-off]? :=λX=>by rw[Ρ aa,c]
   rw[adv,adv,L,R];by_cases hm:i-off<m.length
   ·rw[Ξ hm,Ξ hm]
   ·rw[Ρ aa,Ρ aa,aDB,aDB,Υ aa]
 ·rw[aDq aX,aDq aX]
def aW.Ye(g:aW P B W0 H σ w){id n s o}{et}{cs xs:List AV}{us:List Value}(hg:H.get id=some (.row n et s cs))(l:aw σ xs us)(C:∀u∈us,u.oneCell'=true)(nv:o+xs.length<=cs.length):
  ∃b cap c,σ.loc id=some b/\σ.own id 0=some (b,cap)/\w.heap[b]? =some (.cells c et (0,0))/\o+us.length<=c.size/\
   aW P B W0 (H.set id (.row n et s (eD cs o xs))) σ (w.setRow b (c.toList.take o++us++c.toList.drop (o+us.length)).toArray):=by
 obtain⟨b,cap,c,e,m,h,p,t,x,A,j,y,h9,q,r,i⟩:=g.obj id _ hg;have z:=l.length;have Km:n*s<=c.size:=by rw[A];exact aDr _ j
 have bC:c.toList.length=c.size:=ai;refine⟨b,cap,c,e,m,p,aa,?_⟩;have d:=aer c.toList us o (n*s) aa aa
 refine g.setAt (b:=b) hg e e (λk f=>aEK w b k _ f) (g.below.trans ⟨rfl,rfl,rfl,ai,λk f=>aEK w b k _ (by rintro rfl;exact h f)⟩) i
  ⟨b,cap,_,e,m,h,aFD w b c _ et (0,0) p,t,x,?_,j,y,?_,?_,?_,i⟩
 ·simp[aDw,aDx,atB];omega
 ·unfold eD;simp[aDx,atB];omega
 ·rw[d];unfold eD;rw[<-z];exact((q.take _).append l).append (q.drop _)
 ·rw[d];intro v a;rcases Ω.1 a with a|a
  ·rcases Ω.1 a with a|a
   ·exact r v (aFt a)
   ·exact C v a
  ·exact r v (aEj a)
def aeQ(D:aW P B W0 H σ w){t}{a x v}{G d}{H'}(l:ah σ a G)(r:ah σ x d)(h:tG P t a x H=some (v,H')):
  fc P ((do Instr.storeAt t G d;pure Next.skip:Sem Next).run P w) (kJ P B W0 σ v H'):=by
 cases a with
 |ptr id off=>
  simp[tG] at h;split at h
  ·rename_i cs hg;split at h
   ·rename_i E;obtain⟨z,i,I,p⟩:=E;cases h;obtain⟨b,c,e,hb,hB,q,A,hn⟩:=D.obj id _ hg;simp[ah] at l;obtain⟨K,k,rfl⟩:=l;rw[hb] at k;cases k;have g:=r.cells i;have f:=g.length;have y:=A.length;simp[aDv] at f y;obtain⟨n,F⟩:=aDY.1 i;have u:(sizeOf t).run P w=.ok d.cells.size w:=by rw[r.width F];exact tv (by rw[z,F])
    have j:=aFc (P:=P) b off e d.cells.toList 0 c w q aX (BD p g);simp at j;have C:(Instr.storeAt t (.pointer (some ⟨b,off,none⟩)) d).run P w=.ok () (w.setRow b (c.toList.take off++d.cells.toList++c.toList.drop (off+d.cells.toList.length)).toArray):=by simp[Instr.storeAt,Instr.sureAddr,storeVar,Τ,atG,Γ,u];simpa using j
    simp only[Τ,C,Γ,atG,fc];refine⟨σ,Ext.refl _ _,D.VH hg hb q ?_,by simp[hM,ah,undef]⟩;rw[show d.cells.toList.length=x.cells.length from by simpa using f];exact((A.take _).append g).append (A.drop _)
   ·cases h
  ·rename_i n et s cs hg;split at h
   ·rename_i E;obtain⟨z,i,I,p⟩:=E;cases h;have g:=r.cells i;obtain⟨b,cap,c,hb,ki,q,L,J⟩:=D.Ye (o:=off) hg g (BD p g) I;simp[ah] at l;obtain⟨K,k,rfl⟩:=l;rw[hb] at k;cases k;obtain⟨m,hm⟩:=aDY.1 i;have u:(sizeOf t).run P w=.ok d.cells.size w:=by rw[r.width hm];exact tv (by rw[z,hm])
    have j:=aFc (P:=P) b off et d.cells.toList 0 c w q (by simpa using L) (BD p g);simp at j;have C:(Instr.storeAt t (.pointer (some ⟨b,off,none⟩)) d).run P w=.ok () (w.setRow b (c.toList.take off++d.cells.toList++c.toList.drop (off+d.cells.toList.length)).toArray):=by simp[Instr.storeAt,Instr.sureAddr,storeVar,Τ,atG,Γ,u];simpa using j
    simp only[Τ,C,Γ,atG,fc];exact⟨σ,Ext.refl _ _,J,by simp[hM,ah,undef]⟩
   ·cases h
  ·cases h
 |_=>simp[tG] at h
def aei(a:aW P B W0 H σ w)(t):fc P ((do pure (Next.value (<-Instr.makeMap t none)):Sem Next).run P w) (kJ P B W0 σ (Hm H).1 (Hm H).2):=by
 have d:(Instr.makeMap t none).run P w=.ok (.map (some w.heap.size)) (w.alloc (.map #[] 0)):=by simp[Instr.makeMap]
 simp[Τ,d,Γ,atG,fc]
 obtain⟨c,b⟩:=a.Yd (cap:=0) (x:=.map [] 0) (o:=.map #[] 0) (w1:=w) rfl a.below (by simp[aS,St.fQ]) λe=>
  ⟨w.heap.size,#[],by simp[St.fQ],a.rh,e,by simp[gv],λo=>a.uL o⟩
 exact⟨_,b,c,by simp[Hm,ah,St.fQ]⟩
def gv.append:∀{es fs:List (AV×AV×Nat)} {ms a:List MapEntry},gv σ es ms->gv σ fs a->gv σ (es++fs) (ms++a)
 |[],_,_,_,h,k=>by simp[gv] at h;subst h;simpa using k
 |(k',v,b)::es,fs,ms,a,h,k=>by simp[gv] at h;obtain⟨m,sT,rfl,f,c,e,d⟩:=h;simp only[aD8,gv];exact⟨m,_,rfl,f,c,e,d.append k⟩
def gv.setAt:∀{es:List (AV×AV×Nat)} {ms:List MapEntry} {i:Nat} {k v:AV} {f:MapEntry->MapEntry},gv σ es ms->(∀m,ms[i]? =some m->ah σ k (f m).key/\ah σ v (f m).val/\(f m).born=m.born)->gv σ (setAt es i k v) (ms.modify i f)
 |[],ms,i,k,v,f,h,_=>by simp[gv] at h;subst h;simp[Ab.setAt,gv]
 |(k',v',b)::es,ms,i,k,v,f,h,c=>by
  simp[gv] at h;obtain⟨m,l,rfl,g,e,d,a⟩:=h
  cases i with
  |zero=>obtain⟨j,p,n⟩:=c m ai;simp only[Ab.setAt,aEU,aDu,aDl,aEc,aEk,aFk,List.modify_zero_cons,gv];exact⟨f m,l,rfl,j,p,by rw[n,d],a⟩
  |succ i=>have ih:=gv.setAt (i:=i) (k:=k) (v:=v) a (λm' o=>c m' (by simpa using o));simp only[Ab.setAt,aEb,aDA,aD8,aEc,List.modify_succ_cons,gv] at ih⊢;exact⟨m,_,rfl,g,e,d,ih⟩
def U6{d}{k}:∀ms i j x,Instr.findNow d k ms i=some (some (j,x))->∃m,i<=j/\ms[j-i]? =some m/\Instr.sameNow d k m.key=some true
 |[],i,j,x,h=>by simp[Instr.findNow] at h
 |m::ms,i,j,x,h=>by
  simp[Instr.findNow] at h;split at h
  ·rename_i hm;simp at h;obtain⟨rfl,_⟩:=h;exact⟨m,μ _,ai,hm⟩
  ·obtain⟨m',h1,a,b⟩:=U6 ms (i+1) j x h;refine⟨m',aa,?_,b⟩;rw[show j-i=(j-(i+1))+1 from aa];simpa using a
  ·cases h
def Uc(D:aW P B W0 H σ w){t}{m k x v}{X c r}{H'}(U:ah σ m X)(f:ah σ k c)(V:ah σ x r)(h:uG P t m k x H=some (v,H')):
  fc P ((do Instr.mapUpdate t X c r;pure Next.skip:Sem Next).run P w) (kJ P B W0 σ v H'):=by
 unfold uG at h;split at h
 ·rename_i id;split at h
  ·rename_i es clock hg;split at h
   ·rename_i L et SJ;split at h
    ·rename_i a;obtain⟨a,kO,mT⟩:=a;have T:=MM SJ;obtain⟨b,ms,hb,Q,o,p,E⟩:=D.obj id _ hg;simp[ah] at U;obtain⟨b',W,rfl⟩:=U;rw[hb] at W;cases W;have A:∀g:Obj,(∀s,s≠b->(w.heap.setIfInBounds b g)[s]? =w.heap[s]?)/\(w.heap.setIfInBounds b g)[b]? =some g:=λg=>⟨(Go.MapKept.heap_set o).2,(Go.MapKept.heap_set o).1⟩;have Y:∀g:Obj,gL B W0 {w with heap:=w.heap.setIfInBounds b g}:=λg=>D.below.trans ⟨rfl,rfl,rfl,ai,λs py=>(A g).1 s (by rintro rfl;exact Q py)⟩;split at h
     ·rename_i j v1 z;obtain⟨k1,R,k2,M⟩:=Ir (w:=w) f a p z (em:=false);obtain⟨j',v',y,e1,rfl,ry⟩:=M.resolve_left ai;cases e1;split at h
      ·cases h
      rename_i S;cases h
      obtain⟨mm,C,G⟩:∃mm,ms[j]? =some mm/\(Instr.keyThatStays mm.key c).run P w=.ok c w:=by
       unfold yj at a
       cases Kv:P.underlying L with
       |none=>simp[Kv] at a
       |some d=>
        have J:Go.MapKept.IsKey d c/\(Instr.findNow d c ms.toList 0=some (some (j,y))):=by
         cases d<;>simp[Kv] at a
         case int q=>
          cases k<;>simp at a;rename_i F n;simp[ah] at f;subst f;refine⟨by simpa[Go.MapKept.IsKey] using a,?_⟩;obtain⟨O,i,I⟩:=Ei (σ:=σ) (d:=.int q) (k:=.int F n) (u:=.int F n) (by simp[ah]) (.inl ⟨⟨q,rfl⟩,F,n,rfl⟩) es ms.toList 0 _ p z;have:(Instr.findKey L (.int F n) ms.toList).run P w=.ok O w:=by simp[Instr.findKey,eB Kv,i]
          rw[k2] at this;cases this;exact i
         case string=>
          cases k<;>simp at a;rename_i l;simp[ah] at f;subst f;refine⟨by simp[Go.MapKept.IsKey],?_⟩;obtain⟨O,i,I⟩:=Ei (σ:=σ) (d:=.string) (k:=.str l) (u:=.string ⟨l.toArray⟩) (by simp[ah]) (.inr ⟨rfl,l,rfl⟩) es ms.toList 0 _ p z;have:(Instr.findKey L (.string ⟨l.toArray⟩) ms.toList).run P w=.ok O w:=by simp[Instr.findKey,eB Kv,i]
          rw[k2] at this;cases this;exact i
         case struct fs=>
          split at a
          ·exact absurd rfl S
          ·cases a
         case array n el=>
          cases k<;>simp at a;exact absurd rfl S
        obtain⟨mm,_,C,Z⟩:=U6 ms.toList 0 j y J.2;simp[aDh] at C;refine⟨mm,C,?_⟩;have K:mm.key=c:=by have yQ:=J.1;cases d<;>cases c<;>simp[Go.MapKept.IsKey] at yQ<;>cases FV:mm.key<;>simp[FV,Instr.sameNow,Go.MapKept.bytes_beq] at Z<;>simp_all
        rw[K];exact Go.MapKept.run_keyThatStays J.1
      have N:(Instr.mapUpdate t (.map (some b)) c r).run P w=.ok () {w with heap:=w.heap.setIfInBounds b (.map (ms.modify j λe=>{e with key:=c,val:=r}) clock)}:=by simp[Instr.mapUpdate,eB T,aEd o,k1,k2,C,G,Go.MapKept.run_setObj_map _ o]
      simp[Τ,N,Γ,atG,fc];refine⟨σ,Ext.refl _ _,D.setAt (b:=b) hg hb hb (A _).1 (Y _) E ⟨b,_,hb,Q,(A _).2,?_,E⟩,by simp[hM,ah,undef]⟩;rw[Array.toList_modify];exact p.setAt λm' _=>⟨f,V,rfl⟩
     ·rename_i z;obtain⟨k1,R,k2,M⟩:=Ir (w:=w) f a p z (em:=false)
      have:R=none:=by
       rcases M with⟨_,I⟩|⟨j,v,x,i,_⟩
       ·exact I
       ·simp at i
      subst this;cases h;have N:(Instr.mapUpdate t (.map (some b)) c r).run P w=.ok () {w with heap:=w.heap.setIfInBounds b (.map (ms.push {key:=c,val:=r,born:=clock}) (clock+1))}:=by simp[Instr.mapUpdate,eB T,aEd o,k1,k2,Go.MapKept.run_setObj_map _ o]
      simp[Τ,N,Γ,atG,fc];refine⟨σ,Ext.refl _ _,D.setAt (b:=b) hg hb hb (A _).1 (Y _) E ⟨b,_,hb,Q,(A _).2,?_,E⟩,by simp[hM,ah,undef]⟩;rw[Array.toList_push];exact p.append (by simp only[gv];exact⟨_,_,rfl,f,V,rfl,rfl⟩)
     ·cases h
    ·cases h
   ·cases h
  ·cases h
 ·cases h
end
section
variable {P:Program} {B:Nat->Prop} {W0:World} {H:ab} {σ:St} {w:World}
def bM.flat{b s}:∀{off:Nat} {es:List AV},bM σ b s off es->∃cs:List Value,cs.length=es.length*s/\(∀j v,cs[j]? =some v->σ.cells b (off+j)=some v)/\
  ∀aR g d,σ.le aR->(∀j v,cs[j]? =some v->aR.cells g (d+j)=some v)->bM aR g s d es
 |_,[],_=>⟨[],ai,ai,λ_ _ _ _ _=>by simp[bM]⟩
 |off,e::es,h=>by
  simp[bM] at h;obtain⟨⟨u,r,c,o⟩,q⟩:=h;obtain⟨cs,l,m,n⟩:=bM.flat q;refine⟨u.cells.toList++cs,by simp[l,c,aDJ,aD6],?_,?_⟩
  ·intro j v a;by_cases i:j<s
   ·rw[Ξ (by simpa[c] using i)] at a;exact o j v (by simpa using a)
   ·rw[Ρ (by simp[c];omega)] at a;have:=m _ v a;simp[aDv,c] at this;rwa [show off+s+(j-s)=off+j from aa] at this
  ·intro aR g d f k;simp[bM];refine⟨⟨u,r.mono f,c,?_⟩,n aR g (d+s) f ?_⟩
   ·intro j v a;have i:j<s:=by rw[<-c];exact(Δ.1 a).1
    exact k j v (by rw[Ξ (by simpa[c] using i)];simpa using a)
   ·intro j v a;have:=k (s+j) v (by rw[Ρ (by simp[c])];simpa[c] using a);rwa [show d+(s+j)=d+s+j from aa] at this
def bM.Yf{b s}:∀{off:Nat} {es:List AV} {us:List Value},aw σ es us->(∀u∈us,u.cells.size=s)->
  (∀i u,us[i]? =some u->∀j v,u.cells[j]? =some v->σ.cells b (off+i*s+j)=some v)->bM σ b s off es
 |_,[],_,_,_,_=>by simp[bM]
 |off,e::es,us,h,c,d=>by rw[aw.eC] at h;obtain⟨u,dW,rfl,r,q⟩:=h;simp[bM];refine⟨⟨u,r,c u ai,λj v a=>by simpa using d 0 u ai j v a⟩,bM.Yf q (λu f=>c u (by simp[f])) ?_⟩;intro i g hi j v a;have:=d (i+1) g (by simpa using hi) j v a;rwa [show off+(i+1)*s+j=off+s+i*s+j from by rw[aDJ];omega] at this
def bM.append{b s}:∀{off:Nat} {es fs:List AV},bM σ b s off es->bM σ b s (off+es.length*s) fs->bM σ b s off (es++fs)
 |_,[],_,_,h=>by simpa using h
 |off,e::es,fs,h,k=>by simp[bM] at h;simp[bM];refine⟨h.1,bM.append h.2 ?_⟩;rwa [show off+s+es.length*s=off+(e::es).length*s from by simp[aDJ];omega]
def St.dh(σ:St)(a o0:Nat)(cs:List Value)(k n cap:Nat):St where
 cells:=λb o=>if b=a/\o0<=o/\o<o0+cs.length then cs[o-o0]? else σ.cells b o
 loc:=σ.loc
 own:=λc d=>if c=k/\d=n then some (a,cap) else σ.own c d
def St.MO{c o0 k n cap}{cs}(f:∀o,o0<=o->σ.cells c o=none)(a:σ.own k n=none\/σ.own k n=some (c,cap)):σ.le (σ.dh c o0 cs k n cap):=by
 refine⟨λb o v h=> ?_,λ_ _ h=>h,λk' n' x h=> ?_⟩
 ·simp[St.dh];split
  ·rename_i d;obtain⟨rfl,e,_⟩:=d;rw[f o e] at h;cases h
  ·exact h
 ·simp[St.dh];split
  ·rename_i d;obtain⟨rfl,rfl⟩:=d;rcases a with a|a<;>rw[a] at h
   ·cases h
   ·exact h
  ·exact h
def St.uH{a o0 k n cap}{cs}{j}{v}(h:cs[j]? =some v):(σ.dh a o0 cs k n cap).cells a (o0+j)=some v:=by have hj:j<cs.length:=(ο.1 h).1;simp only[St.dh];rw[ν ⟨trivial,aa,aa⟩,show o0+j-o0=j from aa,h]
def aW.Ej(a:aW P B W0 H σ w){k n et}{s cap}{cs:List Value}{c:Array Value}{w1:World}
  (F:w1.heap=w.heap) (X:gL B W0 w1) (Q:bF P et=some s) (M:cs.length=n*s) (V:∀(j:Nat) (v:Value),cs[j]? =some v->c[j]? =some v)
  (W:∀v∈cs,v.oneCell'=true) (L:c.size=cap*s) (E:n<=cap) (O:cap<=maxLen)
  (u:∀m,n<=m->σ.own k m=none) {H':ab} (hH:H'.next=max H.next (k+1))
  (hg:∀i,H'.get i=if i=k then some (.bB n et) else H.get i):
  aW P B W0 H' (σ.dh w.heap.size 0 cs k n cap) (w1.alloc (.cells c et))/\σ.le (σ.dh w.heap.size 0 cs k n cap):=by
 have p:σ.le (σ.dh w.heap.size 0 cs k n cap):=St.MO (λo _=>a.uL o) (.inl (u n (μ _)));have K:w1.heap.size=w.heap.size:=by rw[F]
 have d:∀b,b<w.heap.size->(w1.alloc (.cells c et)).heap[b]? =w.heap[b]? :=λb hb=>by rw[zN w1 _ aa,F]
 have G:(w1.alloc (.cells c et)).heap[w.heap.size]? =some (.cells c et (0,0)):=by rw[<-K];exact BV w1 _
 refine⟨⟨X.alloc (λk u=>by rw[K];exact a.size k u) _,a.base,?_,?_,?_,?_,?_,?_⟩,p⟩
 ·intro b o v h;simp only[St.dh] at h;split at h
  ·rename_i T;obtain⟨rfl,_,_⟩:=T;rw[cell_of_row G];exact V _ v (by simpa using h)
  ·rw[cell_of_heap (d b (a.xS h))];exact a.cells b o v h
 ·intro b o v h;simp[St.dh] at h;split at h
  ·exact W v (Β h)
  ·exact a.one b o v h
 ·intro id hid;rw[hH] at hid;have D:H.next<=id:=aa;have A:id≠k:=aa;have:=a.fresh id D;refine⟨this.1,λm=> ?_⟩;simp[St.dh];rw[κ (by rintro⟨rfl,_⟩;exact A rfl)];exact this.2 m
 ·intro id x h;rw[hg] at h;rw[hH];split at h
  ·omega
  ·have:=a.keys id x h;omega
 ·intro id x h;rw[hg] at h;split at h
  ·rename_i e;subst e;cases h;refine⟨w.heap.size,cap,c,s,by simp[St.dh],a.rh,G,Q,L,E,O,?_,?_⟩
   ·intro o C;simp[St.dh];rw[κ (by rw[M];omega)];exact a.uL o
   ·intro m hm;simp[St.dh];rw[bV];exact u m aa
  ·rename_i A;have C:=a.obj id x h;refine C.bU p (λb hb=> ?_) (λm=>by simp only[St.dh];rw[κ (by rintro⟨e,_⟩;exact A e)]);obtain⟨N,I,_,J⟩:=C.aS;rw[hb] at I;cases I;exact⟨d b J,λo=>by simp only[St.dh];rw[κ (by rintro⟨rfl,_⟩;exact absurd J (aDF _))]⟩
 ·intro id gg x x' h g hb;have key:∀i y,i≠k->H.get i=some y->∃b,aS (σ.dh w.heap.size 0 cs k n cap) i y=some b/\aS σ i y=some b/\b<w.heap.size:=λi y _ S=>by obtain⟨b,f,_,r⟩:=(a.obj i y S).aS;exact⟨b,zM p f,f,r⟩
  have q:aS (σ.dh w.heap.size 0 cs k n cap) k (.bB n et)=some w.heap.size:=by simp[aS,St.dh]
  rw[hg] at h g;split at h
  ·rename_i t;split at g
   ·rename_i l;rw[t,l]
   ·rename_i l;cases h;obtain⟨b,f,_,r⟩:=key gg x' l g;rw[t,q,f] at hb;cases hb;exact absurd r (aDF _)
  ·rename_i t;split at g
   ·rename_i l;cases g;obtain⟨b,f,_,r⟩:=key id x t h;rw[l,q,f] at hb;cases hb;exact absurd r (aDF _)
   ·rename_i l;obtain⟨b,f,R,_⟩:=key id x t h;obtain⟨N,U,z,_⟩:=key gg x' l g;rw[f,U] at hb;exact a.inj id gg x x' h g (by rw[R,z,hb])
def aW.agB(d:aW P B W0 H σ w){k n m et}{s cap b}{cs:List Value}{c:Array Value}(p:H.get k=some (.bB n et))(Q:σ.own k n=some (b,cap))
  (I:w.heap[b]? =some (.cells c et (0,0))) (N:bF P et=some s) (L:cs.length=m*s) (oH:∀v∈cs,v.oneCell'=true) (hm:0<m) (W:n+m<=cap):
  aW P B W0 (H.set k (.bB (n+m) et)) (σ.dh b (n*s) cs k (n+m) cap) (w.setRow b (c.toList.take (n*s)++cs++c.toList.drop (n*s+cs.length)).toArray)/\Ext B σ (σ.dh b (n*s) cs k (n+m) cap):=by
 obtain⟨a,vm,c',s',D,J,T,O,Z,h6,Y,R,V⟩:=d.obj k _ p;rw[Q] at D;cases D;rw[I] at T;cases T;rw[N] at O;cases O;have l:σ.le (σ.dh b (n*s) cs k (n+m) cap):=St.MO R (.inl (V _ aa));have F:∀i,i≠b->(w.setRow b (c.toList.take (n*s)++cs++c.toList.drop (n*s+cs.length)).toArray).heap[i]? =w.heap[i]? :=λi hi=>aEK w b i _ hi;have U:=aFD w b c (c.toList.take (n*s)++cs++c.toList.drop (n*s+cs.length)).toArray et (0,0) I;have nv:n*s+cs.length<=c.size:=by rw[L,Z,<-Nat.add_mul];exact aDr _ W
 have jl:∀o,((c.toList.take (n*s)++cs++c.toList.drop (n*s+cs.length)).toArray)[o]? =if n*s<=o/\o<n*s+cs.length then cs[o-n*s]? else c[o]? :=by
  intro o;rw[aEu];by_cases D:o<n*s
  ·rw[bV,adv,Ξ aX,Υ D,aDh]
  ·rw[adv,Ρ aX];simp[aDx,aDv];rw[show min (n*s) c.size=n*s from aa];by_cases X:o<n*s+cs.length
   ·rw[ν ⟨aa,X⟩,Ξ aa]
   ·rw[bV,Ρ aa,aDB,aDh];congr 1;omega
 have K:∀i,(H.set k (.bB (n+m) et)).get i=if i=k then some (.bB (n+m) et) else H.get i:=λi=>by
  rw[ab.ec];by_cases e:k=i
  ·subst e;simp[p]
  ·rw[κ e,κ (aEy e)]
 have u:aS (σ.dh b (n*s) cs k (n+m) cap) k (.bB (n+m) et)=some b:=by simp[aS,St.dh]
 have t:aS σ k (.bB n et)=some b:=by simp[aS,Q]
 refine⟨⟨d.below.trans ⟨rfl,rfl,rfl,ai,λi hi=>F i (by rintro rfl;exact J hi)⟩,d.base,?_,?_,?_,?_,?_,?_⟩,l,?_⟩
 ·intro a o v h;simp[St.dh] at h;by_cases hb:a=b
  ·subst hb;rw[cell_of_row U,jl];split at h
   ·rename_i A;rw[ν ⟨A.2.1,A.2.2⟩];exact h
   ·rename_i A;rw[κ (λq=>A ⟨rfl,q.1,q.2⟩)];have:=d.cells a o v h;rwa [cell_of_row I] at this
  ·rw[κ (λq=>hb q.1)] at h;rw[cell_of_heap (F a hb)];exact d.cells a o v h
 ·intro a o v h;simp[St.dh] at h;split at h
  ·exact oH v (Β h)
  ·exact d.one a o v h
 ·intro id hid;have JA:H.next<=id:=hid;have C:id≠k:=by have:=d.keys k _ p;omega
  have:=d.fresh id JA;refine⟨this.1,λq=> ?_⟩;simp[St.dh];rw[κ (by rintro⟨e,_⟩;exact C e)];exact this.2 q
 ·intro id x h;rw[K] at h;show id<H.next;split at h
  ·rename_i e;subst e;exact d.keys id _ p
  ·exact d.keys id x h
 ·intro id x h;rw[K] at h;split at h
  ·rename_i e;subst e;cases h;refine⟨b,cap,_,s,by simp[St.dh],J,U,N,?_,W,Y,?_,?_⟩
   ·simp[aDw,aDx,atB,aDv];omega
   ·intro o G;simp[St.dh];rw[aDJ] at G;rw[κ (by rw[L];omega)];exact R o aa
   ·intro q hq;simp[St.dh];rw[bV];exact V q aa
  ·rename_i C;have G:=d.obj id x h;have M:∀a,aS σ id x=some a->a≠b:=by rintro a r rfl;exact C (d.inj id k x _ h p (by rw[r,t]))
   refine G.bU l (λa r=>⟨F a (M a r),λo=> ?_⟩) (λq=> ?_)
   ·simp only[St.dh];rw[κ (λq=>M a r q.1)]
   ·simp only[St.dh];rw[κ (by rintro⟨e,_⟩;exact C e)]
 ·intro id gg x x' h g hb;have key:∀i y,i≠k->H.get i=some y->∃a,aS (σ.dh b (n*s) cs k (n+m) cap) i y=some a/\aS σ i y=some a/\a≠b:=λi y hi S=>by obtain⟨a,f,_,_⟩:=(d.obj i y S).aS;refine⟨a,zM l f,f,?_⟩;rintro rfl;exact hi (d.inj i k y _ S p (by rw[f,t]))
  rw[K] at h g;split at h
  ·rename_i z;split at g
   ·rename_i j;rw[z,j]
   ·rename_i j;cases h;obtain⟨a,f,_,E⟩:=key gg x' j g;rw[z,u,f] at hb;cases hb;exact absurd rfl E
  ·rename_i z;split at g
   ·rename_i j;cases g;obtain⟨a,f,_,E⟩:=key id x z h;rw[j,u,f] at hb;cases hb;exact absurd rfl E
   ·rename_i j;obtain⟨b1,f,g1,_⟩:=key id x z h;obtain⟨b2,q2,g2,_⟩:=key gg x' j g;rw[f,q2] at hb;exact d.inj id gg x x' h g (by rw[g1,g2,hb])
 ·intro a o r;simp only[St.dh];rw[κ (by rintro⟨rfl,_⟩;exact J r)]
end
section
variable {P:Program} {B:Nat->Prop} {W0:World} {H:ab} {σ:St} {w:World}
def ad7(t ty e)(i:TypeInfo)(b:P.underlying t=some (.slice e))(hi:P.info? e=some i)(a a2)(n cap c2)(h:n<=cap):
  (Builtin.append_ #[t,t] ty #[.slice a n cap,.slice a2 0 c2]).run P w=.ok (.slice a n cap) w:=by
 cases a<;>cases a2<;>simp[Builtin.append_,run_underlying b,sizeOf,typeInfo,hi,Builtin.lenOf,Builtin.firstCells,loadCells,loadCellsFrom,h,storeCells]
def qu:∀l k x,cq l k=some x->aH l k x=l
 |[],_,_,h=>by simp[cq] at h
 |(j,y)::l,k,x,h=>by
  simp[cq] at h;simp[aH];split
  ·rename_i e;rw[ν e] at h;cases h;rfl
  ·rename_i e;rw[κ e] at h;rw[qu l k x h]
def ab.Nc{k}{x}(h:H.get k=some x):H.set k x=H:=by
 unfold ab.set
 have:cq H.jx k=some x:=by
  unfold ab.get at h;split at h
  ·exact h
  ·cases h
 rw[qu H.jx k x this]
def Yg{t}{s b}{z:List AV}(a:bF P t=some s)(hb:jN P t=some b)(c:dq P t=some z):
  ∃i zv,P.info? t=some i/\i.size=s/\i.bytes=b/\i.zero=some zv/\zv.cells.size=z.length:=by
 obtain⟨i,zv,hi,d,rfl⟩:=D2 c;refine⟨i,zv,hi,?_,?_,d,ai⟩
 ·simpa[bF,hi] using a
 ·simpa[jN,hi] using hb
def aW.acW(d:aW P B W0 H σ w){n et b cap s β o0}{cs:List Value}{w':World}{c:Array Value}(Z:gL B W0 w')(hB:¬B b)(C:w'.heap[b]? =some (.cells c et (0,0)))(hb:∀k,k≠b->k<w.heap.size->w'.heap[k]? =w.heap[k]?)
  (M:∀o,o0<=o->σ.cells b o=none) (Q:∀o v,σ.cells b o=some v->c[o]? =some v) (R:∀(j:Nat) (v:Value),cs[j]? =some v->c[o0+j]? =some v) (X:∀v∈cs,v.oneCell'=true)
  (T:bF P et=some s) (N:c.size=β+cap*s) (JB:β+n*s=o0+cs.length) (W:n<=cap) (S:cap<=maxLen) (E:∀id y,H.get id=some y->aS σ id y≠some b):
  aW P B W0 (H.push (.mf n et)) ((σ.dh b o0 cs H.next n cap).bind H.next β) w'/\σ.le ((σ.dh b o0 cs H.next n cap).bind H.next β):=by
 have F:=d.fresh H.next (μ _);have r:σ.le (σ.dh b o0 cs H.next n cap):=St.MO M (.inl (F.2 n))
 have l:σ.le ((σ.dh b o0 cs H.next n cap).bind H.next β):=⟨λa o v h=>r.cells a o v h,λi x h=>by
  simp only[St.bind,St.dh];split
  ·rename_i e;subst e;rw[F.1] at h;cases h
  ·exact h,λk m x h=>r.own k m x h⟩
 refine⟨⟨Z,d.base,?_,?_,?_,?_,?_,?_⟩,l⟩
 ·intro a o v h;simp only[St.bind,St.dh] at h;split at h
  ·rename_i q;obtain⟨rfl,q1,q2⟩:=q;rw[cell_of_row C];have:=R _ v h;rwa [show o0+(o-o0)=o by omega] at this
  ·by_cases e:a=b
   ·subst e;rw[cell_of_row C];exact Q o v h
   ·rw[cell_of_heap (hb a e (d.xS h))];exact d.cells a o v h
 ·intro a o v h;simp only[St.bind,St.dh] at h;split at h
  ·exact X v (Β h)
  ·exact d.one a o v h
 ·intro id hid;have JA:H.next+1<=id:=hid;have:=d.fresh id (by omega);refine⟨?_,λm=> ?_⟩
  ·simp only[St.bind,St.dh];rw[κ (by omega)];exact this.1
  ·simp only[St.bind,St.dh];rw[κ (by omega)];exact this.2 m
 ·intro id y h;rw[ab.dT] at h;show id<H.next+1;split at h
  ·omega
  ·have:=d.keys id y h;omega
 ·intro id y h;rw[ab.dT] at h;split at h
  ·rename_i hid;subst hid;cases h;refine⟨b,cap,c,s,β,by simp[St.bind,St.dh],by simp[St.bind],hB,C,T,N,W,S,λo A=> ?_⟩;simp only[St.bind,St.dh];rw[κ (by omega)];exact M o (by omega)
  ·have A:=d.obj id y h;refine A.bU l (λa K=> ?_) (λm=> ?_)
   ·obtain⟨b2,I,_,V⟩:=A.aS;rw[K] at I;cases I;have t:a≠b:=by rintro rfl;exact E id y h K
    refine⟨hb a t V,λo=> ?_⟩;simp only[St.bind,St.dh];rw[κ (λq=>t q.1)]
   ·rename_i t;simp only[St.bind,St.dh];rw[κ (λq=>t q.1.symm)]
 ·intro id gg y u h g p;rw[ab.dT] at h g;have L:aS ((σ.dh b o0 cs H.next n cap).bind H.next β) H.next (.mf n et)=some b:=by simp[aS,St.bind,St.dh]
  have key:∀i z,H.get i=some z->∃a,aS ((σ.dh b o0 cs H.next n cap).bind H.next β) i z=some a/\aS σ i z=some a/\a≠b:=λi z J=>by obtain⟨a,f,_,_⟩:=(d.obj i z J).aS;refine⟨a,zM l f,f,?_⟩;rintro rfl;exact E i z J f
  split at h
  ·rename_i Y;split at g
   ·rename_i G;omega
   ·cases h;obtain⟨a,f,_,D⟩:=key gg u g;rw[f,<-Y,L] at p;cases p;exact absurd rfl D
  ·split at g
   ·rename_i G;cases g;obtain⟨a,f,_,D⟩:=key id y h;rw[f,<-G,L] at p;cases p;exact absurd rfl D
   ·obtain⟨b1,f,U,_⟩:=key id y h;obtain⟨b2,O,g2,_⟩:=key gg u g;rw[f,O] at p;exact d.inj id gg y u h g (by rw[U,g2,p])
def aej(t ty e:TypeId)(i:TypeInfo)(r:P.underlying t=some (.slice e))(hi:P.info? e=some i)(g off d f:Nat)(b:Array Value)(hg:w.heap[g]? =some (.cells b e (0,0)))
  (a:Addr) (m c:Nat) (news:List Value) (o:news.length=m*i.size) (l:∀(j:Nat) (u:Value),news[j]? =some u->w.cell? (a.add j)=some u) (q:∀u∈news,u.oneCell'=true) (p:d+m<=f) (k:off+d*i.size+news.length<=b.size):
  (Builtin.append_ #[t,t] ty #[.slice (some ⟨g,off,none⟩) d f,.slice (some a) m c]).run P w=
   .ok (.slice (some ⟨g,off,none⟩) (d+m) f) (w.setRow g (b.toList.take (off+d*i.size)++news++b.toList.drop (off+d*i.size+news.length)).toArray):=by
 have n:=aE2 (P:=P) w i.size m a m c news o l;have h:=aFc P g (off+d*i.size) e news 0 b w hg (by simpa using k) q;simp only[aEp] at h;simp[Builtin.append_,eB r,sizeOf,typeInfo,hi,Builtin.lenOf,p,n,Addr.add_lit,h]
def ad8(g:aW P B W0 H σ w){F ty}{o o'}{es fs}{v}{ux uy}{H'}(rx:ah σ (.vec o es) ux)(ry:ah σ (.vec o' fs) uy){et s fq}{z:List AV}
  (jW:eW P F=some et) (I:bF P et=some s) (oN:jN P et=some fq) (hz:dq P et=some z) (jZ:s≠0) (gG:z.length=s) (h:lC P F et fq o es fs H=some (v,H')):
  fc P ((do pure (Next.value (<-Builtin.append_ #[F,F] ty #[ux,uy])):Sem Next).run P w) (kJ P B W0 σ v H'):=by
    simp only[lC] at h;split at h
    ·rename_i hc;obtain⟨j',g',wD,hlen⟩:=hc;have S:=td jW;obtain⟨i,zv,hi,R,yR,yS,vG⟩:=Yg I oN hz;have KA:=rx;simp only[ah] at rx ry;obtain⟨ax,t,rfl,KB,yT,uj⟩:=rx;obtain⟨ay,T,rfl,hly,_,h'⟩:=ry;obtain⟨et1,s1,a',cK,kO⟩:=Mc j';obtain⟨et2,s2,vH,bG,mT⟩:=Mc g';rw[jW] at a' vH;cases a';cases vH;rw[I] at cK bG;cases cK;cases bG;have AU:es.length+fs.length<=maxLen:=by unfold maxLen;omega
     by_cases oP:fs=[]
     ·subst oP;have D:=ad7 (P:=P) (w:=w) F ty et i S hi ax ay es.length t T KB;simp only[Χ] at h⊢;simp only[Τ,D,Γ,atG,fc]
      cases o with
      |nil=>
       simp only at h;split at h
       ·rename_i Dh;simp only[aDp,Ζ,aDS] at h;obtain⟨rfl,rfl⟩:=h;have:es=[]:=aD4 Dh;subst this;exact⟨σ,Ext.refl _ _,g,KA⟩
       ·cases h
      |cut z k j s'=>simp at h
      |ro=>simp only[aDp,Ζ,aDS] at h;obtain⟨rfl,rfl⟩:=h;exact⟨σ,Ext.refl _ _,g,KA⟩
      |full=>simp only[aDp,Ζ,aDS] at h;obtain⟨rfl,rfl⟩:=h;exact⟨σ,Ext.refl _ _,g,KA⟩
      |own k=>
       simp only at h;split at h
       ·rename_i n N M;split at h
        ·rename_i U;obtain⟨rfl,rfl⟩:=U;simp only[aEp,aDi,Ζ,aDS] at h;obtain⟨rfl,rfl⟩:=h;rw[ab.Nc M];exact⟨σ,Ext.refl _ _,g,KA⟩
        ·cases h
       ·cases h
     ·have Fc:0<fs.length:=aDV.2 oP;obtain⟨V,Z,d,rfl,c'⟩:=h'.resolve_left oP;have i':d=s:=c'.jU oP mT;subst i';obtain⟨news,J,SM,AW⟩:=c'.flat;have tP:∀(j:Nat) (u:Value),news[j]? =some u->w.cell? ((⟨V,Z,none⟩:Addr).add j)=some u:=λj u l=>by rw[Addr.ox];exact g.cells _ _ _ (SM j u l)
      have O:∀u∈news,u.oneCell'=true:=λu p=>by obtain⟨j,l⟩:=aDD p;exact g.one _ _ _ (SM j u l)
      have yF:news.length=fs.length*i.size:=by rw[J,R]
      cases o with
      |cut z k j s'=>
       simp only at h;split at h
       ·cases h
       rename_i d'
       have ue:bF P et=some s':=by
        cases r:bF P et with
        |none=>exact absurd (.inr (by rw[r];simp)) d'
        |some q=>
         by_cases e':q=s'
         ·rw[e']
         ·exact absurd (.inr (by rw[r];simp[e'])) d'
       rw[I] at ue;cases ue;obtain⟨b,β,KC,Di,SN⟩:=yT
       obtain⟨c,x,nD,Ku,hB,h3,h5,h6,h7,h8,hh⟩:∃c x,H.get k=some x/\aS σ k x=some b/\¬B b/\w.heap[b]? =some (.cells c et (0,0))/\c.size=β+(j+t)*d/\j+es.length<=j+t/\j+t<=maxLen/\(∀o,β+(j+es.length)*d<=o->σ.cells b o=none)/\
         some (AV.vec (.cut false H.next 0 d) (es++fs),(H.del k).push (.mf (es.length+fs.length) et))=some (v,H'):=by
        split at h
        ·rename_i n N M;split at h
         ·rename_i U;obtain⟨rfl,rfl⟩:=U;obtain⟨L,vm,c,s2,k1,k2,k3,k4,k5,k6,k7,k8,_⟩:=g.obj k _ M;rw[KC] at k1;cases k1;rw[I] at k4;cases k4
          have SO:β=0:=by
           rcases Di with⟨_,h0⟩|⟨h0,_⟩
           ·exact h0
           ·cases h0
          subst SO;exact⟨c,_,M,by simp[aS,KC],k2,k3,by rw[k5];omega,k6,k7,λo ho=>k8 o (by omega),h⟩
         ·cases h
        ·rename_i n N M;split at h
         ·rename_i U;obtain⟨rfl,rfl⟩:=U;obtain⟨L,vm,c,s2,β',k1,KD,k2,k3,k4,k5,k6,k7,k8⟩:=g.obj k _ M;rw[KC] at k1;cases k1;rw[I] at k4;cases k4
          have SO:β'=β:=by
           rcases Di with⟨h0,_⟩|⟨_,h0⟩
           ·cases h0
           ·rw[h0] at KD;cases KD;rfl
          subst SO;exact⟨c,_,M,by simp[aS,KC],k2,k3,k5,k6,k7,k8,h⟩
         ·cases h
        ·cases h
       cases hh;have CX:=g.del k
       have JC:∀id y,(H.del k).get id=some y->aS σ id y≠some b:=λid y hy he=>by
        rw[ab.tz] at hy;split at hy
        ·cases hy
        ·rename_i U;exact U (g.inj k id x y nD hy (by rw[Ku,he]))
       by_cases Y:es.length+fs.length<=t
       ·have SP:=SN (by omega);subst SP;have aC8:(j+es.length)*d=j*d+es.length*d:=aDJ _ _ _;have aC1:(j+t)*d=j*d+t*d:=aDJ _ _ _;have aC2:(es.length+fs.length)*d=es.length*d+fs.length*d:=aDJ _ _ _;have hmul:(es.length+fs.length)*d<=t*d:=aDr _ Y;have vJ:news.length=fs.length*d:=J;have nv:β+j*d+es.length*i.size+news.length<=c.size:=by rw[R,vJ,h5];omega
        have D:=aej (P:=P) (w:=w) F ty et i S hi b (β+j*d) es.length t c h3 ⟨V,Z,none⟩ fs.length T news yF tP O Y nv
        have JD:bM σ b d (β+j*d) es:=by
         rcases uj with rfl|⟨b2,o2,s2,e2,row⟩
         ·simp[bM]
         ·cases e2;by_cases E:es=[]
          ·subst E;simp[bM]
          ·have:=row.jU E kO;subst this;exact row
        simp only[Τ,D,Γ,atG,fc,R]
        have jl:∀o,((c.toList.take (β+j*d+es.length*d)++news++c.toList.drop (β+j*d+es.length*d+news.length)).toArray)[o]? =if β+j*d+es.length*d<=o/\o<β+j*d+es.length*d+news.length then news[o-(β+j*d+es.length*d)]? else c[o]? :=by
         intro o;have bC:c.toList.length=c.size:=aDv;rw[R] at nv;rw[aEu];by_cases Q:o<β+j*d+es.length*d
         ·rw[κ (by omega),adv,Ξ (by rw[aDx,bC];omega),Υ Q,aDh]
         ·rw[adv,Ρ (by rw[aDx,bC];omega)];simp only[aDx,bC];rw[show min (β+j*d+es.length*d) c.size=β+j*d+es.length*d by omega];by_cases h2:o<β+j*d+es.length*d+news.length
          ·rw[ν ⟨by omega,h2⟩,Ξ (by omega)]
          ·rw[κ (by omega),Ρ (by omega),aDB,aDh];congr 1;omega
        obtain⟨K,f⟩:=CX.acW (n:=es.length+fs.length) (et:=et) (b:=b) (cap:=t) (s:=d) (β:=β+j*d) (o0:=β+j*d+es.length*d) (cs:=news)
         (w':=w.setRow b (c.toList.take (β+j*d+es.length*d)++news++c.toList.drop (β+j*d+es.length*d+news.length)).toArray)
         (c:=(c.toList.take (β+j*d+es.length*d)++news++c.toList.drop (β+j*d+es.length*d+news.length)).toArray)
         (g.below.trans ⟨rfl,rfl,rfl,by simp,λq r=>aEK w b q _ (by rintro rfl;exact hB r)⟩) hB (aFD w b c _ et (0,0) h3) (λq r _=>aEK w b q _ r)
         (λo ho=>h8 o (by omega)) (λo q r=>by
          have aN:o<β+(j+es.length)*d:=by
           rcases aEo o (β+(j+es.length)*d) with Q|Q
           ·exact Q
           ·rw[h8 o Q] at r;cases r
          rw[jl,κ (by omega)];have:=g.cells b o q r
          rwa [cell_of_row h3] at this) (λq u p=>by
          have:=(ο.1 p).1;rw[jl,ν ⟨by omega,by omega⟩,show β+j*d+es.length*d+q-(β+j*d+es.length*d)=q by omega]
          exact p) O I (by
          simp only[aDw,χ,aDx,atB,aDv];rw[R] at nv
          omega) (by omega) Y (by omega) JC
        refine⟨_,⟨f,λL o aU=> ?_⟩,K,?_⟩
        ·simp only[St.bind,St.dh];rw[κ (by rintro⟨rfl,_⟩;exact hB aU)]
        ·simp only[ah];refine⟨_,t,by rw[χ],by rw[χ];exact Y,⟨b,β+j*d,by rw[χ];simp[St.bind,St.dh,ab.del],.inr ⟨rfl,by simp[St.bind,ab.del]⟩,λ_=>by simp⟩,.inr ⟨b,β+j*d,d,rfl,?_⟩⟩;refine bM.append (JD.mono f) ?_;exact AW _ _ _ f λq u r=>St.uH (k:=(H.del k).next) (n:=es.length+fs.length) (cap:=t) r
       ·obtain⟨a,A,f',W,Ax⟩:∃a:List Value,a.length=es.length*d/\(Builtin.firstCells i.size es.length (.slice ax es.length t)).run P w.drew=.ok a.toArray w.drew/\
          (∀aR L sM,σ.le aR->(∀j v,a[j]? =some v->aR.cells L (sM+j)=some v)->bM aR L d sM es)/\∀u∈a,u.oneCell'=true:=by
         by_cases E:es=[]
         ·subst E;exact⟨[],by simp,by cases ax<;>simp[Builtin.firstCells,loadCells,loadCellsFrom],λ_ _ _ _ _=>by simp[bM],by simp⟩
         ·obtain⟨b2,o2,s2,e2,row⟩:=uj.resolve_left E;subst e2;have:=row.jU E kO;subst this;obtain⟨a,A,yU,W⟩:=row.flat
          exact⟨a,A,aE2 _ _ _ _ _ _ _ (by rw[A,R]) (λq u r=>by rw[Addr.ox];exact g.cells _ _ _ (yU q u r)),W,λu p=>by
           obtain⟨q,r⟩:=aDD p
           exact g.one _ _ _ (yU q u r)⟩
        have vk:Src P i.size F (.slice (some ⟨V,Z,none⟩) fs.length T) fs.length news w:=Src.ofSlice w S ⟨V,Z,none⟩ fs.length T news yF tP O
        have D:=run_append_grow_src (P:=P) w F F ty et i zv S hi yS ax es.length t a f' _ fs.length news vk (by omega) (by omega)
         (aFd (by omega) (by rw[yR];exact wD))
        have G:=aE9 w (es.length+fs.length) t et;have X:=aEi w (es.length+fs.length) t et AU;simp only[Τ,D,Γ,atG,fc];have wI:w.drew.heap.size=w.heap.size:=rfl
        obtain⟨K,f⟩:=CX.acW (n:=es.length+fs.length) (et:=et) (b:=w.heap.size) (cap:=grownCap w (es.length+fs.length) t et) (s:=d) (β:=0) (o0:=0) (cs:=a++news)
         (w':=w.drew.alloc (.cells ((a++news).toArray++Builtin.zeroCells zv.cells (grownCap w (es.length+fs.length) t et-(es.length+fs.length))) et))
         (c:=(a++news).toArray++Builtin.zeroCells zv.cells (grownCap w (es.length+fs.length) t et-(es.length+fs.length)))
         (g.below.drew.alloc (λq r=>g.size q r) _) g.rh (BV w.drew _) (λq _ aN=>zN w.drew _ aN)
         (λo _=>g.uL o) (λo q r=>by rw[g.uL o] at r;cases r) (λq u p=>by
          have:q<(a++news).length:=(ο.1 p).1
          rw[aDz,aDQ (by simpa using this)];simpa using p)
         (λu p=>by
          rcases Ω.1 p with p|p
          ·exact Ax u p
          ·exact O u p) I (by
          simp only[aES,aDw,aEE,vG,gG,χ,J,A,<-Nat.add_mul,aDz]
          congr 1;omega) (by rw[χ,A,J,<-Nat.add_mul]) G X (λid y hy he=>by
          obtain⟨L,Q,_,yV⟩:=(CX.obj id y hy).aS;rw[Q] at he;cases he
          exact absurd yV (aDF _))
        refine⟨_,⟨f,λL o aU=> ?_⟩,K,?_⟩
        ·simp only[St.bind,St.dh];rw[κ (by rintro⟨rfl,_⟩;exact g.rh aU)]
        ·simp only[ah];refine⟨_,_,by rw[χ],by rw[χ];exact G,⟨w.heap.size,0,by rw[χ];simp[St.bind,St.dh,ab.del],.inr ⟨rfl,by simp[St.bind,ab.del]⟩,λ_=>by simp⟩,.inr ⟨w.heap.size,0,d,rfl,?_⟩⟩;refine bM.append (W _ _ _ f λq u r=> ?_) (AW _ _ _ f λq u r=> ?_)
         ·exact St.uH (k:=(H.del k).next) (n:=es.length+fs.length) (cap:=grownCap w (es.length+fs.length) t et) (by rw[Ξ (ο.1 r).1];exact r)
         ·rw[aDz,show es.length*d+q=0+(a.length+q) from by rw[A];omega];exact St.uH (k:=(H.del k).next) (n:=es.length+fs.length) (cap:=grownCap w (es.length+fs.length) t et) (by rw[Ρ (by omega)];simpa using r)
      |ro=>simp only[Ψ,oP,aDf] at h;cases h
      |full=>
       simp only[Ψ,oP,aDf,Ζ,aDS] at h;obtain⟨rfl,rfl⟩:=h;simp only[nV] at yT;subst yT;have qh:∀m,es.length+fs.length<=m->σ.own H.next m=none:=λm _=>(g.fresh H.next (μ _)).2 m
       cases ax with
       |none=>
        have E:es=[]:=by
         rcases uj with h0|⟨b,off,s,e,_⟩
         ·exact h0
         ·cases e
        subst E
        have D:=run_append_nil (P:=P) w F ty et i zv S hi yS ⟨V,Z,none⟩ fs.length T news yF tP Fc aa (by
         rw[yR];have:=wD;rw[Χ,aDz] at this;omega)
        have G:=aE9 w fs.length 0 et;have X:=aEi w fs.length 0 et aa;simp only[Χ,aDz,aDl] at qh⊢;simp only[Τ,D,Γ,atG,fc]
        obtain⟨K,f⟩:=g.Ej (k:=H.next) (n:=fs.length) (et:=et) (s:=d) (cap:=grownCap w fs.length 0 et) (cs:=news)
         (c:=news.toArray++Builtin.zeroCells zv.cells (grownCap w fs.length 0 et-fs.length)) (w1:=w.drew) rfl g.below.drew I J
         (λj v l=>by
          have:j<news.length:=(ο.1 l).1
          rw[aDQ (by simpa using this)];simpa using l)
         O (by
          simp only[aES,aDw,aEE,vG,gG,J,<-Nat.add_mul]
          congr 1;omega) G X (λm _=>(g.fresh H.next (μ _)).2 m) (H':=H.push (.bB fs.length et))
         (by show H.next+1=_;omega) (λi=>by
          rw[ab.dT];by_cases e:H.next=i
          ·subst e;simp
          ·rw[κ e,κ (aEy e)])
        refine⟨_,⟨f,λb o hb=> ?_⟩,K,?_⟩
        ·simp only[St.dh];rw[κ (by rintro⟨rfl,_⟩;exact g.rh hb)]
        ·simp only[ah];refine⟨_,_,rfl,G,⟨w.heap.size,by simp[St.dh],rfl⟩,.inr ⟨w.heap.size,0,d,rfl,AW _ _ _ f λj v l=>St.uH l⟩⟩
       |some ad=>
        obtain⟨a,A,C,W,Ax⟩:∃a:List Value,a.length=es.length*d/\(∀j u,a[j]? =some u->w.cell? (ad.add j)=some u)/\
          (∀aR L sM,σ.le aR->(∀j v,a[j]? =some v->aR.cells L (sM+j)=some v)->bM aR L d sM es)/\∀u∈a,u.oneCell'=true:=by
         by_cases E:es=[]
         ·subst E;exact⟨[],ai,ai,λ_ _ _ _ _=>by simp[bM],ai⟩
         ·obtain⟨b2,o2,s2,e2,row⟩:=uj.resolve_left E;cases e2;have:=row.jU E kO;subst this;obtain⟨a,A,yU,W⟩:=row.flat
          exact⟨a,A,λj u l=>by rw[Addr.ox];exact g.cells _ _ _ (yU j u l),W,λu p=>by
           obtain⟨j,l⟩:=aDD p
           exact g.one _ _ _ (yU j u l)⟩
        have D:=run_append_grow (P:=P) w F ty et i zv S hi yS ad es.length es.length a (by rw[A,R]) C ⟨V,Z,none⟩ fs.length T news yF tP aa aa
         (aFd aa (by rw[yR];exact wD))
        have G:=aE9 w (es.length+fs.length) es.length et;have X:=aEi w (es.length+fs.length) es.length et AU;simp only[Τ,D,Γ,atG,fc]
        obtain⟨K,f⟩:=g.Ej (k:=H.next) (n:=es.length+fs.length) (et:=et) (s:=d) (cap:=grownCap w (es.length+fs.length) es.length et) (cs:=a++news)
         (c:=a.toArray++news.toArray++Builtin.zeroCells zv.cells (grownCap w (es.length+fs.length) es.length et-(es.length+fs.length))) (w1:=w.drew) rfl g.below.drew I
         (by rw[χ,A,J,<-Nat.add_mul])
         (λj v l=>by
          have:j<(a++news).length:=(ο.1 l).1
          rw[aDQ (by simpa using this)];simpa using l)
         (λu p=>by
          rcases Ω.1 p with p|p
          ·exact Ax u p
          ·exact O u p) (by
          simp only[aES,aDw,aEE,vG,gG,J,A,<-Nat.add_mul]
          congr 1;omega) G X qh (H':=H.push (.bB (es.length+fs.length) et))
         (by show H.next+1=_;omega) (λi=>by
          rw[ab.dT];by_cases e:H.next=i
          ·subst e;simp
          ·rw[κ e,κ (aEy e)])
        refine⟨_,⟨f,λb o hb=> ?_⟩,K,?_⟩
        ·simp only[St.dh];rw[κ (by rintro⟨rfl,_⟩;exact g.rh hb)]
        ·simp only[ah];refine⟨_,_,by rw[χ],by rw[χ];exact G,⟨w.heap.size,by simp[St.dh],rfl⟩,.inr ⟨w.heap.size,0,d,rfl,?_⟩⟩;refine bM.append (W _ _ _ f λj v l=> ?_) (AW _ _ _ f λj v l=> ?_)
         ·exact St.uH (by rw[Ξ (ο.1 l).1];exact l)
         ·rw[aDz,show es.length*d+j=0+(a.length+j) from by rw[A];omega];exact St.uH (by rw[Ρ aa];simpa using l)
      |nil=>
       simp only at h;split at h
       ·rename_i Dh;simp only[Ψ,oP,aDf,Ζ,aDS] at h;obtain⟨rfl,rfl⟩:=h;obtain⟨rfl,_,r8⟩:=yT;subst r8;rw[Dh]
        have D:=run_append_nil (P:=P) w F ty et i zv S hi yS ⟨V,Z,none⟩ fs.length T news yF tP Fc aa (by
         rw[yR];have:=wD;rw[Dh,aDz] at this;omega)
        have G:=aE9 w fs.length 0 et;have X:=aEi w fs.length 0 et aa;simp only[Τ,D,Γ,atG,fc]
        obtain⟨K,f⟩:=g.Ej (k:=H.next) (n:=fs.length) (et:=et) (s:=d) (cap:=grownCap w fs.length 0 et) (cs:=news)
         (c:=news.toArray++Builtin.zeroCells zv.cells (grownCap w fs.length 0 et-fs.length)) (w1:=w.drew) rfl g.below.drew I J
         (λj v l=>by
          have:j<news.length:=(ο.1 l).1
          rw[aDQ (by simpa using this)];simpa using l)
         O (by
          simp only[aES,aDw,aEE,vG,gG,J,<-Nat.add_mul]
          congr 1;omega) G X (λm _=>(g.fresh H.next (μ _)).2 m) (H':=H.push (.bB fs.length et))
         (by show H.next+1=_;omega) (λi=>by
          rw[ab.dT];by_cases e:H.next=i
          ·subst e;simp
          ·rw[κ e,κ (aEy e)])
        refine⟨_,⟨f,λb o hb=> ?_⟩,K,?_⟩
        ·simp only[St.dh];rw[κ (by rintro⟨rfl,_⟩;exact g.rh hb)]
        ·simp only[ah];refine⟨_,_,rfl,G,⟨w.heap.size,by simp[St.dh],rfl⟩,.inr ⟨w.heap.size,0,d,rfl,AW _ _ _ f λj v l=>St.uH l⟩⟩
       ·cases h
      |own k=>
       simp only at h;split at h
       ·rename_i n N M;split at h
        ·rename_i U;obtain⟨rfl,rfl⟩:=U;cases h;obtain⟨b,cap,c,s',Q,hB,h3,h4,h5,h6,h7,h8,h9⟩:=g.obj k _ M;rw[I] at h4;cases h4;obtain⟨L,aU,rfl⟩:=yT;rw[Q] at aU;obtain⟨rfl,rfl⟩:b=L/\cap=t:=by simpa using aU
         have JD:bM σ b d 0 es:=by
          rcases uj with rfl|⟨b2,o2,s2,e2,row⟩
          ·simp[bM]
          ·cases e2;by_cases E:es=[]
           ·subst E;simp[bM]
           ·have:=row.jU E kO;subst this;exact row
         by_cases Y:es.length+fs.length<=cap
         ·have nv:es.length*i.size+news.length<=c.size:=by rw[yF,h5,<-R,<-Nat.add_mul];exact aDr _ Y
          have D:=run_append_room (P:=P) w F ty N i S hi b es.length cap c h3 ⟨V,Z,none⟩ fs.length T news yF tP O Y nv;obtain⟨K,cW⟩:=g.agB M Q h3 I J O Fc Y;simp only[Τ,D,Γ,atG,fc,R];refine⟨_,cW,K,?_⟩;simp only[ah];refine⟨_,cap,by rw[χ],by rw[χ];exact Y,⟨b,by simp[St.dh],rfl⟩,.inr ⟨b,0,d,rfl,?_⟩⟩;refine bM.append (JD.mono cW.le) ?_;exact AW _ _ _ cW.le λj v l=>by rw[aDz];exact St.uH l
         ·obtain⟨a,A,yU,W⟩:=JD.flat;have C:∀j u,a[j]? =some u->w.cell? ((⟨b,0,none⟩:Addr).add j)=some u:=λj u l=>by rw[Addr.ox];exact g.cells _ _ _ (yU j u l)
          have Ax:∀u∈a++news,u.oneCell'=true:=λu p=>by
           rcases Ω.1 p with p|p
           ·obtain⟨j,l⟩:=aDD p;exact g.one _ _ _ (yU j u l)
           ·exact O u p
          have D:=run_append_grow (P:=P) w F ty N i zv S hi yS ⟨b,0,none⟩ es.length cap a (by rw[A,R]) C ⟨V,Z,none⟩ fs.length T news yF tP aa aa
           (aFd aa (by rw[yR];exact wD))
          have G:=aE9 w (es.length+fs.length) cap N;have X:=aEi w (es.length+fs.length) cap N AU;simp only[Τ,D,Γ,atG,fc];have qh:k<H.next:=g.keys k _ M
          obtain⟨K,f⟩:=g.Ej (k:=k) (n:=es.length+fs.length) (et:=N) (s:=d) (cap:=grownCap w (es.length+fs.length) cap N) (cs:=a++news)
           (c:=a.toArray++news.toArray++Builtin.zeroCells zv.cells (grownCap w (es.length+fs.length) cap N-(es.length+fs.length))) (w1:=w.drew) rfl g.below.drew I
           (by rw[χ,A,J,<-Nat.add_mul])
           (λj v l=>by
            have:j<(a++news).length:=(ο.1 l).1
            rw[aDQ (by simpa using this)];simpa using l)
           Ax (by
            simp only[aES,aDw,aEE,vG,gG,J,A,<-Nat.add_mul]
            congr 1;omega) G X (λm hm=>h9 m aa) (H':=H.set k (.bB (es.length+fs.length) N))
           (by show H.next=_;omega) (λi=>by
            rw[ab.ec];by_cases e:k=i
            ·subst e;simp[M]
            ·rw[κ e,κ (aEy e)])
          refine⟨_,⟨f,λb o hb=> ?_⟩,K,?_⟩
          ·simp only[St.dh];rw[κ (by rintro⟨rfl,_⟩;exact g.rh hb)]
          ·simp only[ah];refine⟨_,_,by rw[χ],by rw[χ];exact G,⟨w.heap.size,by simp[St.dh],rfl⟩,.inr ⟨w.heap.size,0,d,rfl,?_⟩⟩;refine bM.append (W _ _ _ f λj v l=> ?_) (AW _ _ _ f λj v l=> ?_)
           ·exact St.uH (by rw[Ξ (ο.1 l).1];exact l)
           ·rw[aDz,show es.length*d+j=0+(a.length+j) from by rw[A];omega];exact St.uH (by rw[Ρ aa];simpa using l)
        ·cases h
       ·cases h
    ·cases h
def bM.aah{b s}:∀{off:Nat} {es:List AV},bM σ b s off es->fF s es=true->∃us:List Value,aw σ (es.flatMap AV.cells) us/\us.length=es.length*s/\∀j v,us[j]? =some v->σ.cells b (off+j)=some v
 |_,[],_,_=>⟨[],by simp[aw],ai,ai⟩
 |off,e::es,h,d=>by
  simp[bM] at h;simp[fF] at d;obtain⟨⟨u,r,c,l⟩,q⟩:=h;obtain⟨us,f,g,i⟩:=bM.aah q d.2;refine⟨u.cells.toList++us,?_,by simp[g,c,aDJ,aD6],?_⟩
  ·simp[ap1];exact(r.cells (by rw[d.1];simp)).append f
  ·intro j v a;by_cases k:j<s
   ·rw[Ξ (by simpa[c] using k)] at a;exact l j v (by simpa using a)
   ·rw[Ρ (by simp[c];omega)] at a;have:=i _ v a;simp[aDv,c] at this;rwa [show off+s+(j-s)=off+j from aa] at this
def aek{s}{es:List AV}(h:fF s es=true):∀e,es.head? =some e->e.width=some s:=by
 intro e a
 cases es with
 |nil=>simp at a
 |cons x es=>simp[fF] at h;simp at a;subst a;exact h.1
def MP(k:aW P B W0 H σ w){o}{es:List AV}{u}{s}(r:ah σ (.vec o es) u)(g:fF s es=true):∃a cap,∃us:List Value,u=.slice a es.length cap/\es.length<=cap/\nV σ o a es.length cap/\aw σ (es.flatMap AV.cells) us/\us.length=es.length*s/\
  (∀f,a=some f->∀j v,us[j]? =some v->w.cell? (f.add j)=some v)/\(a=none->es=[])/\∀v∈us,v.oneCell'=true:=by
 simp only[ah] at r;obtain⟨a,cap,rfl,i,h,t⟩:=r;by_cases c:es=[]
 ·subst c;exact⟨a,cap,[],rfl,i,h,by simp[aw],ai,ai,λ_=>rfl,ai⟩
 ·obtain⟨b,off,n,rfl,row⟩:=t.resolve_left c;have x:n=s:=row.jU c (aek g);subst x;obtain⟨us,m,p,l⟩:=row.aah g;refine⟨_,cap,us,rfl,i,h,m,p,λf e j v d=> ?_,ai,λv q=> ?_⟩
  ·cases e;rw[Addr.ox];exact k.cells _ _ _ (l j v d)
  ·obtain⟨j,d⟩:=aDD q;exact k.one _ _ _ (l j v d)
def aqD(C:aW P B W0 H σ w){y}{u}{s m}{f}(r:ah σ y u)(h:pU P H s y=some (m,f)):∃a cap,∃us:List Value,u=.slice a m cap/\aw σ f us/\us.length=m*s/\
  (∀k,a=some k->∀j v,us[j]? =some v->w.cell? (k.add j)=some v)/\(a=none->m=0)/\∀v∈us,v.oneCell'=true:=by
 cases y with
 |vec o fs=>
  simp only[pU] at h;split at h
  ·rename_i G;cases h;obtain⟨a,cap,us,g,_,_,t,x,l,i,A⟩:=MP C r G;exact⟨a,cap,us,g,t,x,l,λe=>by rw[i e];rfl,A⟩
  ·cases h
 |sl id s' off len=>
  simp[pU] at h;split at h
  ·rename_i n et d cs hg;split at h
   ·rename_i N;obtain⟨rfl,q,rfl⟩:=N;simp at h;obtain⟨rfl,rfl⟩:=h;obtain⟨b,cap,c,g,I,h2,J,t,x,l,i,A,h9,L,O,oM⟩:=C.obj id _ hg;simp only[ah] at r;obtain⟨b',vm,D,z,rfl,e3⟩:=r;rw[g] at D;cases D;rw[I] at z;cases z;have hmul:off*d+len*d<=n*d:=by rw[<-Nat.add_mul];exact aDr _ q
    have Km:n*d<=c.size:=by rw[l];exact aDr _ i
    refine⟨some ⟨b,off*d,none⟩,cap-off,((c.toList.take (n*d)).drop (off*d)).take (len*d),rfl,(L.drop _).take _,?_,?_,ai,λv K=>O v (aEj (aFt K))⟩
    ·simp[aDx,atB,aDv];omega
    ·rintro k e j v p;cases e;have F:j<len*d:=by have:=(ο.1 p).1;simp at this;omega
     rw[Υ F,aDB,Υ aa,aDh] at p;rw[Addr.ox,cell_of_row J];exact p
   ·cases h
  ·cases h
 |val v0=>
  simp only[pU] at h;split at h
  ·rename_i E;obtain⟨a0,M,rfl⟩:=ML E;cases h;simp[ah] at r;subst r;exact⟨some a0,M,[],rfl,by simp[aw],ai,ai,ai,ai⟩
  ·cases h
 |_=>simp[pU] at h
def aW.Yh(a:aW P B W0 H σ w){n s cap}{et}{cs}{us:List Value}{zs:Array Value}{w1:World}(f:bF P et=some s)(h:s≠0)(c:aw σ cs us)(b:us.length=n*s)(g:∀v∈us,v.oneCell'=true)
  (e:us.length+zs.size=cap*s) (k:n<=cap) (l:cap<=maxLen) (d:w1.heap=w.heap) (i:gL B W0 w1):
  aW P B W0 (H.push (.row n et s cs)) (σ.fQ H.next w.heap.size cap) (w1.alloc (.cells (us.toArray++zs) et))/\Ext B σ (σ.fQ H.next w.heap.size cap):=by
 refine a.Yd (cap:=cap) d i (by simp[aS,St.fQ]) λj=>⟨w.heap.size,cap,_,by simp[St.fQ],by simp[St.fQ],a.rh,j,f,h,by simp[e],k,l,by rw[<-c.length,b],?_,?_,λo=>a.uL o⟩
 ·have:((us.toArray++zs).toList).take (n*s)=us:=by simp[<-b]
  rw[this];exact c.mono (a.Nb _ _)
 ·have:((us.toArray++zs).toList).take (n*s)=us:=by simp[<-b]
  rw[this];exact g
def ad3(t tx ty e)(i:TypeInfo)(j:P.underlying t=some (.slice e))(hi:P.info? e=some i)(g pV AR)(a:Array Value)(hg:w.heap[g]? =some (.cells a e (0,0)))
  (x) (m) (news:List Value) (b:Src P i.size tx x m news w) (h:pV+m<=AR) (f:pV*i.size+news.length<=a.size):
  (Builtin.append_ #[t,tx] ty #[.slice (some ⟨g,0,none⟩) pV AR,x]).run P w=
   .ok (.slice (some ⟨g,0,none⟩) (pV+m) AR) (w.setRow g (a.toList.take (pV*i.size)++news++a.toList.drop (pV*i.size+news.length)).toArray):=by
 have d:=aFc P g (pV*i.size) e news 0 a w hg (by simpa using f) b.one;simp at d;rcases b.kind with⟨e',c⟩|c<;>simp[Builtin.append_,run_underlying j,run_underlying c,sizeOf,typeInfo,hi,b.len,h,b.cells,Addr.add_lit,d]
def Ud(g:aW P B W0 H σ w){D C ty}{x v}{R A}{H'}(p:ah σ x R){m}{f}{news}{et s fq}{z:List AV}
  (vk:Src P s C A m news w) (U:aw σ f news)
  (jW:eW P D=some et) (bZ:bF P et=some s) (oN:jN P et=some fq) (hz:dq P et=some z) (jZ:s≠0) (gG:z.length=s) (h:pM et s fq x m f H=some (v,H')):
  fc P ((do pure (Next.value (<-Builtin.append_ #[D,C] ty #[R,A])):Sem Next).run P w) (kJ P B W0 σ v H'):=by
 have I:=td jW;obtain⟨i,zv,hi,G,yR,yS,vG⟩:=Yg bZ oN hz;unfold pM at h;have t:=vk.newsLen;have fW:=vk.one;have L:Src P i.size C A m news w:=by rw[G];exact vk
 cases x with
 |vec o es=>
  simp only at h;split at h
  ·rename_i E;subst E;cases h;have V:news=[]:=by apply aD4;rw[t];simp
   subst V;have xl:=p;simp[ah] at p;obtain⟨Q,W,rfl,KB,_⟩:=p;have q:=run_append_nothing (P:=P) w D C ty et i I hi Q es.length W KB A L;simp[Τ,q,Γ,atG,fc];exact⟨σ,Ext.refl _ _,g,xl⟩
  ·rename_i E;have Fc:0<m:=aFz E
   have go:∀{o:Own},ah σ (.vec o es) R->(o=.nil\/o=.full)->(if fF s es=true/\(es.length+m)*fq<=140737488355328/\es.length+m<=9223372036854775807 then some (AV.sl H.next s 0 (es.length+m),H.push (.row (es.length+m) et s (es.flatMap AV.cells++f))) else none)=some (v,H')->
     fc P ((do pure (Next.value (<-Builtin.append_ #[D,C] ty #[R,A])):Sem Next).run P w) (kJ P B W0 σ v H'):=by
    intro o p ho h;split at h
    ·rename_i hc;obtain⟨hw,wD,J⟩:=hc;cases h;obtain⟨Q,W,e,rfl,KB,yT,d',T,F,SP,Ax⟩:=MP g p hw
     have r8:W=es.length:=by
      rcases ho with rfl|rfl
      ·simp[nV] at yT;omega
      ·exact yT
     subst r8;have AU:es.length+m<=maxLen:=by unfold maxLen;omega
     have l:(Builtin.firstCells i.size es.length (.slice Q es.length es.length)).run P w.drew=.ok e.toArray w.drew:=by
      cases Q with
      |none=>
       have fE:=SP rfl;subst fE;have c':e=[]:=by apply aD4;rw[T];simp
       subst c';exact run_firstCells_none _ _ _ _ _
      |some a'=>exact aE2 _ _ _ _ _ _ _ (by rw[T,G]) (by simpa using F a' rfl)
     have q:=run_append_grow_src (P:=P) w D C ty et i zv I hi yS Q es.length es.length e l A m news L aa aa
      (aFd aa (by rw[yR];exact wD))
     have jm:=aE9 w (es.length+m) es.length et;have ky:=aEi w (es.length+m) es.length et AU
     obtain⟨N,M⟩:=g.Yh (n:=es.length+m) (cap:=grownCap w (es.length+m) es.length et) (us:=e++news) (cs:=es.flatMap AV.cells++f) (zs:=Builtin.zeroCells zv.cells (grownCap w (es.length+m) es.length et-(es.length+m))) (w1:=w.drew) bZ jZ (d'.append U)
      (by rw[χ,T,t,<-Nat.add_mul]) (λv d=>by
       rcases Ω.1 d with d|d
       ·exact Ax v d
       ·exact fW v d) (by
       rw[χ,T,t,aEE,vG,gG,<-Nat.add_mul,<-Nat.add_mul];congr 1;omega) jm ky rfl g.below.drew
     simp[Τ,q,Γ,atG,fc];refine⟨_,M,N,?_⟩;simp only[ah];exact⟨w.heap.size,grownCap w (es.length+m) es.length et,by simp[St.fQ],by simp[St.fQ],ai,aa⟩
    ·cases h
   cases o with
   |ro=>simp at h
   |own k=>simp at h
   |cut z k j s=>simp at h
   |nil=>exact go p (.inl rfl) h
   |full=>exact go p (.inr rfl) h
 |sl id s' off len=>
  simp only at h;have xl:=p;simp only[ah] at p;obtain⟨b,cap,AP,ki,rfl,lO⟩:=p;split at h
  ·rename_i E;subst E;cases h;have V:news=[]:=by apply aD4;rw[t];simp
   subst V;have q:=run_append_nothing (P:=P) w D C ty et i I hi (some ⟨b,off*s',none⟩) len (cap-off) aa A L;simp[Τ,q,Γ,atG,fc];exact⟨σ,Ext.refl _ _,g,xl⟩
  ·rename_i E;have Fc:0<m:=aFz E;split at h
   ·rename_i n r a cs hg;split at h
    ·rename_i hc;obtain⟨rfl,rfl,rfl,rfl,oe,wD,J⟩:=hc;cases h;obtain⟨b',vm,c,h1,iI,h2,Y,h4,h5,h6,h7,h8,h9,lR,nB,oM⟩:=g.obj id _ hg;rw[AP] at h1;cases h1;rw[ki] at iI;cases iI;have AU:len+m<=maxLen:=by unfold maxLen;omega
     have aC9:len*a<=n*a:=aDr _ oe;have Km:n*a<=c.size:=by rw[h6];exact aDr _ h7
     have O:(c.toList.take (len*a)).length=len*a:=aX;have nX:(c.toList.take (n*a)).take (len*a)=c.toList.take (len*a):=by rw[List.take_take];congr 1;omega
     have X:aw σ (cs.take (len*a)) (c.toList.take (len*a)):=by rw[<-nX];exact lR.take _
     have K:∀v∈c.toList.take (len*a),v.oneCell'=true:=λv d=>nB v (by rw[<-nX] at d;exact aFt d);have c9:(cs.take (len*a)).length=len*a:=by rw[<-X.length,O]
     simp;by_cases mM:len+m<=cap
     ·have nv:len*i.size+news.length<=c.size:=by rw[t,h6,G,<-Nat.add_mul];exact aDr _ mM
      have q:=ad3 (P:=P) (w:=w) D C ty r i I hi b len cap c Y A m news L mM nv;simp only[Τ,q,Γ,atG,fc,G];have CX:=g.del id
      have nE:((c.toList.take (len*a)++news++c.toList.drop (len*a+news.length)).toArray.toList).take ((len+m)*a)=c.toList.take (len*a)++news:=by
       have:(len+m)*a=(c.toList.take (len*a)++news).length:=by rw[χ,O,t,aDJ]
       rw[this];exact List.take_left' rfl
      obtain⟨N,M⟩:=CX.OZ (b:=b) (cap:=cap) (x:=.row (len+m) r a (cs.take (len*a)++f)) (w':=w.setRow b (c.toList.take (len*a)++news++c.toList.drop (len*a+news.length)).toArray) h2 (λk hk _=>aEK w b k _ hk)
       (g.below.trans ⟨rfl,rfl,rfl,ai,λk hk=>aEK w b k _ (by rintro rfl;exact h2 hk)⟩)
       (λk y S he=>by
        rw[ab.tz] at S;split at S
        ·cases S
        ·rename_i aL
         exact aL (g.inj id k _ y hg S (by rw[he];simp[aS,AP])))
       oM (by simp[aS,St.fQ])
       ⟨b,cap,_,by simp[St.fQ],by simp[St.fQ],h2,aFD w b c (c.toList.take (len*a)++news++c.toList.drop (len*a+news.length)).toArray r (0,0) Y,h4,h5,by
        simp only[aDw,χ,aDx,atB,aDv];rw[G] at nv;omega,mM,h8,by
        rw[χ,c9,U.length.symm,t,aDJ],by
        rw[nE];exact(X.append U).mono (CX.Nb b cap),by
        rw[nE];intro v d;rcases Ω.1 d with d|d
        ·exact K v d
        ·exact fW v d,oM⟩
      refine⟨_,M,N,?_⟩;simp only[ah];refine⟨b,cap,?_,?_,ai,aa⟩
      ·show(σ.fQ H.next b cap).loc H.next=_;simp[St.fQ]
      ·show(σ.fQ H.next b cap).own H.next 0=_;simp[St.fQ]
     ·have l:(Builtin.firstCells i.size len (.slice (some ⟨b,0,none⟩) len cap)).run P w.drew=.ok (c.toList.take (len*a)).toArray w.drew:=
       aE2 _ _ _ _ _ _ _ (by rw[O,G]) (λj u Z=>by
        have qK:j<len*a:=by have:=(ο.1 Z).1;omega
        rw[Υ qK,aDh] at Z;rw[Addr.ox,aDz]
        exact(cell_of_row (w:=w) Y j).trans Z)
      have q:=run_append_grow_src (P:=P) w D C ty r i zv I hi yS (some ⟨b,0,none⟩) len cap (c.toList.take (len*a)) l A m news L aa aa
       (aFd aa (by rw[yR];exact wD))
      have jm:=aE9 w (len+m) cap r;have ky:=aEi w (len+m) cap r AU;simp[Τ,q,Γ,atG,fc]
      obtain⟨N,M⟩:=(g.del id).Yh (n:=len+m) (cap:=grownCap w (len+m) cap r) (us:=c.toList.take (len*a)++news) (cs:=cs.take (len*a)++f) (zs:=Builtin.zeroCells zv.cells (grownCap w (len+m) cap r-(len+m))) (w1:=w.drew) h4 h5 (X.append U)
       (by rw[χ,O,t,<-Nat.add_mul]) (λv d=>by
        rcases Ω.1 d with d|d
        ·exact K v d
        ·exact fW v d) (by
        rw[χ,O,t,aEE,vG,gG,<-Nat.add_mul,<-Nat.add_mul];congr 1;omega) jm ky rfl g.below.drew
      refine⟨_,M,N,?_⟩;simp only[ah];refine⟨w.heap.size,grownCap w (len+m) cap r,?_,?_,ai,aa⟩
      ·show(σ.fQ H.next w.heap.size _).loc H.next=_;simp[St.fQ]
      ·show(σ.fQ H.next w.heap.size _).own H.next 0=_;simp[St.fQ]
    ·cases h
   ·cases h
 |_=>simp at h
def ad9(i:aW P B W0 H σ w){a ty}{x y v}{k j}{H'}(C:ah σ x k)(D:ah σ y j){et s fq}{z:List AV}
  (c:eW P a=some et) (n:bF P et=some s) (u:jN P et=some fq) (q:dq P et=some z) (o:s≠0) (G:z.length=s) (h:we P et s fq x y H=some (v,H')):
  fc P ((do pure (Next.value (<-Builtin.append_ #[a,a] ty #[k,j])):Sem Next).run P w) (kJ P B W0 σ v H'):=by
 have d:=td c;unfold we at h;split at h
 ·cases h
 ·rename_i m src r;obtain⟨A,e,news,rfl,t,f,E,b,F⟩:=aqD i D r;refine Ud i C (news:=news) ?_ t c n u q o G h
  cases A with
  |none=>
   have p:=b rfl;subst p;have l:news=[]:=by apply aD4;rw[f];simp
   subst l;exact Src.ofNil w d e
  |some g=>exact Src.ofSlice w d g m e news f (E g rfl) F
def aea(q:aW P B W0 H σ w){a c ty}{x v}{l}{e d}{H'}(p:ah σ x e)(g:ah σ (.str l) d){et s fq}{z:List AV}
  (n:eW P a=some et) (i:bF P et=some s) (k:jN P et=some fq) (u:dq P et=some z) (j:s≠0) (o:z.length=s) (h:MN P a c et s fq x l H=some (v,H')):
  fc P ((do pure (Next.value (<-Builtin.append_ #[a,c] ty #[e,d])):Sem Next).run P w) (kJ P B W0 σ v H'):=by
 unfold MN at h;split at h
 ·rename_i r;obtain⟨_,t,rfl⟩:=r;simp[ah] at g;subst g;have f:=Src.ofString (P:=P) w (GQ t) ⟨l.toArray⟩;have hb:byteCells ⟨l.toArray⟩=l.map λb=>Value.int .u8 b.toNat:=by simp[byteCells]
  have m:(⟨l.toArray⟩:ByteArray).size=l.length:=by simp[ByteArray.size]
  rw[hb,m] at f;exact Ud q p f (aw.of_map _ _ l λb _=>by simp[ah]) n i k u j o h
 ·cases h
def aes(i:aW P B W0 H σ w){eX}{q n ty}{x y v}{r p}{H'}(g:ah σ x r)(j:ah σ y p)(h:cj eX P q n x y H=some (v,H')):
  fc P ((do pure (Next.value (<-Builtin.append_ #[q,n] ty #[r,p])):Sem Next).run P w) (kJ P B W0 σ v H'):=by
 unfold cj at h;split at h
 ·rename_i et f;split at h
  ·rename_i s fq z d e m;split at h
   ·rename_i l;split at h
    ·rename_i k;obtain⟨b,c⟩:=k;exact aea i g j f d e m b c h
    ·cases h
   ·rename_i aL;split at h
    ·rename_i k;obtain⟨rfl,b,c⟩:=k;split at h
     ·rename_i o es fs a
      obtain⟨t,A,u⟩:∃t,x=.vec o es/\y=.vec t fs:=by
       unfold jt at a;split at a
       ·rename_i o1 es1 o2 fs1;cases o1<;>simp only at a;case ro=>simp at a;obtain⟨rfl,rfl,rfl⟩:=a;exact⟨_,rfl,rfl⟩
        case own=>simp at a;obtain⟨rfl,rfl,rfl⟩:=a;exact⟨_,rfl,rfl⟩
        case cut=>simp at a;obtain⟨rfl,rfl,rfl⟩:=a;exact⟨_,rfl,rfl⟩
        all_goals
         split at a
         ·cases a
         ·simp at a;obtain⟨rfl,rfl,rfl⟩:=a;exact⟨_,rfl,rfl⟩
       ·cases a
      subst A u;exact ad8 i g j f d e m b c h
     ·exact ad9 i g j f d e m b c h
    ·cases h
  ·cases h
 ·cases h
end
section
variable {P:Program} {B:Nat->Prop} {W0:World} {H:ab} {σ:St} {w:World}
def Uj:∀{parts:List (Nat×AV)} {k:Nat},mH k parts=true->∀i p,parts[i]? =some p->p.1=k+i
 |[],_,_,i,p,b=>by simp at b
 |(j,a)::parts,k,h,i,p,b=>by
  simp[mH] at h
  cases i with
  |zero=>simp at b;subst b;simpa using h.1
  |succ i=>simp at b;have:=Uj h.2 i p b;omega
def Wx(s):∀us k cells,(∀i p,us[i]? =some p->p.1=k+i/\p.2.cells.size=s)->(k+us.length)*s<=cells.size->
  ∃out,Instr.fill (λi=>some (i*s,s)) cells us=some out/\out.size=cells.size/\(∀o,o<k*s->out[o]? =cells[o]?)/\
   ∀i p,us[i]? =some p->∀j v,p.2.cells[j]? =some v->out[(k+i)*s+j]? =some v
 |[],k,cells,_,_=>⟨cells,rfl,rfl,λ_ _=>rfl,ai⟩
 |(i0,u)::us,k,cells,f,c=>by
  obtain⟨h,a⟩:=f 0 (i0,u) ai;simp at h a;subst h;simp at c;have nv:i0*s+s<=cells.size:=by have:(i0+1)*s<=(i0+(us.length+1))*s:=aDr _ aa;rw[aDJ,aFE] at this;omega
  have l:=Ml (i0*s) u.cells.toList 0 cells (by simp[a];omega)
  obtain⟨out,m,q,g,n⟩:=Wx s us (i0+1) ((u.cells.toList.zipIdx 0).foldl (λ(cs:Array Value) (p:Value×Nat)=>cs.setIfInBounds (i0*s+p.2) p.1) cells)
   (λi p hi=>by have:=f (i+1) p (by simpa using hi);omega)
   (by
    have d:((u.cells.toList.zipIdx 0).foldl (λ(cs:Array Value) (p:Value×Nat)=>cs.setIfInBounds (i0*s+p.2) p.1) cells).size=cells.size:=by have b:=Λ List.length (Mb (i0*s) u.cells.toList cells (by simp[a];omega));simp[aDv,aDx,atB,a] at b;rw[b];omega
    rw[d];rw[show i0+1+us.length=i0+(us.length+1) from aa]
    exact c)
  have d:((u.cells.toList.zipIdx 0).foldl (λ(cs:Array Value) (p:Value×Nat)=>cs.setIfInBounds (i0*s+p.2) p.1) cells).size=cells.size:=by have b:=Λ List.length (Mb (i0*s) u.cells.toList cells (by simp[a];omega));simp[aDv,aDx,atB,a] at b;rw[b];omega
  refine⟨out,?_,q.trans d,?_,?_⟩
  ·simp only[Instr.fill];rw[κ (by simp[a];omega),<-Array.foldl_toList,Array.toList_zipIdx];exact m
  ·intro o ho;rw[g o (by rw[aDJ];omega),l o,bV]
  ·intro i p hi j v e
   cases i with
   |zero=>
    simp at hi;subst hi;have uh:j<s:=by rw[<-a];exact(Δ.1 e).1
    rw[aEp,g _ (by rw[aDJ,aFE];omega),l,ν (by simp[a];omega)];rw[show i0*s+j-(i0*s+0)=j from aa];simpa using e
   |succ i=>have:=n i p (by simpa using hi) j v e;rwa [show i0+(i+1)=i0+1+i from aa]
mutual
def ah.erase0(v:AV)(u)(h:ah σ v u):ah σ v.bare u:=by
 cases v with
 |vec o es=>
  simp[AV.bare,ah] at h⊢;obtain⟨a,cap,e,hl,ho,r⟩:=h;refine⟨a,cap,e,hl,?_,r⟩
  cases o with
  |own k=>trivial
  |cut z k j s=>trivial
  |full=>trivial
  |_=>exact ho
 |_=>exact h
end
def aw.bare:∀{cs:List AV} {us:List Value},aw σ cs us->aw σ (cs.map AV.bare) us
 |[],_,h=>by simpa using h
 |c::cs,_,h=>by rw[aw.eC] at h;obtain⟨u,a,rfl,r,q⟩:=h;exact aw.eC.2 ⟨u,a,rfl,ah.erase0 c u r,aw.bare q⟩
def ah.erase{v:AV}{u}(h:ah σ v u):ah σ v.erase u:=by
 cases v with
 |agg cs=>simp[AV.erase,ah] at h⊢;obtain⟨us,e,r⟩:=h;exact⟨us,e,r.bare⟩
 |tup cs=>
  simp[AV.erase,ah] at h⊢;obtain⟨us,e,r⟩:=h;refine⟨us,e,?_⟩;clear e
  induction cs generalizing us with
  |nil=>simpa using r
  |cons c cs ih=>
   rw[aw.eC] at r;obtain⟨g,b,rfl,a,q⟩:=r;refine aw.eC.2 ⟨g,b,rfl,?_,ih b q⟩
   cases c with
   |agg ds=>simp[ah] at a⊢;obtain⟨xs,f,d⟩:=a;exact⟨xs,f,d.bare⟩
   |_=>exact ah.erase0 _ _ a
 |_=>exact ah.erase0 _ _ h
def aw.erase:∀{cs:List AV} {us:List Value},aw σ cs us->aw σ (cs.map AV.erase) us
 |[],_,h=>by simpa using h
 |c::cs,_,h=>by rw[aw.eC] at h;obtain⟨u,a,rfl,r,q⟩:=h;exact aw.eC.2 ⟨u,a,rfl,r.erase,aw.erase q⟩
def L_{n}:∀{cs:List AV},fF n cs=true->∀c∈cs,c.width=some n
 |[],_,c,a=>by cases a
 |d::cs,h,c,a=>by
  simp[fF] at h
  cases a with
  |head=>exact h.1
  |tail _ a=>exact L_ h.2 c a
def Uk:∀{cs:List AV},lZ cs=true->∀c∈cs,eE c.cells=true
 |[],_,c,a=>by cases a
 |d::cs,h,c,a=>by
  simp[lZ] at h
  cases a with
  |head=>exact h.1
  |tail _ a=>exact Uk h.2 c a
def St.wS(σ:St)(a:Nat)(cs:List Value):St:={σ with cells:=λb o=>if b=a/\o<cs.length then cs[o]? else σ.cells b o}
def aW.ahK(a:aW P B W0 H σ w){cs}{c}{et}{w1:World}(f:w1.heap=w.heap)(r:gL B W0 w1)(s:∀(j:Nat) (v:Value),cs[j]? =some v->c[j]? =some v)
  (p:∀v∈cs,v.oneCell'=true):aW P B W0 H (σ.wS w.heap.size cs) (w1.alloc (.cells c et))/\Ext B σ (σ.wS w.heap.size cs):=by
 have i:w1.heap.size=w.heap.size:=by rw[f]
 have d:∀b,b<w.heap.size->(w1.alloc (.cells c et)).heap[b]? =w.heap[b]? :=λb hb=>by rw[zN w1 _ aa,f]
 have t:(w1.alloc (.cells c et)).heap[w.heap.size]? =some (.cells c et (0,0)):=by rw[<-i];exact BV w1 _
 have e:σ.le (σ.wS w.heap.size cs):=by
  refine⟨λb o v h=> ?_,λ_ _ h=>h,λ_ _ _ h=>h⟩;simp[St.wS];rw[κ]
  ·exact h
  ·rintro⟨rfl,_⟩;rw[a.uL] at h;cases h
 refine⟨⟨r.alloc (λk n=>by rw[i];exact a.size k n) _,a.base,?_,?_,a.fresh,a.keys,?_,a.inj⟩,e,?_⟩
 ·intro b o v h;simp[St.wS] at h;split at h
  ·rename_i q;obtain⟨rfl,_⟩:=q;rw[cell_of_row t];exact s _ v h
  ·rw[cell_of_heap (d b (a.xS h))];exact a.cells b o v h
 ·intro b o v h;simp[St.wS] at h;split at h
  ·exact p v (Β h)
  ·exact a.one b o v h
 ·intro id x u;have g:=a.obj id x u;refine g.bU e (λb hb=> ?_) (λ_=>rfl);obtain⟨b',l,_,m⟩:=g.aS;rw[hb] at l;cases l;refine⟨d b m,λo=> ?_⟩;simp only[St.wS];rw[κ (by rintro⟨rfl,_⟩;exact absurd m (aDF _))]
 ·intro b o hb;simp only[St.wS];rw[κ (by rintro⟨rfl,_⟩;exact a.rh hb)]
def ad6(Y:aW P B W0 H σ w){t}{len}{parts:List (Nat×AV)}{us:Array (Nat×Value)}{v}{H'}
  (W:us.toList.map (·.1)=parts.map (·.1)) (hp:aw σ (parts.map (·.2)) (us.toList.map (·.2))) (h:dS P t len parts H=some (v,H')):
  fc P ((do pure (Next.value (<-Instr.buildSlice t len us)):Sem Next).run P w) (kJ P B W0 σ v H'):=by
 unfold dS at h;split at h
 ·rename_i et jW;split at h
  ·rename_i s z bZ hz;split at h
   ·rename_i hc;obtain⟨f,R,m,oH,jZ,gG,ac0⟩:=hc;cases h;obtain⟨i,zv,hi,sU,FX⟩:=D2 hz;have J:us.toList.length=len:=by have:=Λ List.length W;simp only[φ] at this;omega
    have E:aw σ (parts.map λp=>p.2.erase) (us.toList.map (·.2)):=by have:=hp.erase;rwa [aEz] at this
    have C:∀(i:Nat) (p:Nat×Value),us.toList[i]? =some p->p.1=0+i/\p.2.cells.size=s:=by
     intro i p T;have U:(us.toList.map (·.1))[i]? =some p.1:=by simp[aDC,T]
     rw[W,aDC] at U;obtain⟨q,a,F⟩:=aDy.1 U;have D:(parts.map λp=>p.2.erase)[i]? =some q.2.erase:=by simp[aDC,a]
     obtain⟨u,e,Q⟩:=E.get D;have h4:(us.toList.map (·.2))[i]? =some p.2:=by simp[aDC,T]
     rw[h4] at e;cases e;exact⟨by rw[<-F,Uj R i q a],Q.width (L_ m _ (Β D))⟩
    obtain⟨r,g,S,I⟩:∃r:Array Value,r.size=len*s/\(len*s=0->(Array.range (len*s)).map (λx=>(#[]:Array Value)[x%(#[]:Array Value).size]!)=r)/\
      (¬len*s=0->(Array.range (len*s)).map (λx=>zv.cells[x%zv.cells.size]!)=r):=by
     by_cases b:len*s=0
     ·exact⟨_,ai,λ_=>rfl,λh=>absurd b h⟩
     ·exact⟨_,ai,λh=>absurd h b,λ_=>rfl⟩
    obtain⟨out,Z,e2,_,e4⟩:=Wx s us.toList 0 r C (by rw[J,g,aDz];exact μ _)
    have bE:(Instr.buildSlice t len us).run P w=.ok (.slice (some ⟨w.heap.size,0,none⟩) len len) (w.alloc (.cells out et)):=by
     have K:¬(len*s>2^24):=aa;simp only[Instr.buildSlice,Τ,eB (td jW),Γ,tv bZ,Sem.run_ite,κ K,atG];by_cases b:len*s=0
     ·simp only[ν b,S b,Z,Τ,newRow,run_newObj,Γ,atG];rfl
     ·have M:(zeroValue et).run P w=.ok zv w:=by simp[zeroValue,typeInfo,hi,sU]
      simp only[κ b,M,Γ,I b,Z,Τ,newRow,run_newObj,atG];rfl
    simp[Τ,bE,Γ,atG,fc]
    have oz:∀x∈out.toList.take (len*s),x.oneCell'=true:=by
     intro x hx;obtain⟨o,L⟩:=aDD hx;have A:o<len*s:=by have:=(ο.1 L).1;simp at this;omega
     rw[Υ A,aDh] at L;have n:0<s:=aFz jZ;have l:o/s<us.toList.length:=by rw[J];exact(Nat.div_lt_iff_lt_mul n).2 A
     have O:us.toList[o/s]? =some (us.toList[o/s]):=Φ l;have G:o%s<(us.toList[o/s]).2.cells.size:=by rw[(C _ _ O).2];exact Nat.mod_lt _ n
     have:=e4 (o/s) _ O (o%s) _ (aDK G);rw[aDz,aFy,Nat.div_add_mod,L] at this;cases this;have D:(us.toList.map (·.2))[o/s]? =some (us.toList[o/s]).2:=by rw[aDC,O];rfl
     have y:o/s<(parts.map λp=>p.2.erase).length:=by rw[<-E.length];simpa using l
     obtain⟨u,e,Q⟩:=E.get (Φ y);rw[D] at e;cases e;have V:=List.getElem_mem y;refine BD (Uk oH _ V) (Q.cells (by rw[L_ m _ V];simp)) _ ?_;simp
    have A:(out.toList.take (len*s)).length=len*s:=by simp[e2,g]
    obtain⟨dA,X⟩:=Y.ahK (cs:=out.toList.take (len*s)) (c:=out) (et:=et) (w1:=w) rfl Y.below
     (λj x d=>by
      have qK:j<len*s:=by have:=(ο.1 d).1;omega
      rw[Υ qK] at d;simpa using d)
     oz
    have N:(parts.map λp=>p.2.erase).length=len:=by simp[f]
    refine⟨_,X,dA,?_⟩;simp only[ah];refine⟨_,len,by rw[N],by rw[N];exact μ _,by rw[N];rfl,.inr ⟨w.heap.size,0,s,rfl,?_⟩⟩;refine bM.Yf (E.mono X.le) (λu De=> ?_) (λi u l j x d=> ?_)
    ·obtain⟨q,a,rfl⟩:=aDt.1 De;obtain⟨k,hk⟩:=aDD a;exact(C k q hk).2
    ·rw[aDC] at l;obtain⟨q,a,rfl⟩:=aDy.1 l;have AX:=e4 i q a j x d;rw[aDz] at AX;have aE:i<len:=by rw[<-J];exact(ο.1 a).1
     have uh:j<s:=by rw[<-(C i q a).2];exact(Δ.1 d).1
     have y:i*s+j<len*s:=by have:(i+1)*s<=len*s:=aDr _ aE;rw[aDJ,aFE] at this;omega
     rw[show 0+i*s+j=i*s+j from aa];simp only[St.wS];rw[ν ⟨trivial,by rw[A];exact y⟩,Υ y,aDh];exact AX
   ·cases h
  ·cases h
 ·cases h
end
mutual
def ah.aq{σ aR:St}(hc:∀b o v,σ.cells b o=some v->aR.cells b o=some v):∀a u,a.aq=true->ah σ a u->ah aR a u
 | .rK,_,_,_=>by simp[ah]
 | .any,_,_,k=>by simpa[ah] using k
 | .int _ _,_,_,k=>by simpa[ah] using k
 | .bool _,_,_,k=>by simpa[ah] using k
 | .str _,_,_,k=>by simpa[ah] using k
 | .agg cs,_,n,k=>by simp[AV.aq] at n;simp[ah] at k⊢;obtain⟨us,e,r⟩:=k;exact⟨us,e,aw.aq hc cs us n r⟩
 | .tup cs,_,n,k=>by simp[AV.aq] at n;simp[ah] at k⊢;obtain⟨us,e,r⟩:=k;exact⟨us,e,aw.aq hc cs us n r⟩
 | .vec o es,_,n,k=>by
  simp[AV.aq] at n;simp only[ah] at k⊢;obtain⟨a,cap,e,hl,ho,r⟩:=k;refine⟨a,cap,e,hl,?_,r.imp id ?_⟩
  ·cases o with
   |own k=>simp at n
   |cut z k j s=>simp at n
   |_=>exact ho
  ·rintro⟨b,off,s,ea,r⟩;exact⟨b,off,s,ea,bM.aq hc b s off es n.2 r⟩
 | .ptr _ _,_,n,_=>by simp[AV.aq] at n
 | .rptr cs,_,n,k=>by simp[AV.aq] at n;simp[ah] at k⊢;obtain⟨b,off,e,r⟩:=k;exact⟨b,off,e,eV.aq hc b off cs n r⟩
 | .fn _ first cap,_,n,k=>by
  simp[AV.aq] at n;simp[ah] at k⊢;obtain⟨us,vs,e,r,q⟩:=k;exact⟨us,vs,e,aw.aq hc first us n.1 r,aw.aq hc cap vs n.2 q⟩
 | .iface _ v,_,n,k=>by simp[AV.aq] at n;simp[ah] at k⊢;obtain⟨x,e,r⟩:=k;exact⟨x,e,ah.aq hc v x n r⟩
 | .val _,_,_,k=>by simpa[ah] using k
 | .sl _ _ _ _,_,n,_=>by simp[AV.aq] at n
 | .map _,_,n,_=>by simp[AV.aq] at n
def aw.aq{σ aR:St}(hc:∀b o v,σ.cells b o=some v->aR.cells b o=some v):∀cs us,AV.aq.go cs=true->aw σ cs us->aw aR cs us
 |[],_,_,k=>by simpa[aw] using k
 |c::cs,_,n,k=>by simp[AV.aq.go] at n;simp[aw] at k⊢;obtain⟨u,dW,e,r,q⟩:=k;exact⟨u,dW,e,ah.aq hc c u n.1 r,aw.aq hc cs dW n.2 q⟩
def eV.aq{σ aR:St}(hc:∀b o v,σ.cells b o=some v->aR.cells b o=some v)(b):∀off cs,AV.aq.go cs=true->eV σ b off cs->eV aR b off cs
 |_,[],_,_=>by simp[eV]
 |off,c::cs,n,k=>by simp[AV.aq.go] at n;simp[eV] at k⊢;obtain⟨⟨u,e,r⟩,q⟩:=k;exact⟨⟨u,hc _ _ _ e,ah.aq hc c u n.1 r⟩,eV.aq hc b (off+1) cs n.2 q⟩
def bM.aq{σ aR:St}(hc:∀b o v,σ.cells b o=some v->aR.cells b o=some v)(b s):∀off es,AV.aq.go es=true->bM σ b s off es->bM aR b s off es
 |_,[],_,_=>by simp[bM]
 |off,e::es,n,k=>by simp[AV.aq.go] at n;simp[bM] at k⊢;obtain⟨⟨u,r,hs,eZ⟩,q⟩:=k;exact⟨⟨u,ah.aq hc e u n.1 r,hs,λj v hj=>hc _ _ _ (eZ j v hj)⟩,bM.aq hc b s (off+s) es n.2 q⟩
end
def kG(P:Program)(f:FuncId):Prop:=∃fn,P.funcs[f]? =some fn/\(fn.name== "runtime.NumGoroutine")=false/\fn.body.isNone=false
def Is(P:Program)(f:FuncId)(args:List AV)(H:ab)(v:AV)(H':ab):Prop:=
 ∀B W0 σ w us,aW P B W0 H σ w->aw σ args us->Calls P f us.toArray w (λe w'=>∃u,e=.returned u/\kJ P B W0 σ v H' u w')
def dN(P:Program)(call:ck):Prop:=∀f args H v H',call f args H=some (v,H')->kG P f/\Is P f args H v H'
section
variable {P:Program} {B:Nat->Prop} {W0:World} {H:ab} {σ:St} {w:World} {call:ck}
def frozen(σ:St)(a:Nat)(w:World):Nat->Nat->Option Value:=λb o=>
 match σ.cells b o with
 |some v=>some v
 |none=>if a<=b then(match w.cell? ⟨b,o,none⟩ with|some v=>if v.oneCell'=true then some v else none|none=>none) else none
def VJ{σ:St}{a}{w}{b o}{v}(h:σ.cells b o=some v):frozen σ a w b o=some v:=by simp[frozen,h]
def Mo{a}{d}{g}{w:World}(f:aW P d g H σ w){b o}{v:Value}(hb:a<=b)(c:w.cell? ⟨b,o,none⟩=some v)(e:v.oneCell'=true):frozen σ a w b o=some v:=by
 unfold frozen
 cases h:σ.cells b o with
 |some x=>have:=f.cells b o x h;rw[c] at this;simp only;exact this.symm
 |none=>simp[hb,c,e]
def zO{σ aR:St}{f}(a:∀c d u,f c=some d->ah σ c u->ah aR d u):∀{cs ds:List AV} {us:List Value},dt f cs=some ds->aw σ cs us->aw aR ds us
 |[],ds,us,h,r=>by simp[dt] at h;subst h;rw[aw.pO] at r;subst r;simp[aw]
 |c::cs,ds,us,h,r=>by
  simp[dt] at h;rw[aw.eC] at r;obtain⟨u,g,rfl,e,b⟩:=r
  cases hc:f c with
  |none=>simp[hc,an] at h
  |some d=>
   cases hm:dt f cs with
   |none=>simp[hc,hm,an] at h
   |some FZ=>simp[hc,hm,an] at h;subst h;exact aw.eC.2 ⟨u,g,rfl,a c d u hc e,zO a hm b⟩
def Nf{α β:Type}{f:α->Option β}:∀{cs:List α} {ds:List β},dt f cs=some ds->ds.length=cs.length
 |[],ds,h=>by simp[dt] at h;subst h;rfl
 |c::cs,ds,h=>by
  simp[dt] at h
  cases hc:f c with
  |none=>simp[hc,an] at h
  |some d=>
   cases hm:dt f cs with
   |none=>simp[hc,hm,an] at h
   |some FZ=>simp[hc,hm,an] at h;subst h;simp[Nf hm]
def Wy{σ aR:St}{f}(a:∀c d u,f c=some d->ah σ c u->ah aR d u)(e:∀b o v,σ.cells b o=some v->aR.cells b o=some v){b s}:∀{off:Nat} {cs ds:List AV},dt f cs=some ds->bM σ b s off cs->bM aR b s off ds
 |_,[],ds,h,r=>by simp[dt] at h;subst h;simp[bM]
 |off,c::cs,ds,h,r=>by
  simp[dt] at h;simp[bM] at r;obtain⟨⟨u,m,g,k⟩,i⟩:=r
  cases eZ:f c with
  |none=>simp[eZ,an] at h
  |some d=>
   cases hm:dt f cs with
   |none=>simp[eZ,hm,an] at h
   |some FZ=>simp[eZ,hm,an] at h;subst h;simp[bM];exact⟨⟨u,a c d u eZ m,g,λj v l=>e _ _ _ (k j v l)⟩,Wy a e hm i⟩
def U7{σ aR:St}{f}(a:∀c d u,f c=some d->ah σ c u->ah aR d u)(e:∀b o v,σ.cells b o=some v->aR.cells b o=some v){b}:∀{off:Nat} {cs ds:List AV},dt f cs=some ds->eV σ b off cs->eV aR b off ds
 |_,[],ds,h,r=>by simp[dt] at h;subst h;simp[eV]
 |off,c::cs,ds,h,r=>by
  simp[dt] at h;simp[eV] at r;obtain⟨⟨u,j,g⟩,i⟩:=r
  cases eZ:f c with
  |none=>simp[eZ,an] at h
  |some d=>
   cases hm:dt f cs with
   |none=>simp[eZ,hm,an] at h
   |some FZ=>simp[eZ,hm,an] at h;subst h;simp[eV];exact⟨⟨u,e _ _ _ j,a c d u eZ g⟩,U7 a e hm i⟩
def VK{σ aR:St}{f}(i:∀c d u,f c=some d->ah σ c u->ah aR d u){g}{s b}(hg:g=true\/s=1):∀n off cs ds us,aw σ cs us->n*s<=us.length->(∀u∈us,u.oneCell'=true)->
  (∀j v,us[j]? =some v->aR.cells b (off+j)=some v)->dt f (nT g s n cs)=some ds->bM aR b s off ds
 |0,off,cs,ds,us,_,_,_,_,h=>by simp only[nT,dt,Ζ] at h;subst h;simp[bM]
 |n+1,off,cs,ds,us,r,l,m,k,h=>by
  rw[aDJ] at l;simp only[nT,dt] at h
  cases eZ:f (if g=true then AV.agg (cs.take s) else cs.headD .rK) with
  |none=>simp only[eZ,an,reduceCtorEq] at h
  |some d=>
   cases hm:dt f (nT g s n (cs.drop s)) with
   |none=>simp only[eZ,hm,an,reduceCtorEq] at h
   |some q=>
    simp only[eZ,hm,an,Ζ] at h;subst h;simp only[bM];constructor
    ·cases g with
     |true=>
      refine⟨.agg (us.take s).toArray,i _ _ _ eZ ?_,?_,?_⟩
      ·simp only[aDp,ah];exact⟨_,rfl,r.take s⟩
      ·simp[Value.cells];omega
      ·intro j v a;simp only[Value.cells,aEu] at a;have y:j<s:=by have:=(ο.1 a).1;simp at this;omega
       rw[Υ y] at a;exact k j v a
     |false=>
      have z:s=1:=by simpa using hg
      subst z
      cases us with
      |nil=>simp at l
      |cons u us=>
       cases cs with
       |nil=>rw[aw.pO] at r;cases r
       |cons c cs=>
        rw[aw.eC] at r;obtain⟨u',dW,e,t,r2⟩:=r;cases e;have p:=m u ai;have o:u.cells=#[u]:=by cases u<;>simp[Value.oneCell'] at p<;>rfl
        refine⟨u,i _ _ _ eZ (by simpa using t),by rw[o];rfl,?_⟩;intro j v a;rw[o] at a;have w:j=0:=by have:=(Δ.1 a).1;simp at this;omega
        subst w;simp at a;subst a;exact k 0 u ai
    ·refine VK i hg n (off+s) (cs.drop s) q (us.drop s) (r.drop s) aX (λu x=>m u (aEj x)) (λj v a=> ?_) hm;rw[aDB] at a;have:=k (s+j) v a;rwa [show off+(s+j)=off+s+j from aa] at this
def VL(g)(s):∀n cs,(nT g s n cs).length=n
 |0,cs=>rfl
 |n+1,cs=>by simp[nT,VL g s n]
def aai{B1}{W1 w1}{K N:St}(D:aW P (·<B1) W1 H K w1)(F:N.cells=frozen K B1 w1):∀n v J u,cH P H n v=some J->ah K v u->ah N J u
 |0,v,J,u,h,_=>by simp[cH] at h
 |n+1,v,J,u,h,r=>by
  have w:=aai D F n;have Z:∀b o v,K.cells b o=some v->N.cells b o=some v:=λb o v hv=>by rw[F];exact VJ hv
  have A:∀{α β:Type} {x:Option α} {f:α->Option β} {y:β},an x f=some y->∃a,x=some a/\f a=some y:=λ{α β x f y} hx=>by
   cases x with
   |none=>simp[an] at hx
   |some a=>exact⟨a,rfl,hx⟩
  cases v<;>simp only[cH] at h
  case agg cs=>
   obtain⟨ds,d,i⟩:=A h;cases i;simp only[ah] at r⊢;obtain⟨us,e,q⟩:=r;exact⟨us,e,zO w d q⟩
  case tup cs=>
   obtain⟨ds,d,i⟩:=A h;cases i;simp only[ah] at r⊢;obtain⟨us,e,q⟩:=r;exact⟨us,e,zO w d q⟩
  case vec o es=>
   obtain⟨ds,d,i⟩:=A h;cases i;have O:=Nf d;simp only[ah] at r⊢;obtain⟨a,cap,e,q,R,r3⟩:=r;refine⟨a,cap,by rw[O];exact e,by rw[O];exact q,?_,?_⟩
   ·rw[O]
    cases o with
    |own k=>trivial
    |cut z k j s=>trivial
    |full=>trivial
    |_=>exact R
   ·rcases r3 with rfl|⟨b,off,s,ea,row⟩
    ·simp only[dt,Ζ] at d;exact .inl d.symm
    ·exact .inr ⟨b,off,s,ea,Wy w Z d row⟩
  case rptr cs=>
   obtain⟨ds,d,i⟩:=A h;cases i;simp only[ah] at r⊢;obtain⟨b,off,e,q⟩:=r;exact⟨b,off,e,U7 w Z d q⟩
  case fn f a b=>
   obtain⟨ds,d,i⟩:=A h;obtain⟨es,h3,h4⟩:=A i;cases h4;simp only[ah] at r⊢;obtain⟨us,vs,e,q,R⟩:=r;exact⟨us,vs,e,zO w d q,zO w h3 R⟩
  case iface t x=>
   obtain⟨y,d,i⟩:=A h;cases i;simp only[ah] at r⊢;obtain⟨z,e,q⟩:=r;exact⟨z,e,w _ _ _ d q⟩
  case ptr id off=>
   simp only[ah] at r;obtain⟨b,hb,rfl⟩:=r;split at h
   ·rename_i cs hg;split at h
    ·rename_i oH;obtain⟨ds,d,i⟩:=A h;cases i;obtain⟨W,c,e,B,I,E,M,Y⟩:=D.obj id _ hg;rw[hb] at B;cases B;simp only[ah];refine⟨b,off,rfl,eV.HI (zO w d (M.drop off)) λj v l=> ?_⟩;rw[F];have G:=l;rw[aDB,aDh] at l;exact Mo D (aD2 I) (by rw[cell_of_row E];exact l) (BD oH (M.drop off) v (Β G))
    ·cases h
   ·rename_i m et s cs hg;obtain⟨ds,d,i⟩:=A h;cases i;obtain⟨W,cap,c,B,_,I,E,M,Y,X,V,q8,q9,Q,L,SU⟩:=D.obj id _ hg;rw[hb] at B;cases B;simp only[ah];refine⟨b,off,rfl,eV.HI (zO w d (Q.drop off)) λj v l=> ?_⟩;rw[F];have G:=l;rw[aDB] at l;have U:off+j<m*s:=by have:=(ο.1 l).1;simp at this;omega
    rw[Υ U,aDh] at l;exact Mo D (aD2 I) (by rw[cell_of_row E];exact l) (L v (aEj (Β G)))
   ·cases h
  case sl id s off len=>
   simp only[ah] at r;obtain⟨b,cap,hb,ki,rfl,lO⟩:=r;split at h
   ·rename_i m et p cs hg;split at h
    ·rename_i g lq;split at h
     ·rename_i hc;obtain⟨rfl,T,S⟩:=hc;obtain⟨ds,d,i⟩:=A h;cases i;obtain⟨W,vm,c,B,_,I,E,M,Y,X,V,q8,q9,Q,L,SU⟩:=D.obj id _ hg;rw[hb] at B;cases B;have C:ds.length=len:=by rw[Nf d,VL]
      have hmul:off*p+len*p<=m*p:=by rw[<-Nat.add_mul];exact aDr _ T
      have Km:m*p<=c.size:=by rw[X];exact aDr _ V
      simp only[ah];refine⟨_,cap-off,by rw[C],by rw[C];omega,trivial,.inr ⟨b,off*p,p,rfl,?_⟩⟩;refine VK w S len (off*p) _ ds ((c.toList.take (m*p)).drop (off*p)) (Q.drop _) aX (λu hu=>L u (aEj hu)) (λj v l=> ?_) d;rw[F];have G:=l;rw[aDB] at l;have U:off*p+j<m*p:=by have:=(ο.1 l).1;simp at this;omega
      rw[Υ U,aDh] at l;exact Mo D (aD2 I) (by rw[cell_of_row E];exact l) (L v (aEj (Β G)))
     ·cases h
    ·cases h
   ·cases h
  case map id=>cases h
  all_goals(cases h;simp only[ah] at r⊢;try exact r)
def Ul(a:aW P B W0 H σ w){m}{e:St}{w1:World}(f:Ext (·<w.heap.size) {cells:=σ.cells,loc:=λ_=>none,own:=λ_ _=>none} e)(g:aW P (·<w.heap.size) w m e w1)
  {K} (p:∀b o v,e.cells b o=some v->K b o=some v) (j:∀b o v,K b o=some v->w1.cell? ⟨b,o,none⟩=some v/\v.oneCell'=true) (k:∀b o,b<w.heap.size->K b o=e.cells b o):
  Ext B σ {cells:=K,loc:=σ.loc,own:=σ.own}/\aW P B W0 H {cells:=K,loc:=σ.loc,own:=σ.own} w1:=by
 have d:σ.le {cells:=K,loc:=σ.loc,own:=σ.own}:=⟨λb o v h=>p b o v (f.le.cells b o v h),λ_ _ h=>h,λ_ _ _ h=>h⟩;refine⟨⟨d,λb o hb=> ?_⟩,?_⟩
 ·have c:=a.size b hb;show K b o=σ.cells b o;rw[k b o c];exact f.old b o c
 ·refine⟨a.below.trans (g.below.mono a.size),a.base,λb o v h=>(j b o v h).1,λb o v h=>(j b o v h).2,a.fresh,a.keys,?_,a.inj⟩;intro id x n;have i:=a.obj id x n;refine i.bU d (λb hb=> ?_) (λ_=>rfl);obtain⟨b',l,_,c⟩:=i.aS;rw[hb] at l;cases l;refine⟨g.below.block b c,λo=> ?_⟩;show K b o=σ.cells b o;rw[k b o c];exact f.old b o c
def GN(g:aW P B W0 H σ w)(y:dN P call){f:FuncId}{args:List AV}{us:List Value}{v:AV}(t:aw σ args us)(h:aI P call f args=some v):
  kG P f/\Calls P f us.toArray w (λe w'=>∃u,e=.returned u/\kJ P B W0 σ v H u w'):=by
 unfold aI at h;split at h
 ·rename_i A;split at h
  ·rename_i l q s;obtain⟨j,r⟩:=y _ _ _ _ _ s;refine⟨j,?_⟩;let mU:St:={cells:=σ.cells,loc:=λ_=>none,own:=λ_ _=>none}
   have p:aW P (·<w.heap.size) w .empty mU w:=
    ⟨gL.refl _ _,g.xZ,g.cells,g.one,λ_ _=>⟨rfl,λ_=>rfl⟩,λid x a=>by simp[ab.get,ab.empty] at a,λid x a=>by simp[ab.get,ab.empty] at a,
     λid gg x x' a=>by simp[ab.get,ab.empty] at a⟩
   refine(r (·<w.heap.size) w mU w us p (aw.aq (σ:=σ) (aR:=mU) (λ_ _ _ h=>h) _ _ A t.erase)).mono ?_;rintro e w1 ⟨u,rfl,d,n,c,m⟩;refine⟨u,rfl,?_⟩;split at h
   ·rename_i z;cases h;obtain⟨i,k⟩:=Ul g n c (K:=d.cells) (λ_ _ _ h=>h) (λb o v h=>⟨c.cells b o v h,c.one b o v h⟩) (λ_ _ _=>rfl);exact⟨_,i,k,ah.aq (σ:=d) (aR:={cells:=d.cells,loc:=σ.loc,own:=σ.own}) (λ_ _ _ h=>h) _ _ z m.erase⟩
   ·cases ur:cH P q 1000 l with
    |none=>simp[ur,an] at h
    |some v2=>
     simp only[ur,an] at h;split at h
     ·cases h
      obtain⟨i,k⟩:=Ul g n c (K:=frozen d w.heap.size w1) (λ_ _ _ h=>VJ h) (λb o v h=>by
       unfold frozen at h;split at h
       ·rename_i x a;cases h;exact⟨c.cells b o _ a,c.one b o _ a⟩
       ·split at h
        ·split at h
         ·rename_i x a;split at h
          ·rename_i j;cases h;exact⟨a,j⟩
          ·cases h
         ·cases h
        ·cases h) (λb o hb=>by
       unfold frozen
       cases d.cells b o with
       |some x=>rfl
       |none=>simp;omega)
      exact⟨_,i,k,aai c rfl 1000 l _ u ur m⟩
     ·cases h
  ·cases h
 ·cases h
def Mq{k}:∀{args as:List AV} {us:List Value} {id:Nat},gN k args=some (id,as)->aw σ args us->∃b,σ.loc id=some b/\∀c:St,(∀b o v,σ.cells b o=some v->c.cells b o=some v)->c.loc k=some b->aw c as us
 |[],as,us,id,h,_=>by simp[gN] at h
 |a::r,as,us,id,h,m=>by
  rw[aw.eC] at m;obtain⟨u,n,rfl,i,l⟩:=m;by_cases f:a.aq=true
  ·have e:gN k (a::r)=an (gN k r) λp=>some (p.1,a::p.2):=by
    cases a<;>(try simp[AV.aq] at f)<;>simp[gN,AV.aq,f]
   rw[e] at h
   cases gX:gN k r with
   |none=>simp[gX,an] at h
   |some p=>obtain⟨gg,KF⟩:=p;simp[gX,an] at h;obtain⟨rfl,rfl⟩:=h;obtain⟨b,j,q⟩:=Mq gX l;exact⟨b,j,λc d g=>aw.eC.2 ⟨u,n,rfl,ah.aq d _ _ f i,q c d g⟩⟩
  ·have e:∃gg off,a=.ptr gg off/\off=0:=by
    cases a with
    |ptr gg off=>
     cases off with
     |zero=>exact⟨gg,0,rfl,rfl⟩
     |succ off=>simp[gN,AV.aq] at h
    |_=>simp[gN,f] at h
   obtain⟨gg,off,rfl,rfl⟩:=e;simp only[gN] at h;split at h
   ·rename_i hg;cases h;simp[ah] at i;obtain⟨b,j,rfl⟩:=i;refine⟨b,j,λc d g=>aw.eC.2 ⟨_,n,rfl,?_,aw.aq d _ _ hg l⟩⟩;simp only[ah];exact⟨b,g,rfl⟩
   ·cases h
def VM{k d}:∀{args as KF:List AV} {id gg:Nat},gN k args=some (id,as)->gN d args=some (gg,KF)->id=gg
 |[],_,_,_,_,h,_=>by simp[gN] at h
 |a::r,as,KF,id,gg,h,b=>by
  by_cases c:a.aq=true
  ·have e:∀k,gN k (a::r)=an (gN k r) λp=>some (p.1,a::p.2):=λk=>by
    cases a<;>(try simp[AV.aq] at c)<;>simp[gN,AV.aq,c]
   rw[e] at h b
   cases gX:gN k r with
   |none=>simp[gX,an] at h
   |some p=>
    cases Rk:gN d r with
    |none=>simp[Rk,an] at b
    |some f=>simp[gX,an] at h;simp[Rk,an] at b;rw[<-h.1,<-b.1];exact VM (as:=p.2) (KF:=f.2) gX Rk
  ·cases a with
   |ptr id0 off=>
    cases off with
    |zero=>
     simp only[gN] at h b;split at h
     ·rename_i hg;rw[ν hg] at b;simp at h b;rw[<-h.1,<-b.1]
     ·cases h
    |succ off=>simp[gN,AV.aq] at h
   |_=>simp[gN,c] at h
def Wz(d:aW P B W0 H σ w){S:Nat->Prop}{g:Nat->Prop}(u:∀k,g k↔k<w.heap.size/\∀id x,S id->H.get id=some x->aS σ id x≠some k){mU c:St}{w1}{L H':ab}
  (n:mU.cells=σ.cells) (q:Ext g mU c) (m:aW P g w L c w1) (Q:H'.next=H.next) (F:∀id,¬S id->H'.get id=H.get id)
  (r:∀id x',S id->H'.get id=some x'->∃x,H.get id=some x/\aS σ id x=aS σ id x'/\tN P B {cells:=c.cells,loc:=σ.loc,own:=σ.own} w1 id x'):
  Ext B σ {cells:=c.cells,loc:=σ.loc,own:=σ.own}/\aW P B W0 H' {cells:=c.cells,loc:=σ.loc,own:=σ.own} w1:=by
 have j:∀k,B k->g k:=λk t=>(u k).2 ⟨d.size k t,λid x _ a e=>by
  obtain⟨b,hb,O,_⟩:=(d.obj id x a).aS;rw[hb] at e;cases e
  exact O t⟩
 have l:σ.le {cells:=c.cells,loc:=σ.loc,own:=σ.own}:=⟨λb o v h=>q.le.cells b o v (by rw[n];exact h),λ_ _ h=>h,λ_ _ _ h=>h⟩
 have f:∀i x,H'.get i=some x->∃y,H.get i=some y/\aS σ i y=aS σ i x:=by
  intro i x a;by_cases hi:S i
  ·obtain⟨y,J,I,_⟩:=r i x hi a;exact⟨y,J,I⟩
  ·rw[F i hi] at a;exact⟨x,a,rfl⟩
 have C:∀i x,aS {cells:=c.cells,loc:=σ.loc,own:=σ.own} i x=aS σ i x:=λi x=>by cases x<;>rfl
 refine⟨⟨l,λb o hb=> ?_⟩,d.below.trans (m.below.mono j),d.base,m.cells,m.one,λi hi=>d.fresh i (by rw[<-Q];exact hi),λi x a=>ab.eg a,λi x a=> ?_,λi D x x' a M s=> ?_⟩
 ·show c.cells b o=σ.cells b o;rw[q.old b o (j b hb),n]
 ·by_cases hi:S i
  ·obtain⟨y,_,_,N⟩:=r i x hi a;exact N
  ·rw[F i hi] at a;have z:=d.obj i x a;refine z.bU l (λb hb=> ?_) (λ_=>rfl);obtain⟨b',A,_,V⟩:=z.aS;rw[hb] at A;cases A;have E:g b:=(u b).2 ⟨V,λid y T p e=>hi (by rw[<-d.inj id i y x p a (by rw[e,hb])];exact T)⟩;refine⟨m.below.block b E,λo=> ?_⟩;show c.cells b o=σ.cells b o;rw[q.old b o E,n]
 ·obtain⟨y,p,R⟩:=f i x a;obtain⟨K,G,U⟩:=f D x' M;rw[C,C] at s;exact d.inj i D y K p G (by rw[R,U,s])
def Yi(c:aW P B W0 H σ w){S:Nat->Prop}{g:Nat->Prop}(d:∀k,g k↔k<w.heap.size/\∀id x,S id->H.get id=some x->aS σ id x≠some k):wQ P g w:=
 ⟨λk a=>((d k).1 a).1,λb2 o p a=>by
  obtain⟨f,_⟩:=c.base.vC b2 o p a;refine⟨(d b2).2 ⟨c.size b2 f,λid x _ i e=> ?_⟩,(c.xZ.vC b2 o p a).2⟩;obtain⟨b,hb,h,_⟩:=(c.obj id x i).aS;rw[hb] at e;cases e
  exact h f⟩
def agC(d:aW P B W0 H σ w)(G:dN P call){f:FuncId}{args as:List AV}{us:List Value}{v:AV}{id:Nat}{te p:Option TypeId}{cs r:List AV}(T:aw σ args us)(gX:gN 0 (args.map AV.erase)=some (id,as))
  (l:H.get id=some (.cells te cs)) (O:AV.aq.go (cs.map AV.bare)=true) (h:oD call f as te (cs.map AV.bare)=some (v,p,r)):
  kG P f/\Calls P f us.toArray w (λe w'=>∃u,e=.returned u/\kJ P B W0 σ v (H.set id (.cells p r)) u w'):=by
 unfold oD at h;split at h
 ·rename_i v1 H1 t;split at h
  ·rename_i C R U;split at h
   ·rename_i vJ;obtain⟨L,z⟩:=vJ;simp at h;obtain⟨rfl,rfl,rfl⟩:=h;obtain⟨F,s⟩:=G _ _ _ _ _ t;refine⟨F,?_⟩;obtain⟨b,hb,J⟩:=Mq gX T.erase;obtain⟨b',c,e,o,q2,I,Q,M,D⟩:=d.obj id _ l;rw[hb] at o;cases o;let mU:St:={cells:=σ.cells,loc:=λi=>if i=0 then some b else none,own:=λ_ _=>none};let j:Nat->Prop:=λk=>k<w.heap.size/\∀i x,i=id->H.get i=some x->aS σ i x≠some k;have n:∀k,j k↔k<w.heap.size/\∀i x,i=id->H.get i=some x->aS σ i x≠some k:=λ_=>Iff.rfl;have W:¬j b:=λA=>A.2 id _ rfl l hb
    have E:aW P j w {next:=1,jx:=[(0,.cells te (cs.map AV.bare))]} mU w:=by
     refine⟨gL.refl _ _,Yi d n,d.cells,d.one,λi hi=>⟨?_,λ_=>rfl⟩,λi x a=>ab.eg a,?_,?_⟩
     ·show(if i=0 then some b else none)=none;rw[κ];rintro rfl;exact absurd hi ai
     ·intro i x a;have hi:i=0:=by have:=ab.eg a;simp at this;omega
      subst hi;simp[ab.get,cq,ν,Nat.zero_lt_one] at a;subst a;exact⟨b,c,e,rfl,W,I,aw.aq (σ:=σ) (aR:=mU) (λ_ _ _ h=>h) _ _ O Q.bare,M,D⟩
     ·intro i i' x x' a V _;have hi:i=0:=by have:=ab.eg a;simp at this;omega
      have X:i'=0:=by have:=ab.eg V;simp at this;omega
      rw[hi,X]
    refine(s j w mU w us E (J mU (λ_ _ _ h=>h) rfl)).mono ?_;rintro e1 w1 ⟨u,rfl,g,q,m,Z⟩;obtain⟨b2,c2,K,p1,p2,p3,p4,p5,p6⟩:=m.obj 0 _ U;have N:b2=b:=by have:=q.le.loc 0 b rfl;rw[this] at p1;cases p1;rfl
    subst N
    obtain⟨y,Y⟩:=Wz d (S:=(·=id)) n (mU:=mU) rfl q m (H':=H.set id (.cells C (R.map AV.bare))) rfl (λi hi=>by rw[ab.ec,κ (λe=>hi e.symm)]) (by
     rintro i x' rfl a;rw[ab.ec,ν rfl,l] at a;simp at a;subst a
     exact⟨_,l,rfl,b2,c2,K,hb,q2,p3,aw.aq (σ:=g) (aR:={cells:=g.cells,loc:=σ.loc,own:=σ.own}) (λ_ _ _ h=>h) _ _ z p4.bare,p5,p6⟩)
    exact⟨u,rfl,_,y,Y,ah.aq (σ:=g) (aR:={cells:=g.cells,loc:=σ.loc,own:=σ.own}) (λ_ _ _ h=>h) _ _ L Z.erase⟩
   ·cases h
  ·cases h
 ·cases h
def agD(j:aW P B W0 H σ w)(hc:dN P call){f:FuncId}{args as:List AV}{us:List Value}{v:AV}{id a:Nat}{tb Q te T:Option TypeId}{cs Z:List AV}(hr:aw σ args us)(gX:gN 1 (args.map AV.erase)=some (id,as))
  (m:H.get id=some (.cells tb [.ptr a 0])) (r:H.get a=some (.cells te cs)) (M:a≠id) (gQ:AV.aq.go (cs.map AV.bare)=true) (h:oA call f as tb te (cs.map AV.bare)=some (v,Q,T,Z)):
  kG P f/\Calls P f us.toArray w (λe w'=>∃u,e=.returned u/\kJ P B W0 σ v ((H.set a (.cells T Z)).set id (.cells Q [.ptr a 0])) u w'):=by
 unfold oA at h;split at h
 ·rename_i v1 H1 rD;split at h
  ·rename_i J F0 F1 D P6;split at h
   ·rename_i vJ;obtain⟨uq,oR⟩:=vJ;simp at h;obtain⟨rfl,rfl,rfl,rfl⟩:=h;obtain⟨h1,h2⟩:=hc _ _ _ _ _ rD;refine⟨h1,?_⟩;obtain⟨g,t,jz⟩:=Mq gX hr.erase;obtain⟨bb',cb,eb,R,g2,g3,O,g5,g6⟩:=j.obj id _ m;rw[t] at R;cases R;obtain⟨b,c,e,n,q2,q3,q4,q5,q6⟩:=j.obj a _ r;have p:b≠g:=by rintro rfl;exact M (j.inj a id _ _ r m (by show σ.loc a=σ.loc id;rw[n,t]))
    let mU:St:={cells:=σ.cells,loc:=λi=>if i=0 then some b else if i=1 then some g else none,own:=λ_ _=>none};let q:Nat->Prop:=λk=>k<w.heap.size/\∀i x,(i=id\/i=a)->H.get i=some x->aS σ i x≠some k;have N:∀k,q k↔k<w.heap.size/\∀i x,(i=id\/i=a)->H.get i=some x->aS σ i x≠some k:=λ_=>Iff.rfl;have yW:¬q b:=λE=>E.2 a _ (.inr rfl) r n;have C:¬q g:=λE=>E.2 id _ (.inl rfl) m t
    have G:∀i x,(ab.get {next:=2,jx:=[(1,.cells tb [.ptr 0 0]),(0,.cells te (cs.map AV.bare))]} i=some x)->(i=1/\x=.cells tb [.ptr 0 0])\/(i=0/\x=.cells te (cs.map AV.bare)):=by
     intro i x d;have hi:i=0\/i=1:=by have:=ab.eg d;simp at this;omega
     rcases hi with rfl|rfl
     ·simp[ab.get,cq] at d;exact .inr ⟨rfl,d.symm⟩
     ·simp[ab.get,cq] at d;exact .inl ⟨rfl,d.symm⟩
    have jZ:aW P q w {next:=2,jx:=[(1,.cells tb [.ptr 0 0]),(0,.cells te (cs.map AV.bare))]} mU w:=by
     refine⟨gL.refl _ _,Yi j N,j.cells,j.one,λi hi=>⟨?_,λ_=>rfl⟩,λi x d=>ab.eg d,?_,?_⟩
     ·have fK:2<=i:=hi;show(if i=0 then some b else if i=1 then some g else none)=none;rw[bV,bV]
     ·intro i x d;rcases G i x d with⟨rfl,rfl⟩|⟨rfl,rfl⟩
      ·refine⟨g,cb,eb,rfl,C,g3,?_,g5,g6⟩;rw[aw.eC] at O⊢;obtain⟨u,dW,X,s,z⟩:=O;refine⟨u,dW,X,?_,by rw[aw.pO] at z⊢;exact z⟩;simp[ah] at s⊢;obtain⟨b3,K,rfl⟩:=s;rw[n] at K;cases K;exact⟨b,rfl,rfl⟩
      ·exact⟨b,c,e,rfl,yW,q3,aw.aq (σ:=σ) (aR:=mU) (λ_ _ _ h=>h) _ _ gQ q4.bare,q5,q6⟩
     ·intro i i' x x' d qM l;rcases G i x d with⟨rfl,rfl⟩|⟨rfl,rfl⟩<;>rcases G i' x' qM with⟨rfl,rfl⟩|⟨rfl,rfl⟩
      ·rfl
      ·have l:some g=some b:=l;cases l;exact absurd rfl p
      ·have l:some b=some g:=l;cases l;exact absurd rfl p
      ·rfl
    refine(h2 q w mU w us jZ (jz mU (λ_ _ _ h=>h) rfl)).mono ?_;rintro X w1 ⟨u,rfl,y,I,A,dy⟩;obtain⟨b2,c2,e2,p1,p2,p3,p4,p5,p6⟩:=A.obj 0 _ P6;have i_:b2=b:=by have:=I.le.loc 0 b rfl;rw[this] at p1;cases p1;rfl
    subst i_;obtain⟨U,c4,e4,L,y2,y3,V,y5,y6⟩:=A.obj 1 _ D;have KG:U=g:=by have:=I.le.loc 1 g rfl;rw[this] at L;cases L;rfl
    subst KG
    obtain⟨s,z⟩:=Wz j (S:=λi=>i=id\/i=a) N (mU:=mU) rfl I A (H':=(H.set a (.cells F0 (F1.map AV.bare))).set id (.cells J [.ptr a 0])) rfl
     (λi hi=>by rw[ab.ec,κ (λe=>hi (.inl e.symm)),ab.ec,κ (λe=>hi (.inr e.symm))]) (by
     intro i x' hi d;rw[ab.ec] at d;by_cases hid:id=i
     ·subst hid;rw[ν rfl,ab.ec,κ M,m] at d;simp at d;subst d;refine⟨_,m,rfl,U,c4,e4,t,g2,y3,?_,y5,y6⟩;rw[aw.eC] at V⊢;obtain⟨u4,F,f1,W,Y⟩:=V;refine⟨u4,F,f1,?_,by rw[aw.pO] at Y⊢;exact Y⟩;simp[ah] at W⊢;obtain⟨b5,o,rfl⟩:=W;rw[p1] at o;cases o;exact⟨b2,n,rfl⟩
     ·rw[κ hid] at d;have KE:i=a:=hi.resolve_left (λe=>hid e.symm);subst KE;rw[ab.ec,ν rfl,r] at d;simp at d;subst d
      exact⟨_,r,rfl,b2,c2,e2,n,q2,p3,aw.aq (σ:=y) (aR:={cells:=y.cells,loc:=σ.loc,own:=σ.own}) (λ_ _ _ h=>h) _ _ oR p4.bare,p5,p6⟩)
    exact⟨u,rfl,_,s,z,ah.aq (σ:=y) (aR:={cells:=y.cells,loc:=σ.loc,own:=σ.own}) (λ_ _ _ h=>h) _ _ uq dy.erase⟩
   ·cases h
  ·cases h
 ·cases h
def Mr{c}{f}{args:List AV}{H:ab}{r}(b:yk c f args H=some r):
  (∃id as te cs x,gN 0 (args.map AV.erase)=some (id,as)/\(gN 1 (args.map AV.erase)).isSome=true/\H.get id=some (.cells te cs)/\(∀a,cs≠[.ptr a 0])/\AV.aq.go (cs.map AV.bare)=true/\oD c f as te (cs.map AV.bare)=some x/\r=(x.1,H.set id (.cells x.2.1 x.2.2)))\/
  (∃id a as tb te cs x,(gN 0 (args.map AV.erase)).map (·.1)=some id/\gN 1 (args.map AV.erase)=some (id,as)/\H.get id=some (.cells tb [.ptr a 0])/\H.get a=some (.cells te cs)/\a≠id/\AV.aq.go (cs.map AV.bare)=true/\
   oA c f as tb te (cs.map AV.bare)=some x/\r=(x.1,(H.set a (.cells x.2.2.1 x.2.2.2)).set id (.cells x.2.1 [.ptr a 0]))):=by
 unfold yk at b;split at b
 ·rename_i id as gg j h g;have hid:=VM h g;subst hid;split at b
  ·rename_i tb a l;split at b
   ·rename_i te cs i;split at b
    ·rename_i d;refine .inr ?_
     cases hx:oA c f j tb te (cs.map AV.bare) with
     |none=>simp[hx,an] at b
     |some x=>simp[hx,an] at b;exact⟨id,a,j,tb,te,cs,x,by rw[h];rfl,g,l,i,d.1,d.2,hx,b.symm⟩
    ·cases b
   ·cases b
  ·rename_i te cs k i;split at b
   ·rename_i d;refine .inl ?_
    cases hx:oD c f as te (cs.map AV.bare) with
    |none=>simp[hx,an] at b
    |some x=>simp[hx,an] at b;exact⟨id,as,te,cs,x,h,by rw[g];rfl,i,λa e=>k a e,d,hx,b.symm⟩
   ·cases b
  ·cases b
 ·cases b
def aeR(a:dN P call){f:FuncId}{as:List AV}{te:Option TypeId}{cs:List AV}{x:AV×Option TypeId×List AV}(h:oD call f as te cs=some x):kG P f:=by
 unfold oD at h;split at h
 ·rename_i b;exact(a _ _ _ _ _ b).1
 ·cases h
def aet(a:dN P call){f:FuncId}{as:List AV}{tb te:Option TypeId}{cs:List AV}{x:AV×Option TypeId×Option TypeId×List AV}(h:oA call f as tb te cs=some x):kG P f:=by
 unfold oA at h;split at h
 ·rename_i b;exact(a _ _ _ _ _ b).1
 ·cases h
def agE(a:dN P call)(io:FuncId->Bool):dN P (rf io call):=by
 intro f args H v H' h;unfold rf at h;split at h
 ·rcases Mr h with⟨id,as,te,cs,x,g,_,d,_,i,b,c⟩|⟨id,pid,as,tb,te,cs,x,_,g,d,i,b,c,k,l⟩
  ·simp at c;obtain⟨rfl,rfl⟩:=c;exact⟨aeR a b,λB W0 σ w us j e=>(agC j a e g d i b).2⟩
  ·simp at l;obtain⟨rfl,rfl⟩:=l;exact⟨aet a k,λB W0 σ w us j e=>(agD j a e g d i b c k).2⟩
 ·exact a _ _ _ _ _ h
def Um{f:FuncId}(h:kG P f)(args):(callFunc f args).run P w=.ok (.enter f args) w:=by obtain⟨fn,a,b,c⟩:=h;simp only[callFunc,Τ,run_program,Γ,a,b,c,τ,aDf];rfl
def Uy{a}{f}{first cap}{u}(h:target a=some (f,first,cap))(r:ah σ a u):∃us b:List Value,u=.func (.func f) us.toArray b.toArray/\aw σ first us/\aw σ cap b:=by
 unfold target at h;split at h
 ·simp at h;obtain⟨rfl,rfl,rfl⟩:=h;simpa[ah] using r
 ·cases h
def WA{o:Oper}{c:Call}{x}{ρ}(b:o.op=.call c)(d:c.callee=.value x){f:FuncId}{us a:List Value}(g:ρ x=.func (.func f) us.toArray a.toArray)(e:kG P f):
  (execOp ρ o).run P w=.ok (.enter f (us++c.args.toList.map ρ++a).toArray) w:=by
 obtain⟨dst,op,ty,pos,after,guard⟩:=o;simp only at b;subst b;obtain⟨cal,as,dV⟩:=c;simp only at d;subst d;simp only[execOp,resolve,Deferred.ofValue,g,Τ,atG,Γ,invoke,Um e];congr 2;apply aE7;simp
def aeb(c:aW P B W0 H σ w){dst}{ty}{pos}{after}{guard}{t}{len}{parts:Array (Nat×Operand)}{a:Operand->AV}
  {ρ:Operand->Value} {v:AV} {H':ab} (h:dS P t len (parts.toList.map λp=>(p.1,a p.2)) H=some (v,H')) (d:∀p∈parts.toList,ah σ (a p.2) (ρ p.2)):
  fc P ((execOp ρ {dst:=dst,op:=.buildSlice t len parts,type:=ty,pos:=pos,after:=after,guard:=guard}).run P w) (kJ P B W0 σ v H'):=by
 have b:aw σ ((parts.toList.map λp=>(p.1,a p.2)).map (·.2)) ((parts.map λp=>(p.1,ρ p.2)).toList.map (·.2)):=by simp[aFn,aEz];exact aw.map (λp:Nat×Operand=>a p.2) (λp=>ρ p.2) parts.toList d
 simp only[execOp];have key:=ad6 (us:=parts.map λp=>(p.1,ρ p.2)) c ai b h;exact key
def aW.avW(a:aW P B W0 H σ w){b}{w':World}(hb:∀k,k≠b->w'.heap[k]? =w.heap[k]?)(i:∀o,w'.cell? ⟨b,o,none⟩=w.cell? ⟨b,o,none⟩)(f:gL B W0 w')(j:∀id y,H.get id=some y->aS σ id y≠some b):
  aW P B W0 H σ w':=by
 refine⟨f,a.base,λc o v h=> ?_,a.one,a.fresh,a.keys,λid x d=> ?_,a.inj⟩
 ·by_cases e:c=b
  ·subst e;rw[i];exact a.cells _ o v h
  ·rw[cell_of_heap (hb c e)];exact a.cells c o v h
 ·refine(a.obj id x d).bU σ.le_refl (λc g=>⟨hb c ?_,λ_=>rfl⟩) (λ_=>rfl);rintro rfl;exact j id x d g
def gv.length:∀{es:List (AV×AV×Nat)} {ms:List MapEntry},gv σ es ms->ms.length=es.length
 |[],ms,h=>by simp[gv] at h;subst h;rfl
 |(k,v,b)::es,ms,h=>by simp[gv] at h;obtain⟨m,sT,rfl,r1,r2,r3,a⟩:=h;simp[a.length]
def agF{dV}(h:yE P dV=true):∃t a et,dV[0]? =some t/\P.underlying t=some (.map a et):=by
 unfold yE at h;split at h
 ·rename_i t b;obtain⟨⟨a,et⟩,hm⟩:=Option.isSome_iff_exists.1 h;exact⟨t,a,et,b,MM hm⟩
 ·cases h
def agG(d:aW P B W0 H σ w){dV}{ty}{args}{us:Array Value}{v}{H'}(c:aw σ args us.toList)(h:tO P dV args H=some (v,H')):
  fc P ((do pure (Next.value (<-Builtin.len_ dV ty us)):Sem Next).run P w) (kJ P B W0 σ v H'):=by
 unfold tO at h;split at h
 ·rename_i id;split at h
  ·rename_i hm;obtain⟨t,kt,et,k,e⟩:=agF hm;split at h
   ·rename_i es clock hg;cases h;obtain⟨b,ms,hb,_,i,j,_⟩:=d.obj id _ hg;obtain⟨us⟩:=us;simp only at c;rw[aw.eC] at c;obtain⟨u,dW,rfl,r,q⟩:=c;rw[aw.pO] at q;subst q;simp[ah] at r;obtain⟨b',f,rfl⟩:=r;rw[hb] at f;cases f;have l:(Builtin.len_ dV ty #[.map (some b)]).run P w=.ok (.int .i64 (es.length:Nat)) w:=by have a:=j.length;simp[aDv] at a;simp[Builtin.len_,k,eB e,aEd i,goInt,a]
    simp[Τ,l,Γ,atG,fc];exact⟨σ,Ext.refl _ _,d,by simp[ah]⟩
   ·cases h
  ·cases h
 ·cases a:gD P dV args with
  |none=>simp[a,an] at h
  |some v0=>simp[a,an] at h;obtain⟨rfl,rfl⟩:=h;obtain⟨u,e,g⟩:=Ww (P:=P) (w:=w) (ty:=ty) c a;rw[e];exact⟨σ,Ext.refl _ _,d,g⟩
def Ug:∀l:List UInt8,fF 1 (l.map λx=>AV.int .u8 x.toNat)=true
 |[]=>rfl
 |x::l=>by simp only[aDm,fF,AV.width,Ug l];rfl
def Uo:∀l:List UInt8,(l.map λx=>AV.int .u8 x.toNat).flatMap AV.cells=l.map λx=>AV.int .u8 x.toNat
 |[]=>rfl
 |x::l=>by simp only[aDm,ap1,AV.cells,Uo l];rfl
def DX{E:Env}(d:aW E.P B W0 H σ w)(F:dN E.P call)(o:Oper)(kx)(ρ:Operand->Value)(b:∀x∈o.op.operands,ah σ (kx x) (ρ x)){v:AV}{H':ab}
  (h:bz E call o.op kx H=some (v,H')):fc E.P ((execOp ρ o).run E.P w) (kJ E.P B W0 σ v H'):=by
 have C:∀{v:AV},lF E.P o.op kx H=some v->fc E.P ((execOp ρ o).run E.P w) (kJ E.P B W0 σ v H):=λ{v} g=>by obtain⟨u,j,T⟩:=aeq d o kx ρ b g;rw[j];exact⟨σ,Ext.refl _ _,d,T⟩
 have z:∀{v:AV} {H':ab},(an (lF E.P o.op kx H) λv=>some (v,H))=some (v,H')->fc E.P ((execOp ρ o).run E.P w) (kJ E.P B W0 σ v H'):=λ{v H'} hb=>by
  cases g:lF E.P o.op kx H with
  |none=>simp[g,an] at hb
  |some V=>simp only[g,an,Ζ,aDS] at hb;obtain⟨rfl,rfl⟩:=hb;exact C g
 obtain⟨dst,op,ty,pos,after,guard⟩:=o;simp only at h b z;cases op;case alloc t=>simp only[bz] at h;simp only[execOp];exact aeP d h
 case box t x=>simp only[bz] at h;simp only[execOp];exact agA d (b x (by simp[Op.operands])) h
 case store t a x=>simp only[bz] at h;simp only[execOp];exact aeQ d (b a (by simp[Op.operands])) (b x (by simp[Op.operands])) h
 case buildSlice t len parts=>
  simp only[bz] at h;refine aeb d h λp g=>b p.2 ?_;simp only[Op.operands];simp;exact⟨p.1,by simpa using g⟩
 case makeMap t r=>
  simp only[bz] at h
  cases r with
  |none=>simp only[Ζ] at h;simp only[execOp];have:=aei d t;rw[h] at this;exact this
  |some _=>simp at h
 case mapUpdate t m k x=>simp only[bz] at h;simp only[execOp];exact Uc d (b m (by simp[Op.operands])) (b k (by simp[Op.operands])) (b x (by simp[Op.operands])) h
 case insert t m k x=>simp only[bz] at h;simp only[execOp];exact Uc d (b m (by simp[Op.operands])) (b k (by simp[Op.operands])) (b x (by simp[Op.operands])) h
 case call c=>
  simp only[bz] at h
  have i:aw σ (c.args.toList.map kx) (c.args.toList.map ρ):=
   aw.map _ _ _ λx O=>b x (by
    simp only[Op.operands,Call.operands]
    exact aFJ.2 (.inr (by simpa using O)))
  unfold tq at h;split at h
  ·rename_i x e;have s:ah σ (kx x) (ρ x):=b x (by simp[Op.operands,Call.operands,e]);unfold dX at h;split at h
   ·rename_i f first cap K
    obtain⟨us,vs,j,J,Q⟩:=Uy K s;have D:=(J.append i).append Q;split at h
    ·cases bC:aI E.P call f (first++c.args.toList.map kx++cap) with
     |none=>simp only[bC,an,reduceCtorEq] at h
     |some V=>simp only[bC,an,Ζ,aDS] at h;obtain⟨rfl,rfl⟩:=h;obtain⟨n,l⟩:=GN d F D bC;rw[WA rfl e j n];exact l
    ·obtain⟨n,l⟩:=agE F E.io _ _ _ _ _ h;rw[WA rfl e j n];exact l B W0 σ w _ d D
   ·cases h
  ·rename_i e;unfold cQ at h;split at h
   ·rename_i x y M I R A;rw[R] at i;rw[aw.eC] at i;obtain⟨u,dW,S,s,q⟩:=i;rw[aw.eC] at q;obtain⟨L,Df,rfl,N,G⟩:=q;rw[aw.pO] at G;subst G;have:=aes (ty:=ty) d s N h;have U:c.args.map ρ=#[u,L]:=by apply aE7;simp[S]
    have et:c.argTypes=#[M,I]:=by apply aE7;simp[A]
    simpa[execOp,resolve,e,invoke,builtin,U,et] using this
   ·cases h
  ·rename_i e;have:=agG (ty:=ty) (us:=c.args.map ρ) d (by simpa only[aFn] using i) h;simpa[execOp,resolve,e,invoke,builtin] using this
  ·exact z h
 all_goals(simp only[bz] at h;with_reducible exact z h)
end
end Go.Ab
