/- LintCalls: part 23 of its proof. -/
import Derived.Test.YtmehamiifalmaaaGreatDoorG20
set_option linter.all false
namespace Go.Proofs.YtmehamiifalmaaaGreatDoor
open Go Go.Ab Go.Proofs.Tryz
def I5:bF prog 51=some 4:=af
def abi:hC prog 51=some [(0,49),(2,49)]:=af
def ayb:dq prog 51=some [.str [],.i 0,.str [],.i 0]:=af
def auD:jF prog 51=some [(0,2),(2,2)]:=af
def apc(x0 x1 x2 x3):cr prog 51 0 (.rptr [x0,x1,x2,x3])=some (.rptr [x0,x1,x2,x3]):=by simp[cr,abi,Ap]
def apd(x0 x1 x2 x3):cr prog 51 1 (.rptr [x0,x1,x2,x3])=some (.rptr [x2,x3]):=by simp[cr,abi,Ap]
def auE:=lI ayb auD
def auF:bF prog 45=some 1:=af
def ape:cu prog 45=some false:=af
def abj:=kW ape
def I6:eW prog 45=some 51:=af
def apf:=mJ I6
def auG:jN prog 51=some 48:=af
def auH:dq prog 51=some [.str [],.i 0,.str [],.i 0]:=af
def ZR:iZ prog 45 51 4 48:=⟨I6,I5,auG,⟨_,auH,rfl⟩,aA⟩
def ayc:dq prog 45=some [.vec .nil []]:=af
def auI:=nW ayc
def I7:eW prog 52=some 49:=af
def apg:=mJ I7
def auJ:jN prog 49=some 24:=af
def auK:dq prog 49=some [.str [],.i 0]:=af
def EL:iZ prog 52 49 2 24:=⟨I7,Ap,auJ,⟨_,auK,rfl⟩,aA⟩
def ZS:AM prog 117=some (44,4):=af
attribute [go_sem] I5 apc apd auE auF abj apf auI apg
end Go.Proofs.YtmehamiifalmaaaGreatDoor
namespace Go.Ab
open Go
section
variable {T:Type} {P:Program} {t et:TypeId} {s b:Nat} {c:T->List AV} {g:T->AV} {ag:Bool}
def GT.is(a:GT P t et s b c g ag)(x:T):(if ag=true then AV.agg (c x) else(c x).headD .rK)=g x:=by have h:=a.ch [x];rw[ap1,List.flatMap_nil,aDi] at h;simp only[Ι,Χ,nT,aDm,aEr,List.cons.injEq] at h;rw[aEs (by rw[a.len];exact μ _)] at h;exact h.1
def GT.ld(a:GT P t et s b c g ag){l:List T}{i:Nat}{x:T}(h:l[i]? =some x):iM P et (l.flatMap c) (s*i)=some (g x):=by
 have hi:=a.is x
 cases lq:ag with
 |true=>rw[lq] at hi;have d:=a.agg;rw[lq] at d;rw[Jr a.len (λcs off=>nj d a.app.sz cs off) h];exact Λ some hi
 |false=>
  rw[lq] at hi;have d:=a.agg;rw[lq] at d;have hs:s=1:=a.one.resolve_left (by rw[lq];simp);have e:=a.len x;rw[kW d];have:=adA a.len h (j:=0) (by omega);rw[aEp] at this;rw[this]
  cases hc:c x with
  |nil=>rw[hc] at e;simp at e;omega
  |cons y r=>rw[hc] at hi;simpa using hi
def ej.ix(a:GT P t et s b c g ag){H:ab}{v}{l:List T}(f:ej H et s c g v l){i:Nat}{x:T}(hi:l[i]? =some x):∃p,dC P t v (.i i)=some p/\kH P H et p=some (g x):=by
 rcases f with⟨rfl,rfl⟩|⟨y,rfl,rfl⟩|⟨h1,id,rfl,e⟩
 ·simp at hi
 ·have d:y=x:=by
   cases i with
   |zero=>simpa using hi
   |succ i=>simp at hi
  subst d;refine⟨_,oC a.app.el a.app.sz g .full (l:=[y]) hi (a.wid _),?_⟩;rw[VR,a.cells];have:=a.ld (l:=[y]) (i:=0) (x:=y) rfl;simpa using this
 ·refine⟨_,Fo a.app.el a.app.sz a.app.s0 (ο.1 hi).1,?_⟩;simp only[kH,e];exact a.ld hi
def ej.Sa(a:GT P t et s b c g ag){H:ab}{v}{l:List T}(d:ej H et s c g v l)(H2):tO P #[t] [v] H2=some (.i l.length,H2):=by
 rcases d with⟨rfl,rfl⟩|⟨y,rfl,rfl⟩|⟨h1,id,rfl,h3⟩
 ·rw[O3,mJ a.app.el];rfl
 ·rw[O3,mJ a.app.el];rfl
 ·rw[abW];simp[gD,a.app.el,an]
end
end Go.Ab
namespace Go.Proofs.YtmehamiifalmaaaGreatDoor
open Go Go.Ab Go.Proofs.Tryz
set_option maxRecDepth 100000
set_option maxHeartbeats 8000000
def QZ:List FuncId:=[27,56,86,58,59,28,9]
def aph:List FuncId:=[27,58,59,28,9,19,20,60]
noncomputable def dv:Env:={P:=prog,G:=λf=>QZ.contains f,cl:=λf=>aph.contains f,eX:=λt=>t==103,dyn:=λi=>i==14,df:=λ_=>false,ext:=bQ uZ (bf fh [19,20,60])}
def ayd:okF dv 27=true:=af
def aye:okF dv 56=true:=af
def ayf:okF dv 86=true:=af
def ayg:okF dv 58=true:=af
def ayh:okF dv 59=true:=af
def ayi:okF dv 28=true:=af
def aBw:okF dv 9=true:=af
def ayj:dv.P=prog:=(rfl)
def ayk:dv.eX=λt=>t==103:=(rfl)
attribute [go_sem] ayj ayk
def cG{f}(a:dv.cl f=true){args}{v}(h:aI prog (run dv) f args=some v)(H):bt dv f args H=some (v,H):=xQ a h H
def ZT:=ju dv 56 rfl rfl
def api:=ju dv 86 rfl rfl
noncomputable def J7:=f86.c.r.l.r.b.b
def mD{T:Type}{l:List T}{i}{x}{r}(b:l.drop i=x::r):l[i]? =some x/\i<l.length/\l.drop (i+1)=r:=by
 have a:l[i]? =some x:=by have:=Λ (·[0]?) b;simpa using this
 exact⟨a,(ο.1 a).1,by rw[<-List.drop_drop,b];rfl⟩
def abk{v}{l:List Int}{x:Int}{H:ab}(B:l.length<=1000000)(t:ej H 3 1 iC iA v l):∀r i α,l.drop i=r->i<=l.length->α 0=v->α 1=.i x->α 7=.i l.length->α 8=.i i->
  aD (aJ (aO dv J7) α H) λe u H'=>H'=H/\((e=.exit 0/\¬x∈r)\/(e=.ret/\x∈r/\∃j:Nat,u 4=.i j))
 |[],i,α,o,hi,h,g,d,f=>by
  have q:J7=.seq _ (.seq _ (.seq (.block _ (.seq _ (.seq _ _))) _)):=rfl;have n:i=l.length:=by have:=Κ.1 o;omega
  subst n;have m:=d_ (aDF l.length);rw[aG,q];simp only[go_sem,seval,d,f,m];exact⟨aK,.inl ⟨aK,ai⟩⟩
 |y::r,i,α,o,hi,h,g,d,f=>by
  have q:J7=.seq _ (.seq _ (.seq (.block _ (.seq _ (.seq _ _))) _)):=rfl;obtain⟨C,n,z⟩:=mD o;have m:=dM n;obtain⟨p,w,s⟩:=t.ix J4 C;rw[show iA y=.i y from rfl] at s;have w1:=f_ (i+1) (i+1:Nat);rw[aG,q]
  cases hq:(x==y) with
  |true=>
   have:x=y:=by simpa using hq
   subst this;simp only[go_sem,seval,h,g,d,f,m,w,s,hq];exact⟨aK,.inr ⟨aK,as1,i,by simp[go_sem]⟩⟩
  |false=>
   have A:x≠y:=λe=>by subst e;simp at hq
   simp only[go_sem,seval,h,g,d,f,m,w,s,hq,w1];refine aT ((λα=>abk B t (x:=x) r (i+1) α z aa) _ ?_ ?_ ?_ ?_) ?_
   case refine_5=>
    rintro e u H' ⟨k,⟨a,b⟩|⟨a,b,c⟩⟩
    ·exact⟨k,.inl ⟨a,λhm=>(Ν.1 hm).elim A b⟩⟩
    ·exact⟨k,.inr ⟨a,Η _ b,c⟩⟩
   all_goals simp[go_sem,h,g,d]
def age{v}{l:List Int}{H}(b:ej H 3 1 iC iA v l)(d:l.length<=1000000)(x:Int):run dv 56 [v,.i x] H=some (.bool (l.contains x),H):=by
 have a:∃z:Int,run dv 86 [v,.i x] H=some (.i z,H)/\decide (z≥0)=l.contains x:=by
  have m:=b.Sa J4
  have:∃r,run dv 86 [v,.i x] H=some r/\∃z:Int,r=(.i z,H)/\decide (z≥0)=l.contains x:=by
   refine g_ (c:=.seq _ (.seq (.seq _ (.block 0 (.loop J7))) _)) rfl rfl func86 rfl (by rw[ntmps86];simp) ?_;simp only[go_sem,seval,m];simp only[cg];refine bL (mG (abk d b (x:=x) l 0 _ rfl aa ?_ ?_ ?_ ?_)) ?_
   case refine_5=>
    rintro _ ⟨e,ae,H',rfl,rfl,⟨rfl,hm⟩|⟨rfl,hm,j,g⟩⟩
    ·simp only[go_sem,seval,results86];refine⟨_,rfl, -1,rfl,?_⟩
     have:l.contains x=false:=by
      cases hc:l.contains x with
      |false=>rfl
      |true=>exact(hm (Θ.1 hc)).elim
     rw[this];rfl
    ·simp only[go_sem,seval,g,results86];refine⟨_,rfl,j,rfl,?_⟩;rw[Θ.2 hm];exact bJ _
   all_goals simp[go_sem]
  obtain⟨r,h,z,rfl,n⟩:=this;exact⟨z,h,n⟩
 obtain⟨z,k,f⟩:=a;have:∃r,run dv 56 [v,.i x] H=some r/\r=(.bool (l.contains x),H):=by refine g_ (c:=.seq _ (.seq _ _)) rfl rfl func56 rfl (by rw[ntmps56];simp) ?_;simp[go_sem,api,k,f,results56]
 obtain⟨r,h,rfl⟩:=this;exact h
def lz(bs:List Bi)(f t:Nat)(x:Me):Option Nat:=match x.to with
 |some j=>match bs[j]? with
  |some b=>if f<=x.at_/\x.at_<t/\b.k<3 then some j else none
  |none=>none
 |none=>none
def uc(acc:List Int):Option Nat->List Int
 |some j=>if acc.contains (j:Int)=true then acc else acc++[(j:Int)]
 |none=>acc
def rV(bs:List Bi)(f t:Nat):List Int->List Me->List Int
 |acc,[]=>acc
 |acc,x::r=>rV bs f t (uc acc (lz bs f t x)) r
def akl(acc)(o):(uc acc o).length<=acc.length+1:=by
 cases o with
 |none=>exact awF _
 |some j=>
  show(if acc.contains (j:Int)=true then acc else acc++[(j:Int)]).length<=_;by_cases h:acc.contains (j:Int)=true
  ·rw[ν h];exact awF _
  ·rw[κ h];simp
noncomputable def LC:=f27.c.r.r.l.r.b.b
def PL{m:Mp}{bad:AV}{f t p3:Nat}(N:∀x∈m.ms,∀j,x.to=some j->j<m.bs.length)(X:m.bs.length+m.ms.length<=4000):∀r i acc v α H,m.ms.drop i=r->i+r.length=m.ms.length->acc.length<=i->ej H 3 1 iC iA v acc->(∃te,H.get p3=some (.c te [.vec (au m.bs.length) (m.bs.map a_),.vec (au m.ms.length) (m.ms.map cv),bad]))->
  α 1=.i f->α 2=.i t->α 3=.ptr p3 0->α 7=v->α 11=.vec (au m.ms.length) (m.ms.map cv)->α 12=.i m.ms.length->α 13=.i i->
  aD (aJ (aO dv LC) α H) λe ae H'=>e=.exit 0/\∃A,ej H' 3 1 iC iA A (rV m.bs f t acc r)/\ae 7=A
 |[],i,acc,v,α,⟨n,L⟩,Y,M,ha,O,K,a1,a2,a3,a7,g,d,l=>by have P:LC=.seq _ (.seq _ (.seq (.block _ (.seq _ (.seq _ _))) _)):=rfl;have o:=d_ (a:=i) (b:=m.ms.length) (by simp at M;omega);rw[aG,P];simp only[go_sem,seval,d,l,o];exact⟨aK,v,O,by simp[go_sem,a7]⟩
 |x::r,i,acc,v,α,⟨n,L⟩,Y,M,ha,O,⟨te,K⟩,a1,a2,a3,a7,g,d,l=>by
  have P:LC=.seq _ (.seq _ (.seq (.block _ (.seq _ (.seq _ _))) _)):=rfl;obtain⟨Z,hi,T⟩:=mD Y;simp at M;have o:=dM hi;have z:=aBo (au m.ms.length) Z;have w1:=fD i aa;obtain⟨z3,g3⟩:=aj.1 K;have w:=aF g3;have u:=aY (p3<n+1);have q:=aY (n<n+1);have s:=dw (n=p3);have kp:=Kw.push 3 1 ⟨n,L⟩ (.k 138 [.i x.at_,.i (dQ x.to),.bool x.wr,.i x.bD]);have I:ej ⟨n+1,(n,.k 138 [.i x.at_,.i (dQ x.to),.bool x.wr,.i x.bD])::L⟩ 3 1 iC iA v acc:=O.bU λk m cs E=>by obtain⟨U,G⟩:=aj.1 E;exact aj.2 ⟨aa,by rw[br,bV];exact G⟩
  have V:=kp.cells K;have ih:=λα=>PL (bad:=bad) (f:=f) (t:=t) (p3:=p3) N X r (i+1) acc v α ⟨n+1,(n,.k 138 [.i x.at_,.i (dQ x.to),.bool x.wr,.i x.bD])::L⟩ T aa aa I ⟨te,V⟩;rw[aG,P,rV];by_cases W:f<=x.at_
  ·have p:=bJ ((x.at_:Int)≥(f:Int));by_cases S:x.at_<t
   ·have y:=bJ ((x.at_:Int)<(t:Int))
    cases hj:x.to with
    |none=>
     have C:decide (dQ x.to≥0)=false:=by rw[hj];rfl
     have h:lz m.bs f t x=none:=by simp[lz,hj]
     rw[h];simp only[go_sem,seval,a1,a2,g,d,l,o,p,y,C,z,w,u,q,s,w1];refine ih _ ?_ ?_ ?_ ?_ ?_ ?_ ?_;all_goals simp[go_sem,a1,a2,a3,a7,g,d]
    |some j=>
     have C:decide (dQ x.to≥0)=true:=by rw[hj];simp[dQ]
     have J:dQ x.to=(j:Int):=by rw[hj];rfl
     obtain⟨b,hb⟩:=fG (N x (Β Z) j hj);have F:=yC (au m.bs.length) hb;rw[<-J] at F;by_cases E:b.k<3
     ·have D:=bJ ((b.k:Int)<3);have h:lz m.bs f t x=some j:=by simp[lz,hj,hb,W,S,E]
      have B:=age I (by omega) (dQ x.to);rw[show acc.contains (dQ x.to)=acc.contains (j:Int) by rw[J]] at B;rw[h]
      cases hc:acc.contains (j:Int) with
      |true=>
       rw[hc] at B;rw[uc,ν hc];simp only[go_sem,seval,a1,a2,a3,a7,g,d,l,o,p,y,C,D,z,F,w,u,q,s,w1,ZT,B,ω];refine ih _ ?_ ?_ ?_ ?_ ?_ ?_ ?_;all_goals simp[go_sem,a1,a2,a3,a7,g,d]
      |false=>
       rw[hc] at B;rw[uc,κ (by rw[hc];simp)];obtain⟨A,⟨Q,R⟩,U,G,q3⟩:=NL (m:=λt=>t==103) J4 rfl .full (dQ x.to) I aa aa;rw[J] at G;have j9:cj (λt=>t==103) prog 103 103 v (.vec .full [.i (dQ x.to)]) ⟨n+1,(n,.k 138 [.i x.at_,.i (dQ x.to),.bool x.wr,.i x.bD])::L⟩=some (A,⟨Q,R⟩):=U;have ih:=λα=>PL (bad:=bad) (f:=f) (t:=t) (p3:=p3) N X r (i+1) (acc++[(j:Int)]) A α ⟨Q,R⟩ T aa aX G ⟨te,q3.cells V⟩;simp only[go_sem,seval,a1,a2,a3,a7,g,d,l,o,p,y,C,D,z,F,w,u,q,s,w1,ZT,B,Α,ZO,cQ,j9];refine ih _ ?_ ?_ ?_ ?_ ?_ ?_ ?_;all_goals simp[go_sem,a1,a2,a3,a7,g,d]
     ·have D:=bP ((b.k:Int)<3);have h:lz m.bs f t x=none:=by simp[lz,hj,hb,E]
      rw[h];simp only[go_sem,seval,a1,a2,a3,g,d,l,o,p,y,C,D,z,F,w,u,q,s,w1];refine ih _ ?_ ?_ ?_ ?_ ?_ ?_ ?_;all_goals simp[go_sem,a1,a2,a3,a7,g,d]
   ·have y:=bP ((x.at_:Int)<(t:Int));have h:lz m.bs f t x=none:=by cases hj:x.to<;>simp[lz,hj];split<;>simp[S]
    rw[h];simp only[go_sem,seval,a1,a2,g,d,l,o,p,y,z,w,u,q,s,w1];refine ih _ ?_ ?_ ?_ ?_ ?_ ?_ ?_;all_goals simp[go_sem,a1,a2,a3,a7,g,d]
  ·have p:=bP ((x.at_:Int)≥(f:Int));have h:lz m.bs f t x=none:=by cases hj:x.to<;>simp[lz,hj];split<;>simp[W]
   rw[h];simp only[go_sem,seval,a1,a2,g,d,l,o,p,z,w,u,q,s,w1];refine ih _ ?_ ?_ ?_ ?_ ?_ ?_ ?_;all_goals simp[go_sem,a1,a2,a3,a7,g,d]
def NP(bs f t):∀(r:List Me) acc,(rV bs f t acc r).length<=acc.length+r.length
 |[],acc=>μ _
 |x::r,acc=>by have h1:=NP bs f t r (uc acc (lz bs f t x));have h2:=akl acc (lz bs f t x);rw[rV,Ι];omega
def apj{H}{v}{l:List Int}(h:ej H 3 1 iC iA v l)(c:l.length<=1099511627776):∃H',dX dv (run dv) (.fn (.func 57) [] []) [v] H=some (.tup [],H')/\ej H' 3 1 iC iA v (vA l)/\Kw 3 1 H H':=by obtain⟨H',a,b,d⟩:=XR (f0:=57) (rest:=(·.isEmpty)) (dec:=wO) (gJ:=vA) (r:=[]) h rfl (ZN l) (Hh l) c;refine⟨H',?_,b,d⟩;rw[tg rfl rfl,zS rfl];show bQ uZ (bf fh [19,20,60]) 57 [v] H=_;unfold bQ;have:uZ 57 [v] H=some (.tup [],H'):=a;rw[this]
def kh(m:Mp)(f t:Nat):List Int:=vA (rV m.bs f t [] m.ms)
def ahk(m:Mp)(bad)(f t:Nat)(b:∀x∈m.ms,∀j,x.to=some j->j<m.bs.length)(e:m.bs.length+m.ms.length<=4000):aI prog (run dv) 27 [mapA m bad,.i f,.i t]=some (.vec (au (kh m f t).length) ((kh m f t).map iA)):=by
 refine Vy (c:=.seq _ (.seq _ (.seq (.seq _ (.block 0 (.loop LC))) _))) rfl rfl func27 rfl (by rw[ntmps27];simp) (bW:=[mapA m bad,.i f,.i t]) (by simp[EI];exact⟨rfl,rfl⟩) ?_ ?_
 ·show((mapA m bad).aq&&_)=true;rw[yh];rfl
 have g:(m.ms.map cv).length=m.ms.length:=φ ..;simp only[go_sem,seval,ab.empty,mapA,adE,g,kZ];simp[cg];refine bL (dE (PL (m:=m) (bad:=.vec (au bad.length) (cw bad)) (f:=f) (t:=t) (p3:=0) b e m.ms 0 [] (.vec .nil []) _ _ rfl ai ai (.inl ⟨rfl,rfl⟩) ⟨none,rfl⟩ ?_ ?_ ?_ ?_ ?_ ?_ ?_)) ?_
 case refine_8=>
  rintro _ ⟨ae,H',rfl,v',d,k⟩;have a:=NP m.bs f t m.ms [];simp at a;obtain⟨H2,l,h,s3⟩:=apj d aa;simp only[go_sem,seval,k,l,results27];refine⟨_,_,rfl,?_⟩;exact aa7 J4 (λ_ _ _=>rfl) h
 all_goals simp[go_sem]
 all_goals(try rfl)
def J8{a b:Nat}(h:a≠b):((a:Int) != (b:Int))=true:=by
 have:(a:Int)≠(b:Int):=by omega
 simpa using this
noncomputable def LD:=f58.c.r.l.r.b.b
def abl{o}{l:List Tok}(f:wL l)(D:l.length<=4000){k:Nat}{x:Tok}(c:l[k]? =some x)(m:x.1≠0):∀d i α H,i+d=k->α 1=.i x.2.1->α 9=.vec o (V l)->α 10=.i l.length->α 11=.i i->
  aD (aJ (aO dv LD) α H) λe C H'=>e=.ret/\C 4=.i k
 |0,i,α,⟨n,L⟩,A,a1,h,bT,q=>by have v:LD=.seq _ (.seq _ (.seq (.block _ (.seq _ (.seq _ (.cond _ (.seq _ _) _)))) _)):=rfl;have E:i=k:=A;subst E;have r:=dM (ο.1 c).1;have w:=R_ o c;have j:=aY (n<n+1);have p:((x.1:Int) != 0)=true:=J8 (b:=0) m;have s:=bJ ((x.2.1:Int)<=(x.2.1:Int));have B:=f.top x (Β c);have aL:0<x.2.2.2.length:=aDV.2 (f.ne x (Β c) m);have z:=f_ (x.2.1+x.2.2.2.length) (x.2.1+x.2.2.2.length:Nat);have t:=bJ ((x.2.1:Int)<(x.2.1+x.2.2.2.length:Nat));rw[aG,v];simp only[go_sem,seval,a1,h,bT,q,r,w,j,p,s,z,t]
 |d+1,i,α,⟨n,L⟩,A,a1,h,bT,q=>by
  have v:LD=.seq _ (.seq _ (.seq (.block _ (.seq _ (.seq _ (.cond _ (.seq _ _) _)))) _)):=rfl;have TA:=(ο.1 c).1;obtain⟨y,g⟩:=fG (show i<l.length by omega);have r:=dM (a:=i) (b:=l.length) aa;have w:=R_ o g;have j:=aY (n<n+1);have u:y.1≠0:=f.kind g (by omega);have kM:=f.lt g c (by omega);have B:=f.top y (Β g);have p:((y.1:Int) != 0)=true:=J8 (b:=0) u;have s:=bJ ((y.2.1:Int)<=(x.2.1:Int));have z:=f_ (y.2.1+y.2.2.2.length) (y.2.1+y.2.2.2.length:Nat);have t:=bP ((x.2.1:Int)<(y.2.1+y.2.2.2.length:Nat));have w1:=fD i aa;have ih:=λα=>abl (o:=o) f D c m d (i+1) α ⟨n+1,(n,.k 95 [.i y.1,.i y.2.1,.str y.2.2.1,.str y.2.2.2])::L⟩ (by omega);rw[aG,v];simp only[go_sem,seval,a1,h,bT,q,r,w,j,p,s,z,t,w1];refine ih _ ?_ ?_ ?_ ?_;all_goals simp[go_sem,a1,h,bT]
def aBx{l:List Tok}(g:wL l)(d:l.length<=4000){k:Nat}{x:Tok}(h:l[k]? =some x)(a:x.1≠0):aI prog (run dv) 58 [.vec (au l.length) (V l),.i x.2.1]=some (.i k):=by
 refine fk (c:=.seq _ (.seq (.seq _ (.block 0 (.loop LD))) _)) rfl rfl func58 rfl (by rw[ntmps58];simp) (bW:=[.vec (au l.length) (V l),.i x.2.1]) ?_ ?_ ?_ rfl
 ·simp[AV.erase,kF];exact⟨by simp[AV.bare,kF],rfl⟩
 ·show((AV.vec (au l.length) (V l)).aq&&_)=true;rw[iE (wW l)];rfl
 have b:(V l).length=l.length:=CJ l;simp only[go_sem,seval,ab.empty,b];simp only[cg];refine bL (mG (abl (o:=au l.length) g d h a k 0 _ _ (aDz k) ?_ ?_ ?_ ?_)) ?_
 case refine_5=>
  rintro _ ⟨e,ae,H',rfl,rfl,f⟩;simp only[go_sem,seval,f,results58];exact⟨_,rfl,rfl⟩
 all_goals simp[go_sem]
 all_goals(try rfl)
def ayl{a b:Nat}(h:a≠b):((a:Int)==(b:Int))=false:=by
 have:(a:Int)≠(b:Int):=by omega
 simpa using this
noncomputable def LF:=f59.c.r.l.r.b.b
def abm{o}{bs:List Bi}(t:bs.length<=4000){k:Nat}{b:Bi}(hb:bs[k]? =some b)(r:∀i c,i<k->bs[i]? =some c->c.at_≠b.at_):∀d i α H,i+d=k->α 1=.i b.at_->α 10=.vec o (bs.map a_)->α 11=.i bs.length->α 12=.i i->
  aD (aJ (aO dv LF) α H) λe v H'=>e=.ret/\v 4=.i k
 |0,i,α,⟨n,L⟩,q,a1,f,bT,g=>by have l:LF=.seq _ (.seq _ (.seq (.block _ (.seq _ (.seq _ (.cond _ (.seq _ _) _)))) _)):=rfl;have u:i=k:=q;subst u;have h:=dM (ο.1 hb).1;have m:=yC o hb;have j:=aY (n<n+1);have p:((b.at_:Int)==(b.at_:Int))=true:=aFN _;rw[aG,l];simp only[go_sem,seval,a1,f,bT,g,h,m,j,p]
 |d+1,i,α,⟨n,L⟩,q,a1,f,bT,g=>by
  have l:LF=.seq _ (.seq _ (.seq (.block _ (.seq _ (.seq _ (.cond _ (.seq _ _) _)))) _)):=rfl;have TA:=(ο.1 hb).1;obtain⟨c,s⟩:=fG (show i<bs.length by omega);have h:=dM (a:=i) (b:=bs.length) aa;have m:=yC o s;have j:=aY (n<n+1);have p:=ayl (r i c (by omega) s);have w1:=fD i aa;have ih:=λα=>abm (o:=o) t hb r d (i+1) α ⟨n+1,(n,.k 102 [.i c.at_,.i c.k,.str c.w,.i c.item])::L⟩ (by omega);rw[aG,l];simp only[go_sem,seval,a1,f,bT,g,h,m,j,p,w1];refine ih _ ?_ ?_ ?_ ?_;all_goals simp[go_sem,a1,f,bT]
def aBy{m:Mp}{bad}(g:m.bs.length<=4000){k:Nat}{b:Bi}(hb:m.bs[k]? =some b)(a:∀i c,i<k->m.bs[i]? =some c->c.at_≠b.at_):aI prog (run dv) 59 [mapA m bad,.i b.at_]=some (.i k):=by
 refine fk (c:=.seq _ (.seq (.seq _ (.block 0 (.loop LF))) _)) rfl rfl func59 rfl (by rw[ntmps59];simp) (bW:=[mapA m bad,.i b.at_]) ?_ ?_ ?_ rfl
 ·simp[EI];rfl
 ·show((mapA m bad).aq&&_)=true;rw[yh];rfl
 have d:(m.bs.map a_).length=m.bs.length:=φ ..;simp only[go_sem,seval,ab.empty,mapA,adE,d];simp only[cg];refine bL (mG (abm (o:=au m.bs.length) g hb a k 0 _ _ (aDz k) ?_ ?_ ?_ ?_)) ?_
 case refine_5=>
  rintro _ ⟨e,ae,H',rfl,rfl,f⟩;simp only[go_sem,seval,f,results59];exact⟨_,rfl,rfl⟩
 all_goals simp[go_sem]
 all_goals(try rfl)
def Sd{f}(h:f≠57)(args)(H):dv.ext f args H=bf fh [19,20,60] f args H:=by show bQ uZ (bf fh [19,20,60]) f args H=_;rw[gT (λa H=>XN h a H)]
def apk:dv.dyn 10=false:=(rfl)
attribute [go_sem] apk
variable {us:List Un} {u:Un}
def apl(b:Proj us)(H):bt dv 19 [.rptr [.vec (au us.length) (vU us)]] H=some (.vec (au us.length) (SA (mo us)),H):=
 ji (fs:=[19,20,60]) rfl rfl (λa H=>Sd aA a H) rfl (ao8 us b.iJ) (by simp[AV.erase,AV.bare,kF,SA]) (iE (QU _)) H
def ZU(u:Un)(b):(AV.tup [.agg (cU u),.bool b]).erase=.tup [.agg (cU u),.bool b]:=by have:=QV u;simp[AV.erase,AV.bare] at this⊢;exact this
def ZV(u:Un)(b):(AV.tup [.agg (cU u),.bool b]).aq=true:=by show((AV.agg (cU u)).aq&&_)=true;rw[QW];rfl
def apm(b:Proj us)(w)(H):bt dv 20 [.rptr [.vec (au us.length) (vU us)],.str w] H=some (.tup [.agg (cU ((eO us w).getD xC)),.bool (eO us w).isSome],H):=
 ji (fs:=[19,20,60]) rfl rfl (λa H=>Sd aA a H) rfl (PK b.gJ b.iJ w) (ZU _ _) (ZV _ _) H
def XT(a:Proj us)(b:u∈us)(H):bt dv 20 [.rptr [.vec (au us.length) (vU us)],.str u.nm] H=some (.tup [.agg (cU u),.bool true],H):=by rw[apm a,XL a.gJ b];rfl
def apn(c:Proj us)(u:Un)(b:Bi)(hb:yB u b)(H):bt dv 60 [.rptr [.vec (au us.length) (vU us)],.agg (cU u),.agg [.i b.at_,.i b.k,.str b.w,.i b.item]] H=some (.agg [.str (stands us u b).1,.i ((stands us u b).2:Int)],H):=
 ji (fs:=[19,20,60]) rfl rfl (λa H=>Sd aA a H) rfl (aBn c u b hb) rfl rfl H
def apo(a:ve u){k:Nat}{x:Tok}(h:u.tk[k]? =some x)(b:x.1≠0)(H):bt dv 58 [.vec (au u.tk.length) (V u.tk),.i x.2.1] H=some (.i k,H):=
 cG rfl (aBx (a.ap.resolve_left (by rintro e;rw[e] at h;simp at h)) a.Tw h b) H
def E7{m:Mp}{b:Bi}(h:b∈m.bs):b.at_∈kQ m:=aDo _ (aDt.2 ⟨b,h,rfl⟩)
def aym(j:ve u){k:Nat}{b:Bi}(hb:u.mp.bs[k]? =some b):∀i c,i<k->u.mp.bs[i]? =some c->c.at_≠b.at_:=λi c hi g e=>by have l:(u.mp.bs.map (·.at_)).Nodup:=(aFg.1 j.sa).1;obtain⟨f,a⟩:=ο.1 hb;obtain⟨d,h⟩:=ο.1 g;have:=aEe.1 l i k (by simpa using d) (by simpa using f) hi;simp only[List.getElem_map,a,h] at this;exact this e
def apq(a:ve u){k:Nat}{b:Bi}(hb:u.mp.bs[k]? =some b)(H):bt dv 59 [.agg [.vec (au u.mp.bs.length) (u.mp.bs.map a_),.vec (au u.mp.ms.length) (u.mp.ms.map cv),.vec (au u.b1.length) (cw u.b1)],.i b.at_] H=some (.i k,H):=
 cG rfl (aBy (bad:=u.b1) (by have:=a.iJ;omega) hb (aym a hb)) H
def aBz(h:jV us)(m:u∈us){k:Nat}{b:Bi}(hb:u.mp.bs[k]? =some b):aI prog (run dv) 28 [dD us,.agg [.str u.nm,.i (yL u b.at_)]]=some (.tup [.agg [.str (stands us u b).1,.i ((stands us u b).2:Int)],.bool true]):=by
 have f:=h.vf u m;have hm:=Β hb;have l:=f.low _ (E7 hm);obtain⟨x,a⟩:=fG (show b.at_<u.tk.length by omega);have n:x.1≠0:=(f.ap.resolve_left (by rintro e;rw[e] at a;simp at a)).kind a l;have p:yL u b.at_=(x.2.1:Int):=by simp[yL,a]
 have d:∀H,fY (.agg [.str u.nm,.i (yL u b.at_)]) H=some (.ptr H.next 0,H.push (.z [.str u.nm,.i (yL u b.at_)])):=λH=>by simp[fY,AV.width,AV.cells]
 have g:=apo f a n;have o:=bP ((b.at_:Int)<0);have r:=bP ((k:Int)<0);have q:=yC (au u.mp.bs.length) hb;have j:=apn h.toProj u b (f.acA hm);refine fk (c:=.seq _ (.seq _ (.seq (.seq _ (.cond _ (.seq _ _) _)) (.seq _ (.seq (.seq _ (.cond _ (.seq _ _) _)) (.seq _ (.seq (.seq _ (.cond _ (.seq _ _) _)) (.seq _ _)))))))) rfl rfl func28 rfl (by rw[ntmps28];simp) (bW:=[dD us,.agg [.str u.nm,.i (yL u b.at_)]]) rfl ?_ ?_ rfl
 ·show((dD us).aq&&_)=true;rw[tM];rfl
 rw[p] at d⊢;simp[go_sem,ab.empty,dD,d,XT h.toProj m,g,o,r,apq f hb,q,j,acC,adF,FN,results28];rfl
abbrev Sy:=List UInt8×Nat
abbrev Ca:=Sy×Sy
def lA(x:Sy):List AV:=[.str x.1,.i x.2]
def cL(x:Sy):AV:=.agg (lA x)
def caC(x:Ca):List AV:=[.str x.1.1,.i x.1.2,.str x.2.1,.i x.2.2]
def fj(x:Ca):AV:=.agg (caC x)
def acF(x):(fj x).width=some 4:=rfl
def DI(us:List Un)(u:Un)(g:Int):Sy:=match u.mp.bs[g.toNat]? with|some c=>stands us u c|none=>([],0)
def rI(us:List Un)(u:Un)(b:Bi)(g:Int):Ca:=((u.nm,b.at_),DI us u g)
def NQ{bs f t}{g:Int}:∀(r:List Me) (acc:List Int),g∈rV bs f t acc r->g∈acc\/∃x∈r,∃j,lz bs f t x=some j/\g=(j:Int)
 |[],acc,h=>.inl h
 |x::r,acc,h=>by
  rcases NQ r _ h with a|⟨y,c,a⟩
  ·cases ho:lz bs f t x with
   |none=>rw[ho] at a;exact .inl a
   |some j=>
    rw[ho] at a;simp only[uc] at a;split at a
    ·exact .inl a
    ·rcases Ω.1 a with b|b
     ·exact .inl b
     ·exact .inr ⟨x,as1,j,ho,Μ.1 b⟩
  ·exact .inr ⟨y,Η _ c,a⟩
def XU{bs f t}{x:Me}{j}(h:lz bs f t x=some j):x.to=some j/\f<=x.at_/\x.at_<t/\∃b,bs[j]? =some b/\b.k<3:=by
 unfold lz at h;split at h
 ·rename_i i hi;split at h
  ·rename_i b hb;split at h
   ·rename_i a;cases h;exact⟨hi,a.1,a.2.1,b,hb,a.2.2⟩
   ·cases h
  ·cases h
 ·cases h
def NS{m:Mp}{f t}{g:Int}(h:g∈kh m f t):∃j:Nat,g=j/\∃b,m.bs[j]? =some b/\b.k<3:=by
 rcases NQ m.ms [] ((Hh _).mem_iff.1 h) with a|⟨x,_,j,c,rfl⟩
 ·simp at a
 ·exact⟨j,rfl,(XU c).2.2.2⟩
def M6(m:Mp)(f t):(kh m f t).length<=m.ms.length:=by have:=NP m.bs f t m.ms [];unfold kh;rw[(Hh _).length_eq];simpa using this
variable {us:List Un} {u:Un}
def apr(a:jV us)(c:u∈us){k:Nat}{b:Bi}(hb:u.mp.bs[k]? =some b){x:Tok}(d:u.tk[b.at_]? =some x)(H):bt dv 28 [.rptr [.vec (au us.length) (vU us)],.agg [.str u.nm,.i x.2.1]] H=some (.tup [.agg [.str (stands us u b).1,.i ((stands us u b).2:Int)],.bool true],H):=by have h:=aBz a c hb;rw[show yL u b.at_=(x.2.1:Int) by simp[yL,d]] at h;exact cG rfl h H
noncomputable def A9:=f9.c.r.r.l.r.b.b
noncomputable def DJ:=A9.r.r.l.b.r.r.r.b.b
noncomputable def C9:=DJ.r.r.l.b.r.r.r.r.b.b
noncomputable def L9:=C9.r.r.l.b.r.l.o
def Wo{T:Type}(g:T->AV)(h:∀x,ef (g x) (g x)=true):∀l:List T,iV (l.map g) (l.map g)=true
 |[]=>by simp[iV]
 |x::l=>by rw[aDm,qw,h x,Wo g h l];rfl
def abn{T:Type}(g:T->AV)(h:∀x,ef (g x) (g x)=true)(n)(l:List T):ef (.vec (au n) (l.map g)) (.vec (au n) (l.map g))=true:=by
 have:xX (au n) (au n)=true:=by unfold au;split<;>rfl
 simp[ef,this,Wo g h l]
def ayn(n)(l:List Bi):ef (.vec (au n) (l.map a_)) (.vec (au n) (l.map a_))=true:=abn a_ (λx=>by simp[a_,ef,iV]) n l
def ayo(n)(l:List Tok):ef (.vec (au n) (V l)) (.vec (au n) (V l))=true:=abn mj (λx=>by simp[mj,ef,iV]) n l
def auL(x:Ca)(H:ab):dS prog 38 1 [(0,.agg [.str x.1.1,.i x.1.2,.str x.2.1,.i x.2.2])] H=some (.vec .full [.agg [.str x.1.1,.i x.1.2,.str x.2.1,.i x.2.2]],H):=tL Zw (fj x) rfl rfl aA H
def tU{et}{H:ab}(y){o}{n}(g:bY H et o n):bY (H.push y) et o n:=eS.grow (eS.push H y) g
def adI(a b:AV):eD [.str [],.i 0,.str [],.i 0] 0 [a,b]=[a,b,.str [],.i 0]:=rfl
def adJ(a b c d:AV):eD [a,b,.str [],.i 0] 2 [c,d]=[a,b,c,d]:=rfl
def abo(B:jV us)(F:u∈us){b:Bi}{p6 p9:Nat}{o}{gl:List Int}(N:∀g∈gl,∃j:Nat,g=j/\∃b,u.mp.bs[j]? =some b/\b.k<3)(TB:gl.length<=4000){fin:List Ca}:∀r k acc o2 α H,gl.drop k=r->fin=acc++r.map (rI us u b)->acc.length+r.length<=1000000000->bY H 48 o2 acc.length->(∃te,H.get p6=some (.c te (cU u)))->(∃te,H.get p9=some (.c te [.i b.at_,.i b.k,.str b.w,.i b.item]))->
  α 0=.rptr [.vec (au us.length) (vU us)]->α 3=.vec o2 (acc.map fj)->α 5=.str u.nm->α 6=.ptr p6 0->α 9=.ptr p9 0->α 53=.vec o (gl.map iA)->α 54=.i gl.length->α 55=.i k->
  aD (aJ (aO dv C9) α H) λe d H'=>e=.exit 4/\(∃v,bY H' 48 v fin.length/\d 3=.vec v (fin.map fj))/\Kt 48 H H'/\d 0=α 0/\d 5=α 5/\d 6=α 6/\d 17=α 17/\d 18=α 18/\d 19=α 19/\d 31=α 31/\d 32=α 32/\d 33=α 33
 |[],k,acc,o2,α,⟨n,L⟩,D,s,Q,hg,⟨M,G⟩,⟨p,I⟩,a0,a3,a5,a6,E,h,f,l=>by
  have K:C9=.seq _ (.seq _ (.seq (.block _ (.seq _ (.seq _ _))) _)):=rfl;have hk:gl.length<=k:=Κ.1 D;have J:=d_ (a:=k) (b:=gl.length) (by omega);simp at s;subst s;rw[aG,K];simp only[go_sem,seval,f,l,J];refine⟨aK,⟨o2,hg,by simp[go_sem,a3]⟩,Kt.refl _ _,?_⟩;first|trivial|simp
 |g::r,k,acc,o2,α,⟨n,L⟩,D,s,Q,hg,⟨M,G⟩,⟨p,I⟩,a0,a3,a5,a6,E,h,f,l=>by
  have K:C9=.seq _ (.seq _ (.seq (.block _ (.seq _ (.seq (.region 14 L9.toArray true) (.seq _ _)))) _)):=rfl;obtain⟨P,hi,bq⟩:=mD D;simp at Q;obtain⟨j,rfl,c,x,Gq⟩:=N g (Β P);have hX:=B.vf u F;have hm:=Β x;obtain⟨q,O⟩:=fG (hX.lt _ (E7 hm));have J:=dM hi;have x1:=acB o P;have x2:=yC (au u.mp.bs.length) x;have Y:=R_ (au u.tk.length) O;have w1:=fD k aa;obtain⟨z6,S⟩:=aj.1 G;obtain⟨z9,V⟩:=aj.1 I;have c6:=aF S;have c9:=aF V;have y6:=aY (p6<n+1);have y9:=aY (p9<n+1);have v6:=aY (p6<n+1+1);have X:=aY (p9<n+1+1);have T:=dw (n=p6);have m9:=dw (n=p9);have l6:=dw (n+1=p6);have l9:=dw (n+1=p9);have C:=apr B F x O;have z0:=aY (n<n+1);have z1:=aY (n<n+1+1);have z2:=aY (n+1<n+1+1);have z3:=dw (n+1=n);obtain⟨Z,hZ,b1,b2⟩:∃A,A=L9.toArray/\behind A A.size 15 5=true/\behind A A.size 15 2=true:=⟨_,rfl,af,af⟩;have hR:∀α H,aP dv (run dv) aJ (.region 14 L9.toArray true) α H=an (eP dv (run dv) Z 0 [_,_,_,_,_,_,_,_,_,_,_,_,_,_,_,_] [] [] α H) λr=>some (.normal,r.1,r.2):=λα H=>by rw[m_ _ _ rfl rfl,hZ];exact rfl
  have y:=(Kt.push 48 ⟨n,L⟩ (.k 33 [.str u.nm,.i q.2.1])).trans (Kt.push 48 ⟨n+1,(n,.k 33 [.str u.nm,.i q.2.1])::L⟩ (.k 44 [.str (stands us u c).1,.i (stands us u c).2]));have lr:=tU (.k 44 [.str (stands us u c).1,.i (stands us u c).2]) (tU (.k 33 [.str u.nm,.i q.2.1]) hg);obtain⟨v,⟨n2,R⟩,q1,q2,q3⟩:=wA (m:=λt=>t==103) Zw rfl acF .full ((u.nm,b.at_),stands us u c) lr aa aa;have j9:cj (λt=>t==103) prog 38 38 (.vec o2 (acc.map fj)) (.vec .full [.agg [.str u.nm,.i b.at_,.str (stands us u c).1,.i (stands us u c).2]]) ⟨n+1+1,(n+1,.k 44 [.str (stands us u c).1,.i (stands us u c).2])::(n,.k 33 [.str u.nm,.i q.2.1])::L⟩=some (.vec v ((acc++[((u.nm,b.at_),stands us u c)]).map fj),⟨n2,R⟩):=q1;have qe:=auL ((u.nm,b.at_),stands us u c);have z:=y.trans q3;have TC:rI us u b (j:Int)=((u.nm,b.at_),stands us u c):=by simp[rI,DI,x]
  rw[aDm,TC] at s;have ih:=λα=>abo B F (b:=b) (p6:=p6) (p9:=p9) (o:=o) N TB (fin:=fin) r (k+1) (acc++[((u.nm,b.at_),stands us u c)]) v α ⟨n2,R⟩ bq (by rw[s];simp) aX q2 ⟨M,z.cells G⟩ ⟨p,z.cells I⟩;rw[aG,K];simp only[go_sem,seval,a0,a3,a5,a6,E,h,f,l,J,x1,hR,c6,c9,z6,z9,adF,FN,x2,Y,y6,y9,v6,X,T,m9,l6,l9,z0,z1,z2,z3,C,aZ,b1,b2,ayn,ayo,aDG,aFe,aEa,adI,adJ,Ι,Χ,qe,cQ,j9,w1];refine aT (ih _ ?_ ?_ ?_ ?_ ?_ ?_ ?_ ?_) ?_
  case refine_9=>
   rintro e nZ oU ⟨rfl,W,r2,U⟩;refine⟨rfl,W,z.trans r2,?_⟩;simpa[put,a0,a5,a6] using U
  all_goals simp[go_sem,a0,a5,a6,E,h,f]
def qp(us:List Un)(u:Un)(b:Bi):List Ca:=if b.k=2 then match u.tr.ks[b.item]? with|some nd=>(kh u.mp nd.f nd.t).map (rI us u b)|none=>[] else[]
def acG(n:Nd):(aC n)[2]? =some (.i n.t):=by cases n;rfl
def aps(a:ve u)(f t:Nat)(H):bt dv 27 [.agg [.vec (au u.mp.bs.length) (u.mp.bs.map a_),.vec (au u.mp.ms.length) (u.mp.ms.map cv),.vec (au u.b1.length) (cw u.b1)],.i f,.i t] H=some (.vec (au (kh u.mp f t).length) ((kh u.mp f t).map iA),H):=
 cG rfl (ahk u.mp u.b1 f t a.tos a.iJ) H
def apt(us){u:Un}(a:ve u)(b):(qp us u b).length<=4000:=by
 unfold qp;split
 ·split
  ·have:=M6 u.mp;have hf:=a.iJ;rename_i nd _;have:=this nd.f nd.t;rw[φ];omega
  ·exact aDT _
 ·exact aDT _
def PM(x:jV us)(y:u∈us){p6:Nat}{fin:List Ca}:∀r i acc o2 α H,u.mp.bs.drop i=r->fin=acc++r.flatMap (qp us u)->acc.length+4000*r.length<=1000000000->bY H 48 o2 acc.length->(∃te,H.get p6=some (.c te (cU u)))->
  α 0=.rptr [.vec (au us.length) (vU us)]->α 3=.vec o2 (acc.map fj)->α 5=.str u.nm->α 6=.ptr p6 0->α 31=.vec (au u.mp.bs.length) (u.mp.bs.map a_)->α 32=.i u.mp.bs.length->α 33=.i i->
  aD (aJ (aO dv DJ) α H) λe p H'=>e=.exit 2/\(∃z,bY H' 48 z fin.length/\p 3=.vec z (fin.map fj))/\Kt 48 H H'/\p 0=α 0/\p 17=α 17/\p 18=α 18/\p 19=α 19
 |[],i,acc,o2,α,⟨n,L⟩,M,l,ha,hg,⟨v,A⟩,a0,a3,a5,a6,h,d,j=>by
  have O:DJ=.seq _ (.seq _ (.seq (.block _ (.seq _ (.seq (.seq _ (.cond _ _ _)) (.seq _ (.seq _ (.block _ (.loop C9))))))) _)):=rfl;have m:u.mp.bs.length<=i:=Κ.1 M;have B:=d_ (a:=i) (b:=u.mp.bs.length) (by omega);simp at l;subst l;rw[aG,O];simp only[go_sem,seval,d,j,B];refine⟨aK,⟨o2,hg,by simp[go_sem,a3]⟩,Kt.refl _ _,?_⟩;first|trivial|simp
 |b::r,i,acc,o2,α,⟨n,L⟩,M,l,ha,hg,⟨v,A⟩,a0,a3,a5,a6,h,d,j=>by
  have O:DJ=.seq _ (.seq _ (.seq (.block 3 (.seq _ (.seq (.seq _ (.cond _ _ _)) (.seq _ (.seq _ (.block 4 (.loop C9))))))) _)):=rfl;obtain⟨hb,hi,U⟩:=mD M;have F:=x.vf u y;have A8:=F.iJ;simp at ha;have B:=dM hi;have x1:=yC (au u.mp.bs.length) hb;have w1:=fD i aa;obtain⟨z6,g6⟩:=aj.1 A;have c6:=aF g6;have W:=aY (p6<n+1);have S:=aY (n<n+1);have R:=dw (n=p6);have kp:=Kt.push 48 ⟨n,L⟩ (.k 102 [.i b.at_,.i b.k,.str b.w,.i b.item]);have V:=tU (.k 102 [.i b.at_,.i b.k,.str b.w,.i b.item]) hg;have K:=kp.cells A;rw[ap1] at l;rw[aG,O];by_cases m:b.k=2
  ·have J:((b.k:Int) != 2)=false:=by rw[m];rfl
   obtain⟨nd,Y⟩:=F.its b (Β hb) m;have E:qp us u b=(kh u.mp nd.f nd.t).map (rI us u b):=by simp[qp,m,Y]
   rw[E] at l;have x2:=mB (if u.tr.ks.isEmpty then .nil else .ro) Y;have kC:eD [AV.i 0,.i 0,.i 0,.str [],.i 0,.vec .nil []] 0 (aC nd)=aC nd:=uW nd;have v6:=aY (p6<n+1+1);have vn:=aY (n<n+1+1);have v1:=aY (n+1<n+1+1);have l6:=dw (n+1=p6);have ln:=dw (n+1=n);have X:=kp.trans (Kt.push 48 ⟨n+1,(n,.k 102 [.i b.at_,.i b.k,.str b.w,.i b.item])::L⟩ (.k 71 (aC nd)));have lr:=tU (.k 71 (aC nd)) V;have h9:ab.get ⟨n+1+1,(n+1,.k 71 (aC nd))::(n,.k 102 [.i b.at_,.i b.k,.str b.w,.i b.item])::L⟩ n=some (.k 102 [.i b.at_,.i b.k,.str b.w,.i b.item]):=aj.2 ⟨aa,by rw[br,bV,br,ν rfl]⟩;have q:=X.cells A;have mX:=M6 u.mp nd.f nd.t;have fO:((kh u.mp nd.f nd.t).map iA).length=(kh u.mp nd.f nd.t).length:=φ ..;simp only[go_sem,seval,a0,a5,a6,h,d,j,B,x1,c6,W,S,R,J,R9,x2,kC,v6,vn,v1,l6,ln,acC,Jf,acG,Eu,aps F,fO];simp only[cg];refine bL (dE (abo x y (b:=b) (p6:=p6) (p9:=n) (o:=au (kh u.mp nd.f nd.t).length) (gl:=kh u.mp nd.f nd.t) (λg hg=>NS hg) (by omega) (fin:=acc++(kh u.mp nd.f nd.t).map (rI us u b)) (kh u.mp nd.f nd.t) 0 acc o2 _ _ rfl rfl (by omega) lr ⟨v,q⟩ ⟨some 102,h9⟩ ?_ ?_ ?_ ?_ ?_ ?_ ?_ ?_)) ?_
   case refine_9=>
    rintro _ ⟨p,⟨n',L'⟩,rfl,⟨z,q1,q5⟩,q2,I,b5,b6,T,Q,Z,G,P,C⟩;have ih:=λα=>PM x y (p6:=p6) (fin:=fin) r (i+1) (acc++(kh u.mp nd.f nd.t).map (rI us u b)) z α ⟨n',L'⟩ U (by rw[l,adv]) (by rw[χ,φ];omega) q1 ⟨v,q2.cells q⟩;simp only[go_sem,seval,C,j,w1];refine aT (ih _ ?_ ?_ ?_ ?_ ?_ ?_ ?_) ?_
    case refine_8=>
     rintro e nZ oU ⟨rfl,D,N,s⟩;refine⟨rfl,D,X.trans (q2.trans N),?_⟩;simp[put] at s I T Q Z;simpa[I,T,Q,Z,a0] using s
    all_goals simp[go_sem,I,b5,b6,G,P,q5,a0,a5,a6,h,d]
   all_goals simp[go_sem,a0,a3,a5,a6]
   all_goals(try rfl)
  ·have J:((b.k:Int) != 2)=true:=J8 (b:=2) m;have E:qp us u b=[]:=by simp[qp,m]
   rw[E,aDl] at l;have ih:=λα=>PM x y (p6:=p6) (fin:=fin) r (i+1) acc o2 α ⟨n+1,(n,.k 102 [.i b.at_,.i b.k,.str b.w,.i b.item])::L⟩ U l aa V ⟨v,K⟩;simp only[go_sem,seval,a0,a5,a6,h,d,j,B,x1,c6,W,S,R,J,w1];refine aT (ih _ ?_ ?_ ?_ ?_ ?_ ?_ ?_) ?_
   case refine_8=>
    rintro e nZ oU ⟨rfl,D,N,s⟩;refine⟨rfl,D,kp.trans N,?_⟩;simpa[put,a0] using s
   all_goals simp[go_sem,a0,a3,a5,a6,h,d]
variable {us:List Un} {u:Un}
def vY(us:List Un)(u:Un):List Ca:=u.mp.bs.flatMap (qp us u)
def eu(us:List Un):List Ca:=us.flatMap (vY us)
def PN{A B:Type}{f:A->List B}{k:Nat}:∀{l:List A},(∀x∈l,(f x).length<=k)->(l.flatMap f).length<=k*l.length
 |[],h=>by simp
 |x::l,h=>by have h1:=h x as1;have h2:=PN (f:=f) (l:=l) λy a=>h y (Η _ a);rw[ap1,χ,Ι,aFv];omega
def OK(us)(a:ve u):(vY us u).length<=16000000:=by have h:(u.mp.bs.flatMap (qp us u)).length<=_:=PN (l:=u.mp.bs) (λb _=>apt us a b);have:=a.iJ;unfold vY;omega
def D6(a:jV us):(eu us).length<=128000000:=by have h:(us.flatMap (vY us)).length<=_:=PN (l:=us) (λu b=>OK us (a.vf u b));have:=a.iJ;unfold eu;omega
def abp(c:jV us){o}{fin:List Ca}:∀r pre acc o2 α H,us=pre++r->fin=acc++r.flatMap (vY us)->acc.length+16000000*r.length<=200000000->bY H 48 o2 acc.length->
  α 0=.rptr [.vec (au us.length) (vU us)]->α 3=.vec o2 (acc.map fj)->α 17=.vec o (SA (mo us))->α 18=.i us.length->α 19=.i pre.length->
  aD (aJ (aO dv A9) α H) λe m H'=>e=.exit 0/\∃g,bY H' 48 g fin.length/\m 3=.vec g (fin.map fj)
 |[],pre,acc,o2,α,⟨n,L⟩,b,d,s,hg,a0,a3,a,kD,f=>by have l:A9=.seq _ (.seq _ (.seq (.block _ (.seq _ (.seq _ (.seq _ (.block _ (.loop DJ)))))) _)):=rfl;rw[aDi] at b;subst b;have j:=d_ (aDF us.length);simp at d;subst d;rw[aG,l];simp only[go_sem,seval,kD,f,j];exact⟨aK,o2,hg,by simp[go_sem,a3]⟩
 |u::r,pre,acc,o2,α,⟨n,L⟩,b,d,s,hg,a0,a3,a,kD,f=>by
  have l:A9=.seq _ (.seq _ (.seq (.block 1 (.seq _ (.seq _ (.seq _ (.block 2 (.loop DJ)))))) _)):=rfl;have K:pre.length<us.length:=by rw[b];simp
  have j:=dM K;have w1:=fD pre.length (by have:=c.iJ;omega);have p:us[pre.length]? =some u:=by rw[b];exact As _ _ _
  have h:=Β p;have q:=c.vf u h;have G:(mo us)[pre.length]? =some u.nm:=by rw[mo,aDC,p];rfl
  have A:=aY (n<n+1);have x:(u.mp.bs.map a_).length=u.mp.bs.length:=φ ..;have kp:=Kt.push 48 ⟨n,L⟩ (.k 78 (cU u));have C:=tU (.k 78 (cU u)) hg;have E:ab.get ⟨n+1,(n,.k 78 (cU u))::L⟩ n=some (.k 78 (cU u)):=aj.2 ⟨aa,by rw[br,ν rfl]⟩;have bC:=OK us q;have A8:=q.iJ;simp at s;rw[ap1] at d;rw[aG,l];simp only[go_sem,seval,a0,a,kD,f,j,R6 o G,XT c.toProj h,A,FN,x];simp only[cg];refine bL (dE (PM c h (p6:=n) (fin:=acc++vY us u) u.mp.bs 0 acc o2 _ _ rfl rfl (by omega) C ⟨_,E⟩ ?_ ?_ ?_ ?_ ?_ ?_ ?_)) ?_
  case refine_8=>
   rintro _ ⟨m,⟨v,w⟩,rfl,⟨g,B,D⟩,q2,z,y,t,F⟩;have I:us=(pre++[u])++r:=by rw[b];simp
   have J:(((pre++[u]).length:Nat):Int)=((pre.length+1:Nat):Int):=ai;have ih:=λα=>abp c (o:=o) (fin:=fin) r (pre++[u]) (acc++vY us u) g α ⟨v,w⟩ I (by rw[d,adv]) (by rw[χ];omega) B;rw[J] at ih;simp only[go_sem,seval,F,f,w1];refine ih _ ?_ ?_ ?_ ?_ ?_;all_goals simp[go_sem,z,y,t,D,a0,a,kD]
  all_goals simp[go_sem,a0,a3]
  all_goals(try rfl)
def go_ca:∀l:List Ca,AV.aq.go (l.map fj)=true
 |[]=>rfl
 |x::l=>by show((fj x).aq&&AV.aq.go (l.map fj))=true;rw[go_ca l];rfl
def PO(a:jV us):aI prog (run dv) 9 [dD us]=some (.vec (au (eu us).length) ((eu us).map fj)):=by
 refine fk (c:=.seq _ (.seq _ (.seq (.seq _ (.block 0 (.loop A9))) _))) rfl rfl func9 rfl (by rw[ntmps9];simp) (bW:=[dD us]) rfl ?_ ?_ (iE (go_ca _))
 ·show((dD us).aq&&_)=true;rw[tM];rfl
 have d:(SA (mo us)).length=us.length:=by simp[SA,mo]
 have A8:=a.iJ;simp[go_sem,ab.empty,dD,apl a.toProj,d,kZ];simp[cg];refine bL (dE (abp a (o:=au us.length) (fin:=eu us) us [] [] .nil _ _ rfl rfl aX (.inl ⟨rfl,rfl⟩) ?_ ?_ ?_ ?_ ?_)) ?_
 case refine_6=>
  rintro _ ⟨ae,H',rfl,o',g,b⟩;simp only[go_sem,seval,b,results9];refine⟨_,rfl,?_⟩;simp[AV.erase,AV.bare,g.bare,au]
 all_goals simp[go_sem]
 all_goals(try rfl)
def PQ:List FuncId:=[35,11,38,14,12,13]
def akm:List FuncId:=[35,11,38,14,12,36,37]
noncomputable def cX:Env:={P:=prog,G:=λf=>PQ.contains f,cl:=λf=>akm.contains f,eX:=λ_=>false,dyn:=λi=>i==10||i==15,df:=λ_=>false,ext:=bf lj [36,37]}
def ayp:okF cX 35=true:=af
def ayq:okF cX 11=true:=af
def ayr:okF cX 38=true:=af
def ays:okF cX 14=true:=af
def ayt:okF cX 12=true:=af
def ayu:okF cX 13=true:=af
def ayv:cX.P=prog:=(rfl)
def ayw:cX.eX=λ_=>false:=(rfl)
def apu:cX.dyn 11=false:=(rfl)
def auM:cX.dyn 4=false:=(rfl)
attribute [go_sem] ayv ayw apu auM
def cM{f}(a:cX.cl f=true){args}{v}(h:aI prog (run cX) f args=some v)(H):bt cX f args H=some (v,H):=xQ a h H
def qf(i f t:Nat)(x:Me):Bool:=decide (x.to=some i)&&decide (f<=x.at_)&&decide (x.at_<t)
def pI(m:Mp)(f t:Nat):Nat->List Bi->List Int
 |_,[]=>[]
 |i,b::r=>(if b.k<3/\m.ms.any (qf i f t)=true then[(i:Int)] else[])++pI m f t (i+1) r
def aBB(x):(iA x).width=some 1:=rfl
noncomputable def xE:=f35.c.r.r.l.r.b.b
noncomputable def DK:=xE.r.l.b.r.r.r.b.b
def aBC(a b c)(H:ab):fY (.agg [a,b,c]) H=some (.ptr H.next 0,H.push (.z [a,b,c])):=by simp[fY,AV.width,AV.cells]
def ayx:ew prog .neq 4 (.bool false) (.bool false)=some (.bool false):=af
def ayy:ew prog .neq 4 (.bool false) (.bool true)=some (.bool true):=af
attribute [go_sem] ayx ayy
section
variable {m:Mp} {bad:List AV} {f t p4:Nat}
def ZW(hl:m.bs.length+m.ms.length<=4000){i:Nat}{acc fin:List Int}(ha:acc.length<=4000):∀r j o2 α H,m.ms.drop j=r->fin=acc++(if r.any (qf i f t)=true then[(i:Int)] else[])->bY H 3 o2 acc.length->(∃te,H.get p4=some (.c te (.vec (au m.bs.length) (m.bs.map a_)::.vec (au m.ms.length) (m.ms.map cv)::bad)))->
  α 1=.i f->α 2=.i t->α 4=.ptr p4 0->α 9=.vec o2 (acc.map iA)->α 10=.i i->α 12=.i j->
  aD (aJ (aO cX DK) α H) λe d H'=>e=.exit 2/\(∃p,bY H' 3 p fin.length/\d 9=.vec p (fin.map iA))/\Kt 3 H H'/\d 1=.i f/\d 2=.i t/\d 3=α 3/\d 4=.ptr p4 0/\d 10=.i i
 |[],j,o2,α,⟨n,L⟩,J,o,hg,⟨te,y⟩,a1,a2,a4,l,bT,g=>by have N:DK=.seq (.seq _ (.cond _ _ _)) (.seq (.block 3 (.seq _ (.seq _ (.cond _ (.seq _ _) _)))) _):=rfl;have hk:m.ms.length<=j:=Κ.1 J;have s:=d_ (a:=j) (b:=m.ms.length) (by omega);obtain⟨z4,G⟩:=aj.1 y;have v:=aF G;have u:(m.ms.map cv).length=m.ms.length:=φ ..;simp at o;subst o;rw[aG,N];simp only[go_sem,seval,a4,g,v,z4,u,aDA,aDu,s];refine⟨aK,⟨o2,hg,by simp[go_sem,l]⟩,Kt.refl _ _,?_⟩;simp[put,a1,a2,a4,bT]
 |x::r,j,o2,α,⟨n,L⟩,J,o,hg,⟨te,y⟩,a1,a2,a4,l,bT,g=>by
  have N:DK=.seq (.seq _ (.cond _ _ _)) (.seq (.block 3 (.seq _ (.seq _ (.cond _ (.seq _ _) _)))) _):=rfl;obtain⟨hx,hi,V⟩:=mD J;have s:=dM hi;obtain⟨z4,G⟩:=aj.1 y;have v:=aF G;have u:(m.ms.map cv).length=m.ms.length:=φ ..;have D:=aBq (au m.ms.length) hx;have w1:=fD j aa;have w:=aY (n<n+1);have A:=aY (p4<n+1);have C:=dw (n=p4);have q:=eqI x.to i;have kp:=Kt.push 3 ⟨n,L⟩ (.k 97 [.i x.at_,.i (dQ x.to),.bool x.wr,.i x.bD]);have Q:=tU (.k 97 [.i x.at_,.i (dQ x.to),.bool x.wr,.i x.bD]) hg;have T:=kp.cells y;rw[aG,N]
  have skip:qf i f t x=false->∀h:az,h 1=.i f->h 2=.i t->h 3=α 3->h 4=.ptr p4 0->h 9=.vec o2 (acc.map iA)->h 10=.i i->h 12=.i (j+1:Nat)->
    aD (aJ (aO cX DK) h ⟨n+1,(n,.k 97 [.i x.at_,.i (dQ x.to),.bool x.wr,.i x.bD])::L⟩) λe d H'=>e=.exit 2/\(∃p,bY H' 3 p fin.length/\d 9=.vec p (fin.map iA))/\Kt 3 ⟨n,L⟩ H'/\d 1=.i f/\d 2=.i t/\d 3=α 3/\d 4=.ptr p4 0/\d 10=.i i:=λI h b1 b2 U b4 Y qo K=>by
   rw[List.any_cons,I,aE6] at o;refine aT (ZW hl ha r (j+1) o2 h ⟨n+1,(n,.k 97 [.i x.at_,.i (dQ x.to),.bool x.wr,.i x.bD])::L⟩ V o Q ⟨te,T⟩ b1 b2 b4 Y qo K) ?_;rintro e d H' ⟨rfl,E,O,F,q4,X,W,S⟩;exact⟨rfl,E,kp.trans O,F,q4,X.trans U,W,S⟩
  by_cases z:x.to=some i
  ·rw[π z] at q;by_cases P:f<=x.at_
   ·have B:=bJ ((x.at_:Int)≥(f:Int));by_cases R:x.at_<t
    ·have M:=bJ ((x.at_:Int)<(t:Int));have I:qf i f t x=true:=by simp[qf,z,P,R]
     rw[List.any_cons,I,aDG,ν rfl] at o;obtain⟨p,⟨n2,L2⟩,E,O,F⟩:=wA (m:=λ_=>false) NI rfl aBB .full (i:Int) Q aa aa;have Z:cj (λ_=>false) prog 103 103 (.vec o2 (acc.map iA)) (.vec .full [.i i]) ⟨n+1,(n,.k 97 [.i x.at_,.i (dQ x.to),.bool x.wr,.i x.bD])::L⟩=some (.vec p ((acc++[(i:Int)]).map iA),⟨n2,L2⟩):=E;simp only[go_sem,seval,a1,a2,a4,l,bT,g,v,z4,A,w,C,u,aDA,aDu,s,D,q,B,M,ZO,cQ,Z];refine⟨aK,⟨p,by rw[o];exact O,by rw[o];simp[go_sem]⟩,kp.trans F,?_⟩;simp[put,a1,a2,a4,bT]
    ·have M:=bP ((x.at_:Int)<(t:Int));simp only[go_sem,seval,a1,a2,a4,l,bT,g,v,z4,A,w,C,u,aDA,aDu,s,D,q,B,M,w1];refine skip (by simp[qf,R]) _ ?_ ?_ ?_ ?_ ?_ ?_ ?_;all_goals simp[go_sem,a1,a2,a4,l,bT]
   ·have B:=bP ((x.at_:Int)≥(f:Int));simp only[go_sem,seval,a1,a2,a4,l,bT,g,v,z4,A,w,C,u,aDA,aDu,s,D,q,B,w1];refine skip (by simp[qf,P]) _ ?_ ?_ ?_ ?_ ?_ ?_ ?_;all_goals simp[go_sem,a1,a2,a4,l,bT]
  ·rw[ξ z] at q;simp only[go_sem,seval,a1,a2,a4,l,bT,g,v,z4,A,w,C,u,aDA,aDu,s,D,q,w1];refine skip (by simp[qf,z]) _ ?_ ?_ ?_ ?_ ?_ ?_ ?_;all_goals simp[go_sem,a1,a2,a4,l,bT]
def OL(y:m.bs.length+m.ms.length<=4000){fin:List Int}:∀r i acc o2 α H,m.bs.drop i=r->fin=acc++pI m f t i r->acc.length<=i->bY H 3 o2 acc.length->(∃te,H.get p4=some (.c te (.vec (au m.bs.length) (m.bs.map a_)::.vec (au m.ms.length) (m.ms.map cv)::bad)))->
  α 1=.i f->α 2=.i t->α 3=.bool false->α 4=.ptr p4 0->α 9=.vec o2 (acc.map iA)->α 10=.i i->
  aD (aJ (aO cX xE) α H) λe E H'=>e=.exit 0/\∃l,bY H' 3 l fin.length/\E 9=.vec l (fin.map iA)
 |[],i,acc,o2,α,⟨n,L⟩,z,d,S,hg,⟨te,g⟩,a1,a2,a3,a4,j,bT=>by have B:xE=.seq (.seq _ (.cond _ _ _)) (.seq (.block 1 (.seq _ (.seq (.seq _ (.cond _ _ _)) (.seq _ (.block 2 (.loop DK)))))) _):=rfl;have u:m.bs.length<=i:=Κ.1 z;have o:=d_ (a:=i) (b:=m.bs.length) (by omega);obtain⟨z4,x⟩:=aj.1 g;have q:=aF x;have p:(m.bs.map a_).length=m.bs.length:=φ ..;simp[pI] at d;subst d;rw[aG,B];simp only[go_sem,seval,a4,bT,q,z4,p,aDu,o];exact⟨aK,o2,hg,by simp[go_sem,j]⟩
 |b::r,i,acc,o2,α,⟨n,L⟩,z,d,S,hg,⟨te,g⟩,a1,a2,a3,a4,j,bT=>by
  have B:xE=.seq (.seq _ (.cond _ _ _)) (.seq (.block 1 (.seq _ (.seq (.seq _ (.cond _ _ _)) (.seq _ (.block 2 (.loop DK)))))) _):=rfl;obtain⟨hb,hi,D⟩:=mD z;have o:=dM hi;obtain⟨z4,x⟩:=aj.1 g;have q:=aF x;have p:(m.bs.map a_).length=m.bs.length:=φ ..;have J:=w_ (au m.bs.length) hb;have w1:=fD i aa;have C:=aY (n<n+1);have G:=aY (p4<n+1);have I:=dw (n=p4);have kp:=Kt.push 3 ⟨n,L⟩ (.k 93 [.i b.at_,.i b.k,.str b.w,.i b.item]);have F:=tU (.k 93 [.i b.at_,.i b.k,.str b.w,.i b.item]) hg;have s:=kp.cells g;rw[pI] at d;rw[aG,B];by_cases u:b.k<3
  ·have v:=bP ((b.k:Int)≥3);simp only[go_sem,seval,a3,a4,bT,q,z4,G,C,I,p,aDu,o,J,v];simp only[cg];have Q:(if b.k<3/\m.ms.any (qf i f t)=true then[(i:Int)] else[])=(if m.ms.any (qf i f t)=true then[(i:Int)] else[]):=by simp[u]
   rw[Q] at d;refine bL (dE (ZW (m:=m) (bad:=bad) (f:=f) (t:=t) (p4:=p4) y (i:=i) (acc:=acc) (by omega) m.ms 0 o2 _ _ rfl rfl F ⟨te,s⟩ ?_ ?_ ?_ ?_ ?_ ?_)) ?_
   case refine_7=>
    rintro _ ⟨E,⟨K,N⟩,rfl,⟨l,P,M⟩,U,b1,b2,O,R,T⟩;have A:(acc++(if m.ms.any (qf i f t)=true then[(i:Int)] else[])).length<=i+1:=by rw[χ];split<;>simp<;>omega
    have ih:=λα=>OL y (fin:=fin) r (i+1) (acc++(if m.ms.any (qf i f t)=true then[(i:Int)] else[])) l α ⟨K,N⟩ D (by rw[d,adv]) A P ⟨te,U.cells s⟩;simp only[go_sem,seval,T,bT,w1];refine ih _ ?_ ?_ ?_ ?_ ?_ ?_;all_goals simp[go_sem,b1,b2,O,R,M,a3]
   all_goals simp[go_sem,a1,a2,a4,j,bT]
   all_goals(try rfl)
  ·have v:=bJ ((b.k:Int)≥3);rw[κ (λh=>u h.1),aDl] at d;simp only[go_sem,seval,a3,a4,bT,q,z4,G,C,I,p,aDu,o,J,v,w1];refine(λα=>OL y (fin:=fin) r (i+1) acc o2 α ⟨n+1,(n,.k 93 [.i b.at_,.i b.k,.str b.w,.i b.item])::L⟩ D d (by omega) F ⟨te,s⟩) _ ?_ ?_ ?_ ?_ ?_ ?_;all_goals simp[go_sem,a1,a2,a3,a4,j]
def go_i:∀l:List Int,AV.aq.go (l.map iA)=true
 |[]=>rfl
 |x::l=>by show((iA x).aq&&AV.aq.go (l.map iA))=true;rw[go_i l];rfl
def apv(m:Mp)(bad)(f t:Nat)(a:m.bs.length+m.ms.length<=4000):aI prog (run cX) 35 [mapA m bad,.i f,.i t,.bool false]=some (.vec (au (pI m f t 0 m.bs).length) ((pI m f t 0 m.bs).map iA)):=by
 refine fk (c:=.seq _ (.seq _ (.seq (.seq _ (.block 0 (.loop xE))) _))) rfl rfl func35 rfl (by rw[ntmps35];simp) (bW:=[mapA m bad,.i f,.i t,.bool false]) (by simp[EI];exact⟨rfl,rfl,rfl⟩) ?_ ?_ (iE (go_i _))
 ·show((mapA m bad).aq&&_)=true;rw[yh];rfl
 simp only[go_sem,seval,ab.empty,mapA,aBC,kZ];simp[cg];refine bL (dE (OL (m:=m) (bad:=[.vec (au bad.length) (cw bad)]) (f:=f) (t:=t) (p4:=0) a (fin:=pI m f t 0 m.bs) m.bs 0 [] .nil _ _ rfl rfl ai (.inl ⟨rfl,rfl⟩) ⟨none,rfl⟩ ?_ ?_ ?_ ?_ ?_ ?_)) ?_
 case refine_7=>
  rintro _ ⟨ae,H',rfl,o',g,b⟩;simp only[go_sem,seval,b,results35];refine⟨_,rfl,?_⟩;simp[AV.erase,AV.bare,g.bare,au]
 all_goals simp[go_sem]
 all_goals(try rfl)
end
def abq{m:Mp}{f t}:∀r i,∀g∈pI m f t i r,(i:Int)<=g
 |[],i,g,h=>by cases h
 |b::r,i,g,h=>by
  rw[pI] at h;rcases Ω.1 h with h|h
  ·split at h
   ·rw[Μ] at h;omega
   ·cases h
  ·have:=abq r (i+1) g h;omega
def abr{m:Mp}{f t}:∀r i,(pI m f t i r).Pairwise (·<·)
 |[],i=>.nil
 |b::r,i=>by
  rw[pI,aEC];refine⟨?_,abr r (i+1),λa d c e=> ?_⟩
  ·split
   ·exact aEG _ _
   ·exact .nil
  ·have h2:=abq r (i+1) c e;split at d
   ·rw[Μ] at d;omega
   ·cases d
def ZX{m:Mp}{f t}{g:Int}:∀r i,g∈pI m f t i r↔∃k b,r[k]? =some b/\b.k<3/\m.ms.any (qf (i+k) f t)=true/\g=((i+k:Nat):Int)
 |[],i=>by simp[pI]
 |b::r,i=>by
  rw[pI,Ω,ZX r (i+1)];constructor
  ·rintro(h|⟨k,c,a,d,j,e⟩)
   ·split at h
    ·rename_i l;rw[Μ] at h;exact⟨0,b,rfl,l.1,l.2,h⟩
    ·cases h
   ·exact⟨k+1,c,a,d,by rw[show i+(k+1)=i+1+k by omega];exact j,by rw[e];omega⟩
  ·rintro⟨k,c,a,d,j,e⟩
   cases k with
   |zero=>left;simp at a;subst a;rw[ν ⟨d,j⟩,e];exact Μ.2 rfl
   |succ k=>exact .inr ⟨k,c,a,d,by rw[show i+1+k=i+(k+1) by omega];exact j,by rw[e];omega⟩
def XV{bs f t}:∀(r:List Me) (acc:List Int),(∀g∈acc,g∈rV bs f t acc r)/\∀x∈r,∀j,lz bs f t x=some j->(j:Int)∈rV bs f t acc r
 |[],acc=>⟨λg h=>h,λx k=>by cases k⟩
 |x::r,acc=>by
  obtain⟨c,d⟩:=XV (bs:=bs) (f:=f) (t:=t) r (uc acc (lz bs f t x))
  have e:∀g∈acc,g∈uc acc (lz bs f t x):=λg hg=>by
   cases lz bs f t x with
   |none=>exact hg
   |some j=>
    simp only[uc];split
    ·exact hg
    ·exact aDo _ hg
  refine⟨λg hg=>c g (e g hg),λy a j b=> ?_⟩;rcases Ν.1 a with rfl|a
  ·refine c _ ?_;rw[b];simp only[uc];split
   ·rename_i i;exact Θ.1 i
   ·exact aEg _ (Μ.2 rfl)
  ·exact d y a j b
def VB{bs f t}:∀(r:List Me) (acc:List Int),acc.Nodup->(rV bs f t acc r).Nodup
 |[],acc,h=>h
 |x::r,acc,h=>by
  refine VB r _ ?_
  cases lz bs f t x with
  |none=>exact h
  |some j=>
   simp only[uc];split
   ·exact h
   ·rename_i d;rw[aFg];refine⟨h,aEG _ _,λa c b hb=> ?_⟩;rw[Μ] at hb;rintro rfl;exact d (Θ.2 (hb▸c))
def akn(m:Mp)(f t:Nat):kh m f t=pI m f t 0 m.bs:=by
 have v:=VB (bs:=m.bs) (f:=f) (t:=t) m.ms [] .nil;have p:=abr (m:=m) (f:=f) (t:=t) m.bs 0
 have q:(rV m.bs f t [] m.ms).Perm (pI m f t 0 m.bs):=by
  rw[List.perm_ext_iff_of_nodup v (p.imp λh=>by omega)];intro g;rw[ZX];constructor
  ·intro h;rcases NQ m.ms [] h with d|⟨x,n,j,r,rfl⟩
   ·cases d
   ·obtain⟨d,e,s,b,hb,l⟩:=XU r;refine⟨j,b,hb,l,?_,by simp⟩;rw[aFK];exact⟨x,n,by simp[qf,d,e,s]⟩
  ·rintro⟨k,b,hb,l,o,rfl⟩;rw[aFK] at o;obtain⟨x,n,i⟩:=o;simp[qf] at i;rw[aDz];exact(XV m.ms []).2 x n k (by simp[lz,i.1.1,hb,i.1.2,i.2,l])
 have u:(vA (rV m.bs f t [] m.ms)).Pairwise (·<=·):=by have:=List.pairwise_mergeSort (le:=λx y:Int=>decide (x<=y)) (λa b c d e=>by simp at*;omega) (λa b=>by simp;omega) (rV m.bs f t [] m.ms);exact this.imp λh=>by simpa using h
 exact List.Perm.eq_of_pairwise (le:=(·<=·)) (λa b _ _ d e=>Int.le_antisymm d e) u (p.imp λh=>by omega) ((Hh _).trans q)
set_option maxRecDepth 100000
set_option maxHeartbeats 8000000
def ayz:cX.cl 36=true:=af
attribute [go_sem] ayz
variable {us:List Un} {u:Un}
def apw(a:Proj us)(u:Un)(b:Bi)(hb:yB u b)(H):bt cX 36 [.vec (au us.length) (wU us),.agg (dU u),.agg [.i b.at_,.i b.k,.str b.w,.i b.item]] H=some (.agg [.str (stands us u b).1,.i ((stands us u b).2:Int)],H):=
 ji (fs:=[36,37]) rfl rfl (λ_ _=>rfl) rfl (akk a u b hb) rfl rfl H
def apx(a:ve u)(f t:Nat)(H):bt cX 35 [.agg [.vec (au u.mp.bs.length) (u.mp.bs.map a_),.vec (au u.mp.ms.length) (u.mp.ms.map cv),.vec (au u.b2.length) (cw u.b2)],.i f,.i t,.bool false] H=some (.vec (au (kh u.mp f t).length) ((kh u.mp f t).map iA),H):=by have h:=apv u.mp u.b2 f t a.iJ;rw[<-akn] at h;exact cM rfl h H
def dU3(u:Un):List AV:=(dU u).drop 3
def dU8(u:Un):List AV:=(dU u).drop 8
def auN(u:Un):cr prog 91 3 (.rptr (dU u))=some (.rptr (dU3 u)):=(B5 uY 3 _ rfl sF).trans (ν (show 3<=14 by decide))
def auO(u:Un):cr prog 71 5 (.rptr (dU3 u))=some (.rptr (dU8 u)):=(B5 uU 5 _ rfl IB).trans (ν (show 5<=11 by decide))
def ayA(u:Un):(dU8 u)[0]? =some (.vec (if u.tr.ks.isEmpty then .nil else .ro) (bA u.tr.ks)):=rfl
def apy(u:Un):(DF u).length=5:=rfl
def ayB(u:Un):List.take 3 (DF u)=[.vec (au u.mp.bs.length) (u.mp.bs.map a_),.vec (au u.mp.ms.length) (u.mp.ms.map cv),.vec (au u.b2.length) (cw u.b2)]:=rfl
attribute [go_sem] auN auO ayA apy ayB
def auP(x:Ca)(H:ab):dS prog 45 1 [(0,.agg [.str x.1.1,.i x.1.2,.str x.2.1,.i x.2.2])] H=some (.vec .full [.agg [.str x.1.1,.i x.1.2,.str x.2.1,.i x.2.2]],H):=tL ZR (fj x) rfl rfl aA H
noncomputable def xF:=f11.c.r.r.l.r.b.b
noncomputable def Bv:=xF.r.l.b.r.b.b
noncomputable def DL:=Bv.r.l.b.r.r.r.r.r.b.b
noncomputable def TD:=DL.r.l.b.o
noncomputable def TE:=Bv.r.l.b.r.r.l.o
def ZY(p:jV us){i:Nat}(t:us[i]? =some u){b:Bi}{p6:Nat}{o}{gl:List Int}(D:∀g∈gl,∃j:Nat,g=j/\∃b,u.mp.bs[j]? =some b/\b.k<3)(TB:gl.length<=4000){fin:List Ca}:∀r k acc o2 α H,gl.drop k=r->k<=gl.length->fin=acc++r.map (rI us u b)->acc.length+r.length<=1000000000->bY H 51 o2 acc.length->(∃te,H.get p6=some (.c te [.i b.at_,.i b.k,.str b.w,.i b.item]))->
  α 0=.vec (au us.length) (wU us)->α 3=.vec o2 (acc.map fj)->α 4=.i i->α 6=.ptr p6 0->α 8=.vec o (gl.map iA)->α 9=.i k->
  aD (aJ (aO cX DL) α H) λe h H'=>e=.exit 4/\(∃f,bY H' 51 f fin.length/\h 3=.vec f (fin.map fj))/\Kt 51 H H'/\h 0=.vec (au us.length) (wU us)/\h 4=.i i/\h 5=α 5
 |[],k,acc,o2,α,⟨n,L⟩,q,TA,d,G,hg,⟨C,v⟩,a0,a3,a4,a6,a8,s=>by have z:DL=.seq (.seq _ (.cond _ _ _)) (.seq (.block _ _) _):=rfl;have hk:gl.length<=k:=Κ.1 q;have x:=d_ (a:=k) (b:=gl.length) (by omega);have y:(gl.map iA).length=gl.length:=φ ..;simp at d;subst d;rw[aG,z];simp only[go_sem,seval,a8,s,y,x];refine⟨aK,⟨o2,hg,by simp[go_sem,a3]⟩,Kt.refl _ _,?_⟩;simp[put,a0,a4]
 |g::r,k,acc,o2,α,⟨n,L⟩,q,TA,d,G,hg,⟨C,v⟩,a0,a3,a4,a6,a8,s=>by
  have z:DL=.seq (.seq _ (.cond _ _ _)) (.seq (.block 5 (.region 15 TD.toArray true)) _):=rfl;obtain⟨F,hi,T⟩:=mD q;simp at G;obtain⟨j,rfl,c,B,Gq⟩:=D g (Β F);have Q:=p.vf u (Β t);have hm:=Β B;have y:(gl.map iA).length=gl.length:=φ ..;have x:=dM hi;have x1:=acB o F;have x2:=w_ (au u.mp.bs.length) B;have P:=rS (au us.length) t;have w1:=fD k aa;obtain⟨Y,J⟩:=aj.1 v;have c6:=aF J;have l:=apw p.toProj u c (Q.acA hm);obtain⟨Z,hZ,b1,b2,R,b4,M,O⟩:∃A,A=TD.toArray/\behind A A.size 29 5=true/\behind A A.size 29 7=true/\behind A A.size 29 13=true/\behind A A.size 29 19=true/\behind A A.size 29 23=true/\behind A A.size 29 25=true:=⟨_,rfl,af,af,af,af,af,af⟩;have hR:∀α H,aP cX (run cX) aJ (.region 15 TD.toArray true) α H=an (eP cX (run cX) Z 0 [_,_,_,_,_,_,_,_,_,_,_,_,_,_,_,_,_,_,_,_,_,_,_,_,_,_,_,_,_,_,_] [] [] α H) λr=>some (.normal,r.1,r.2):=λα H=>by rw[m_ _ _ rfl rfl,hZ];exact rfl
  obtain⟨f,⟨n2,I⟩,V,q2,E⟩:=wA (m:=λ_=>false) ZR rfl acF .full ((u.nm,b.at_),stands us u c) hg aa aa;have X:cj (λ_=>false) prog 45 45 (.vec o2 (acc.map fj)) (.vec .full [.agg [.str u.nm,.i b.at_,.str (stands us u c).1,.i (stands us u c).2]]) ⟨n,L⟩=some (.vec f ((acc++[((u.nm,b.at_),stands us u c)]).map fj),⟨n2,I⟩):=V;have qe:=auP ((u.nm,b.at_),stands us u c);have S:rI us u b (j:Int)=((u.nm,b.at_),stands us u c):=by simp[rI,DI,B]
  rw[aDm,S] at d;have ih:=λα=>ZY p t (b:=b) (p6:=p6) (o:=o) D TB (fin:=fin) r (k+1) (acc++[((u.nm,b.at_),stands us u c)]) f α ⟨n2,I⟩ T hi (by rw[d];simp) aX q2 ⟨C,E.cells v⟩;rw[aG,z];simp only[go_sem,seval,a0,a3,a4,a6,a8,s,y,x,x1,x2,P,hR,c6,Y,rT,l,aZ,b1,b2,R,b4,M,O,aDG,aEa,adI,adJ,Ι,Χ,qe,cQ,X,w1];refine aT (ih _ ?_ ?_ ?_ ?_ ?_ ?_) ?_
  case refine_7=>
   rintro e nZ oU ⟨rfl,N,r2,K,U,W⟩;refine⟨rfl,N,E.trans r2,K,U,?_⟩;simpa[put] using W
  all_goals simp[go_sem,a0,a4,a6,a8]
def apz(ks:List Nd):ef (.vec (if ks.isEmpty then .nil else .ro) (bA ks)) (.vec (if ks.isEmpty then .nil else .ro) (bA ks))=true:=by have h:=Pl ks;cases ks<;>simp_all [ef,xX]
def auQ(x:Nd):iV (aC x) (aC x)=true:=by have h:=Qj x;rw[yc,Ix] at h;exact h
def OM(p:jV us){i:Nat}(h:us[i]? =some u){fin:List Ca}:∀r k acc o2 α H,u.mp.bs.drop k=r->fin=acc++r.flatMap (qp us u)->acc.length+4000*r.length<=1000000000->bY H 51 o2 acc.length->
  α 0=.vec (au us.length) (wU us)->α 3=.vec o2 (acc.map fj)->α 4=.i i->α 5=.i k->
  aD (aJ (aO cX Bv) α H) λe m H'=>e=.exit 2/\(∃q,bY H' 51 q fin.length/\m 3=.vec q (fin.map fj))/\Kt 51 H H'/\m 0=.vec (au us.length) (wU us)/\m 4=.i i
 |[],k,acc,o2,α,⟨n,L⟩,C,c,K,hg,a0,a3,a4,a5=>by have E:Bv=.seq (.seq _ (.cond _ _ _)) (.seq (.block _ (.seq _ (.seq (.seq _ (.cond _ _ _)) (.seq _ (.seq _ (.seq _ (.block _ (.loop DL)))))))) _):=rfl;have d:u.mp.bs.length<=k:=Κ.1 C;have s:=d_ (a:=k) (b:=u.mp.bs.length) (by omega);have l:(u.mp.bs.map a_).length=u.mp.bs.length:=φ ..;have j:=rS (au us.length) h;simp at c;subst c;rw[aG,E];simp only[go_sem,seval,a0,a4,a5,j,l,s];refine⟨aK,⟨o2,hg,by simp[go_sem,a3]⟩,Kt.refl _ _,?_⟩;simp[put,a0,a4]
 |b::r,k,acc,o2,α,⟨n,L⟩,C,c,K,hg,a0,a3,a4,a5=>by
  have E:Bv=.seq (.seq _ (.cond _ _ _)) (.seq (.block 3 (.seq _ (.seq (.seq _ (.cond _ _ _)) (.seq (.region 10 TE.toArray true) (.seq _ (.seq _ (.block 4 (.loop DL)))))))) _):=rfl;obtain⟨hb,hi,G⟩:=mD C;have z:=p.vf u (Β h);have A8:=z.iJ;simp at K;have s:=dM hi;have l:(u.mp.bs.map a_).length=u.mp.bs.length:=φ ..;have M:=w_ (au u.mp.bs.length) hb;have j:=rS (au us.length) h;have w1:=fD k aa;have F:=aY (n<n+1);have kp:=Kt.push 51 ⟨n,L⟩ (.k 93 [.i b.at_,.i b.k,.str b.w,.i b.item]);have I:=tU (.k 93 [.i b.at_,.i b.k,.str b.w,.i b.item]) hg;rw[ap1] at c;rw[aG,E];by_cases d:b.k=2
  ·have B:((b.k:Int) != 2)=false:=by rw[d];rfl
   obtain⟨nd,J⟩:=z.its b (Β hb) d;have y:qp us u b=(kh u.mp nd.f nd.t).map (rI us u b):=by simp[qp,d,J]
   rw[y] at c;have x2:=mB (if u.tr.ks.isEmpty then .nil else .ro) J;have S:eD [AV.i 0,.i 0,.i 0,.str [],.i 0,.vec .nil []] 0 (aC nd)=aC nd:=uW nd;have vn:=aY (n<n+1+1);have U:=aY (n+1<n+1+1);have ln:=dw (n+1=n);have X:=kp.trans (Kt.push 51 ⟨n+1,(n,.k 93 [.i b.at_,.i b.k,.str b.w,.i b.item])::L⟩ (.k 71 (aC nd)));have lr:=tU (.k 71 (aC nd)) I;have h9:ab.get ⟨n+1+1,(n+1,.k 71 (aC nd))::(n,.k 93 [.i b.at_,.i b.k,.str b.w,.i b.item])::L⟩ n=some (.k 93 [.i b.at_,.i b.k,.str b.w,.i b.item]):=aj.2 ⟨aa,by rw[br,bV,br,ν rfl]⟩;have mX:=M6 u.mp nd.f nd.t;obtain⟨Z,hZ,b1,b2,Q⟩:∃A,A=TE.toArray/\behind A A.size 11 5=true/\behind A A.size 11 7=true/\behind A A.size 11 9=true:=⟨_,rfl,af,af,af⟩;have hR:∀α H,aP cX (run cX) aJ (.region 10 TE.toArray true) α H=an (eP cX (run cX) Z 0 [_,_,_,_,_,_,_,_,_,_,_,_] [] [] α H) λr=>some (.normal,r.1,r.2):=λα H=>by rw[m_ _ _ rfl rfl,hZ];exact rfl
   simp only[go_sem,seval,a0,a4,a5,j,l,s,M,F,B,hR,x2,S,vn,U,ln,Jf,acG,Eu,b1,b2,Q,apz,auQ,aDG,aFe,aEa,apx z];simp only[cg];refine bL (dE (ZY p h (b:=b) (p6:=n) (o:=au (kh u.mp nd.f nd.t).length) (gl:=kh u.mp nd.f nd.t) (λg hg=>NS hg) (by omega) (fin:=acc++(kh u.mp nd.f nd.t).map (rI us u b)) (kh u.mp nd.f nd.t) 0 acc o2 _ _ rfl (aDT _) rfl (by omega) lr ⟨some 93,h9⟩ ?_ ?_ ?_ ?_ ?_ ?_)) ?_
   case refine_7=>
    rintro _ ⟨m,⟨N,P⟩,rfl,⟨q,T,V⟩,q2,R,Y,O⟩;have ih:=λα=>OM p h (fin:=fin) r (k+1) (acc++(kh u.mp nd.f nd.t).map (rI us u b)) q α ⟨N,P⟩ G (by rw[c,adv]) (by rw[χ,φ];omega) T;simp only[go_sem,seval,O,a5,w1];refine aT (ih _ ?_ ?_ ?_ ?_) ?_
    case refine_5=>
     rintro e W oU ⟨rfl,x,D,v⟩;exact⟨rfl,x,X.trans (q2.trans D),v⟩
    all_goals simp[go_sem,R,Y,V]
   all_goals simp[go_sem,a0,a3,a4]
   all_goals(try rfl)
  ·have B:((b.k:Int) != 2)=true:=J8 (b:=2) d;have y:qp us u b=[]:=by simp[qp,d]
   rw[y,aDl] at c;have ih:=λα=>OM p h (fin:=fin) r (k+1) acc o2 α ⟨n+1,(n,.k 93 [.i b.at_,.i b.k,.str b.w,.i b.item])::L⟩ G c aa I;simp only[go_sem,seval,a0,a4,a5,j,l,s,M,F,B,w1];refine aT (ih _ ?_ ?_ ?_ ?_) ?_
   case refine_5=>
    rintro e W oU ⟨rfl,x,D,v⟩;exact⟨rfl,x,kp.trans D,v⟩
   all_goals simp[go_sem,a0,a3,a4]
def ZZ(d:jV us){fin:List Ca}:∀r i acc o2 α H,us.drop i=r->fin=acc++r.flatMap (vY us)->acc.length+16000000*r.length<=200000000->bY H 51 o2 acc.length->
  α 0=.vec (au us.length) (wU us)->α 3=.vec o2 (acc.map fj)->α 4=.i i->
  aD (aJ (aO cX xF) α H) λe m H'=>e=.exit 0/\∃f,bY H' 51 f fin.length/\m 3=.vec f (fin.map fj)
 |[],i,acc,o2,α,⟨n,L⟩,h,c,l,hg,a0,a3,a4=>by have k:xF=.seq (.seq _ (.cond _ _ _)) (.seq (.block _ (.seq _ (.block _ (.loop Bv)))) _):=rfl;have hk:us.length<=i:=Κ.1 h;have g:=d_ (a:=i) (b:=us.length) (by omega);have j:(wU us).length=us.length:=φ ..;simp at c;subst c;rw[aG,k];simp only[go_sem,seval,a0,a4,j,g];exact⟨aK,o2,hg,by simp[go_sem,a3]⟩
 |u::r,i,acc,o2,α,⟨n,L⟩,h,c,l,hg,a0,a3,a4=>by
  have k:xF=.seq (.seq _ (.cond _ _ _)) (.seq (.block 1 (.seq _ (.block 2 (.loop Bv)))) _):=rfl;obtain⟨o,hi,q⟩:=mD h;have p:=d.vf u (Β o);have g:=dM hi;have w1:=fD i (by have:=d.iJ;omega);have j:(wU us).length=us.length:=φ ..;have bC:=OK us p;have A8:=p.iJ;simp at l;rw[ap1] at c;rw[aG,k];simp only[go_sem,seval,a0,a4,j,g];simp only[cg];refine bL (dE (OM d o (fin:=acc++vY us u) u.mp.bs 0 acc o2 _ _ rfl rfl (by omega) hg ?_ ?_ ?_ ?_)) ?_
  case refine_5=>
   rintro _ ⟨m,⟨s,w⟩,rfl,⟨f,v,y⟩,q2,t,x⟩;have ih:=λα=>ZZ d (fin:=fin) r (i+1) (acc++vY us u) f α ⟨s,w⟩ q (by rw[c,adv]) (by rw[χ];omega) v;simp only[go_sem,seval,x,w1];refine ih _ ?_ ?_ ?_;all_goals simp[go_sem,t,y]
  all_goals simp[go_sem,a0,a3,a4]
  all_goals(try rfl)
def Z0(a:jV us):aI prog (run cX) 11 [fu us]=some (.vec (au (eu us).length) ((eu us).map fj)):=by
 refine fk (c:=.seq _ (.seq _ (.seq (.seq _ (.block 0 (.loop xF))) _))) rfl rfl func11 rfl (by rw[ntmps11];simp) (bW:=[fu us]) (by simp[E5]) ?_ ?_ (iE (go_ca _))
 ·show((fu us).aq&&_)=true;rw[Cy];rfl
 have A8:=a.iJ;simp[go_sem,ab.empty,fu,kZ];simp[cg];refine bL (dE (ZZ a (fin:=eu us) us 0 [] .nil _ _ rfl rfl aX (.inl ⟨rfl,rfl⟩) ?_ ?_ ?_)) ?_
 case refine_4=>
  rintro _ ⟨ae,H',rfl,o',g,b⟩;simp only[go_sem,seval,b,results11];refine⟨_,rfl,?_⟩;simp[AV.erase,AV.bare,g.bare,au]
 all_goals simp[go_sem]
 all_goals(try rfl)
def acH(c)(a b)(x y:Int):lN prog .eql 49 c (.agg [.str a,.i x]) (.agg [.str b,.i y])=some (.bool (decide ((a,x)=(b,y)))):=by rw[tA rfl];simp[ew,OD,acD,lY,sw,wH];rw[show(x==y)=decide (x=y) from rfl];by_cases h:a=b<;>by_cases k:x=y<;>simp[h,k]
def aBD(o){l:List Sp}{i:Nat}{x:Sp}(h:l[i]? =some x):dC prog 52 (.vec o (l.map b_)) (.i i)=some (.rptr [.str x.1,.i x.2]):=oC I7 Ap b_ o h rfl
def Se(a b)(H:ab):fY (.agg [a,b]) H=some (.ptr H.next 0,H.push (.z [a,b])):=by simp[fY,AV.width,AV.cells]
noncomputable def LH:=f38.c.r.l.r.b.b
def abt{o}{l:List Sp}(A:l.length<=1000000000){s:Sp}{p3:Nat}:∀r i α H,l.drop i=r->i<=l.length->(∃te,H.get p3=some (.c te [.str s.1,.i s.2]))->α 0=.vec o (l.map b_)->α 3=.ptr p3 0->α 5=.i i->
  aD (aJ (aO cX LH) α H) λe t H'=>(e=.exit 0/\¬s∈r)\/(e=.ret/\s∈r/\t 4=.bool true)
 |[],i,α,⟨n,L⟩,m,hi,⟨te,q⟩,a0,a3,a5=>by have p:LH=.seq (.seq _ (.cond _ _ _)) (.seq (.block _ (.seq _ (.cond _ (.seq _ _) _))) _):=rfl;have hk:l.length<=i:=Κ.1 m;have d:=d_ (a:=i) (b:=l.length) (by omega);have f:(l.map b_).length=l.length:=φ ..;rw[aG,p];simp only[go_sem,seval,a0,a5,f,d];exact .inl ⟨aK,ai⟩
 |x::r,i,α,⟨n,L⟩,m,hi,⟨te,q⟩,a0,a3,a5=>by
  have p:LH=.seq (.seq _ (.cond _ _ _)) (.seq (.block 1 (.seq _ (.cond _ (.seq _ _) _))) _):=rfl;obtain⟨B,z,y⟩:=mD m;have d:=dM z;have f:(l.map b_).length=l.length:=φ ..;have v:=aBD o B;have w1:=fD i aa;obtain⟨w,g3⟩:=aj.1 q;have u:=aF g3;have j:=λc=>acH c x.1 s.1 x.2 s.2;rw[aG,p];by_cases g:x=s
  ·have k:decide ((x.1,x.2)=(s.1,s.2))=true:=π g;rw[k] at j;simp only[go_sem,seval,a0,a3,a5,f,d,v,w,u,j];exact .inr ⟨aK,by rw[g];exact as1,by simp[go_sem]⟩
  ·have k:decide ((x.1,x.2)=(s.1,s.2))=false:=ξ g;rw[k] at j;simp only[go_sem,seval,a0,a3,a5,f,d,v,w,u,j,w1];refine aT ((λα=>abt (o:=o) A (s:=s) (p3:=p3) r (i+1) α ⟨n,L⟩ y aa ⟨te,q⟩) _ ?_ ?_ ?_) ?_
   case refine_4=>
    rintro e t H' (⟨a,b⟩|⟨a,b,c⟩)
    ·exact .inl ⟨a,λhm=>(Ν.1 hm).elim (λh=>g h.symm) b⟩
    ·exact .inr ⟨a,Η _ b,c⟩
   all_goals simp[go_sem,a0,a3]
def YI{o:Ab.Own}{n:Nat}(h:o.bare=au n):(au n).bare=au n:=kF n
def auR(l:List Sp)(a:l.length<=1000000000)(s:Sp):aI prog (run cX) 38 [.vec (au l.length) (l.map b_),.agg [.str s.1,.i s.2]]=some (.bool (l.contains s)):=by
 refine fk (c:=.seq _ (.seq (.seq _ (.block 0 (.loop LH))) (.seq _ _))) rfl rfl func38 rfl (by rw[ntmps38];simp) (bW:=[.vec (au l.length) (l.map b_),.agg [.str s.1,.i s.2]]) (by simp[AV.erase,AV.bare,kF]) ?_ ?_ rfl
 ·show((AV.vec (au l.length) (l.map b_)).aq&&_)=true;rw[iE (go_sp l)];rfl
 simp only[go_sem,seval,ab.empty,Se];simp only[cg];refine bL (mG (abt (o:=au l.length) (s:=s) (p3:=0) a l 0 _ _ rfl (aDT _) ⟨none,rfl⟩ ?_ ?_ ?_)) ?_
 case refine_4=>
  rintro _ ⟨e,ae,H',rfl,⟨rfl,hm⟩|⟨rfl,hm,b⟩⟩
  ·simp only[go_sem,seval,results38]
   have:l.contains s=false:=by
    cases hc:l.contains s with
    |false=>rfl
    |true=>exact(hm (Θ.1 hc)).elim
   rw[this];exact⟨_,rfl,rfl⟩
  ·simp only[go_sem,seval,b,results38];rw[Θ.2 hm];exact⟨_,rfl,rfl⟩
 all_goals simp[go_sem]
 all_goals(try rfl)
def HF{o:Ab.Own}(l:List Sp)(b:o.bare=au l.length)(a:l.length<=1000000000)(s:Sp)(H):bt cX 38 [.vec o (l.map b_),.agg [.str s.1,.i s.2]] H=some (.bool (l.contains s),H):=by refine cM rfl ?_ H;rw[<-wh];rw[<-auR l a s,<-wh (args:=[.vec (au l.length) (l.map b_),_])];congr 1;simp[AV.erase,AV.bare,b,kF]
def go_sy:∀l:List Sy,AV.aq.go (l.map cL)=true
 |[]=>rfl
 |x::l=>by show((cL x).aq&&AV.aq.go (l.map cL))=true;rw[go_sy l];rfl
def fP(s:Sy):Sp:=(s.1,(s.2:Int))
def ON{a b:Sy}(h:fP a=fP b):a=b:=by simp only[fP,aDS,Int.ofNat_inj] at h;exact aFM h.1 h.2
def EM{l:List Sy}{s:Sy}:fP s∈l.map fP↔s∈l:=⟨λh=>by
 obtain⟨x,a,e⟩:=aDt.1 h
 exact ON e▸a,λh=>aDt.2 ⟨s,h,rfl⟩⟩
def apA(l:List Sy)(s:Sy):(l.map fP).contains (fP s)=l.contains s:=by rw[aD0,Θ,Θ];exact EM
def OO(l:List Sy):(l.map fP).map b_=l.map cL:=by rw[aEz];rfl
def Z1{o:Ab.Own}(l:List Sy)(b:o.bare=au l.length)(a:l.length<=1000000000)(s:Sy)(H):bt cX 38 [.vec o (l.map cL),.agg [.str s.1,.i s.2]] H=some (.bool (l.contains s),H):=by rw[<-OO,<-apA];exact HF (l.map fP) (by rw[φ];exact b) (by rw[φ];exact a) (fP s) H
abbrev Cp:=Sp×Sp
def fw(x:Cp):AV:=.agg [.str x.1.1,.i x.1.2,.str x.2.1,.i x.2.2]
def lB(c:Ca):Cp:=(fP c.1,fP c.2)
def go_cp:∀l:List Cp,AV.aq.go (l.map fw)=true
 |[]=>rfl
 |x::l=>by show((fw x).aq&&AV.aq.go (l.map fw))=true;rw[go_cp l];rfl
inductive gA {T:Type} (cs:List (T×T)) (l:List T):T->Prop
 |one {c:T×T}:c∈cs->c.1∈l->gA cs l c.2
 |more {c:T×T}:c∈cs->gA cs l c.1->gA cs l c.2
def gA.to{T:Type}{cs:List (T×T)}{l s}(h:gA cs l s):s∈cs.map (·.2):=by
 cases h with
 |one a _=>exact aDt.2 ⟨_,a,rfl⟩
 |more a _=>exact aDt.2 ⟨_,a,rfl⟩
def Hi{T:Type}[DecidableEq T]:∀{l m:List T},l.Nodup->(∀a∈l,a∈m)->l.length<=m.length
 |[],m,_,_=>aDT _
 |a::l,m,e,d=>by
  have c:=d a as1
  have g:=Hi (l:=l) (m:=m.erase a) (aEN.1 e).2 λb hb=>by
   have f:b≠a:=by rintro rfl;exact(aEN.1 e).1 hb
   exact(List.mem_erase_of_ne f).2 (d b (Η _ hb))
  rw[List.length_erase_of_mem c] at g;have:=List.length_pos_of_mem c;rw[Ι];omega
structure InvC{T:Type}(cs:List (T×T))(l out:List T):Prop where
 sa:out.Nodup
 qs:∀s∈out,gA cs l s
def InvC.len{T:Type}[DecidableEq T]{cs:List (T×T)}{l out}(h:InvC cs l out):out.length<=cs.length:=by have:=Hi h.sa λs a=>(h.qs s a).to;simpa using this
def MK{T:Type}{l:List T}{a:T}(h:l.Nodup)(c:¬a∈l):(l++[a]).Nodup:=by rw[aFg];refine⟨h,aEG _ _,λx d b hb=> ?_⟩;rw[Μ] at hb;rintro rfl;exact c (hb▸d)
def aBE(o){l:List Cp}{i:Nat}{x:Cp}(h:l[i]? =some x):dC prog 45 (.vec o (l.map fw)) (.i i)=some (.rptr [.str x.1.1,.i x.1.2,.str x.2.1,.i x.2.2]):=oC I6 I5 fw o h rfl
def Z2(x:Sp)(H:ab):dS prog 52 1 [(0,.agg [.str x.1,.i x.2])] H=some (.vec .full [.agg [.str x.1,.i x.2]],H):=tL EL (b_ x) rfl rfl aA H
def auS(x):(b_ x).width=some 2:=rfl
def BS{H et o n}(h:bY H et o n):o.bare=au n:=h.bare
noncomputable def Gx:=f14.c.r.r.b.b
noncomputable def Bz:=Gx.b.r.l.r.b.b
section
variable {cs:List Cp} {l:List Sp} {o0 o1:Ab.Own}
def Ig(Y:cs.length<=128000000)(P:l.length<=1000000000)(N:o1.bare=au l.length):∀r i out o2 q α H,cs.drop i=r->InvC cs l out->bY H 49 o2 out.length->
  α 0=.vec o0 (cs.map fw)->α 1=.vec o1 (l.map b_)->α 5=.vec o2 (out.map b_)->α 6=.bool q->α 7=.i i->
  aD (aJ (aO cX Bz) α H) λe j H'=>e=.exit 2/\∃f k,InvC cs l (out++f)/\bY H' 49 k (out++f).length/\j 5=.vec k ((out++f).map b_)/\j 6=.bool (q|| !f.isEmpty)/\(∀c∈r,(c.1∈l\/c.1∈out)->c.2∈out++f)/\j 0=.vec o0 (cs.map fw)/\j 1=.vec o1 (l.map b_)
 |[],i,out,o2,q,α,⟨n,L⟩,Q,v,hg,a0,a1,a5,a6,a7=>by
  have T:Bz=.seq (.seq _ (.cond _ _ _)) (.seq (.block _ (.seq _ (.cond _ (.seq _ _) _))) _):=rfl;have hk:cs.length<=i:=Κ.1 Q;have u:=d_ (a:=i) (b:=cs.length) (by omega);have w:(cs.map fw).length=cs.length:=φ ..;rw[aG,T];simp only[go_sem,seval,a0,a7,w,u];refine⟨aK,[],o2,by rw[aDi];exact v,by rw[aDi];exact hg,?_,?_,λc h=>(by cases h),?_⟩
  ·simp[go_sem,a5]
  ·simp[go_sem,a6]
  ·simp[put,a0,a1]
 |c::r,i,out,o2,q,α,⟨n,L⟩,Q,v,hg,a0,a1,a5,a6,a7=>by
  have T:Bz=.seq (.seq _ (.cond _ _ _)) (.seq (.block 3 (.seq _ (.cond _ (.seq _ _) _))) _):=rfl;obtain⟨W,hi,U⟩:=mD Q;have hm:=Β W;have oe:=v.len;have u:=dM hi;have w:(cs.map fw).length=cs.length:=φ ..;have E:=aBE o0 W;have w1:=fD i aa;have o:=HF l N P c.1;have c2:=HF out (BS hg) (by omega) c.1;have z:=HF out (BS hg) (by omega) c.2
  have skip:(¬(c.1∈l\/c.1∈out)\/c.2∈out)->∀g:az,g 0=.vec o0 (cs.map fw)->g 1=.vec o1 (l.map b_)->g 5=.vec o2 (out.map b_)->g 6=.bool q->g 7=.i (i+1:Nat)->
    aD (aJ (aO cX Bz) g ⟨n,L⟩) λe j H'=>e=.exit 2/\∃f k,InvC cs l (out++f)/\bY H' 49 k (out++f).length/\j 5=.vec k ((out++f).map b_)/\j 6=.bool (q|| !f.isEmpty)/\(∀d∈c::r,(d.1∈l\/d.1∈out)->d.2∈out++f)/\j 0=.vec o0 (cs.map fw)/\j 1=.vec o1 (l.map b_):=λR g M b1 I J b7=>by
   refine aT (Ig Y P N r (i+1) out o2 q g ⟨n,L⟩ U v hg M b1 I J b7) ?_;rintro e j H' ⟨rfl,f,k,x,A,C,O,F,K⟩;refine⟨rfl,f,k,x,A,C,O,λd t G=> ?_,K⟩;rcases Ν.1 t with rfl|t
   ·exact aDo _ (R.resolve_left λh=>h G)
   ·exact F d t G
  rw[aG,T];by_cases y:c.1∈l\/c.1∈out
  ·by_cases D:c.2∈out
   ·rw[Θ.2 D] at z;by_cases p:c.1∈l
    ·rw[Θ.2 p] at o;simp only[go_sem,seval,a0,a1,a5,a7,w,u,E,o,z,ω,w1];refine skip (.inr D) _ ?_ ?_ ?_ ?_ ?_;all_goals simp[go_sem,a0,a1,a5,a6]
    ·have B:=y.resolve_left p;rw[show l.contains c.1=false by simpa using p] at o;rw[Θ.2 B] at c2;simp only[go_sem,seval,a0,a1,a5,a7,w,u,E,o,c2,z,ω,w1];refine skip (.inr D) _ ?_ ?_ ?_ ?_ ?_;all_goals simp[go_sem,a0,a1,a5,a6]
   ·rw[show out.contains c.2=false by simpa using D] at z;obtain⟨k,⟨n2,S⟩,x,A,C⟩:=wA (m:=λ_=>false) EL rfl auS .full c.2 hg aa aa;have V:cj (λ_=>false) prog 52 52 (.vec o2 (out.map b_)) (.vec .full [.agg [.str c.2.1,.i c.2.2]]) ⟨n,L⟩=some (.vec k ((out++[c.2]).map b_),⟨n2,S⟩):=x;have X:=Z2 c.2;have Z:gA cs l c.2:=y.elim (λh=>.one hm h) λh=>.more hm (v.qs _ h);have uw:InvC cs l (out++[c.2]):=⟨MK v.sa D,λs R=>(Ω.1 R).elim (v.qs s) λh=>by rw[Μ.1 h];exact Z⟩
    have step:∀g:az,g 0=.vec o0 (cs.map fw)->g 1=.vec o1 (l.map b_)->g 5=.vec k ((out++[c.2]).map b_)->g 6=.bool true->g 7=.i (i+1:Nat)->
      aD (aJ (aO cX Bz) g ⟨n2,S⟩) λe j H'=>e=.exit 2/\∃f k,InvC cs l (out++f)/\bY H' 49 k (out++f).length/\j 5=.vec k ((out++f).map b_)/\j 6=.bool (q|| !f.isEmpty)/\(∀d∈c::r,(d.1∈l\/d.1∈out)->d.2∈out++f)/\j 0=.vec o0 (cs.map fw)/\j 1=.vec o1 (l.map b_):=λg M b1 I J b7=>by
     refine aT (Ig Y P N r (i+1) (out++[c.2]) k true g ⟨n2,S⟩ U uw A M b1 I J b7) ?_;rintro e j H' ⟨rfl,f,Gs,x,A,C,O,F,K⟩;rw[adv] at x A C F;refine⟨rfl,[c.2]++f,Gs,x,A,C,by rw[O];simp,λd t G=> ?_,K⟩;rcases Ν.1 t with rfl|t
     ·exact aEg _ (aDo _ (Μ.2 rfl))
     ·exact F d t (G.imp_right λh=>aDo _ h)
    by_cases p:c.1∈l
    ·rw[Θ.2 p] at o;simp only[go_sem,seval,a0,a1,a5,a7,w,u,E,o,z,Α,w1,X,cQ,V];refine step _ ?_ ?_ ?_ ?_ ?_;all_goals simp[go_sem,a0,a1]
    ·have B:=y.resolve_left p;rw[show l.contains c.1=false by simpa using p] at o;rw[Θ.2 B] at c2;simp only[go_sem,seval,a0,a1,a5,a7,w,u,E,o,c2,z,Α,w1,X,cQ,V];refine step _ ?_ ?_ ?_ ?_ ?_;all_goals simp[go_sem,a0,a1]
  ·have p:¬c.1∈l:=λh=>y (.inl h);have B:¬c.1∈out:=λh=>y (.inr h);rw[show l.contains c.1=false by simpa using p] at o;rw[show out.contains c.1=false by simpa using B] at c2;simp only[go_sem,seval,a0,a1,a5,a7,w,u,E,o,c2,w1];refine skip (.inl y) _ ?_ ?_ ?_ ?_ ?_;all_goals simp[go_sem,a0,a1,a5,a6]
structure wG{T:Type}(cs:List (T×T))(l out:List T):Prop extends InvC cs l out where
 all:∀s,gA cs l s->s∈out
def XW{out:List Sp}(h:∀c∈cs,(c.1∈l\/c.1∈out)->c.2∈out):∀s,gA cs l s->s∈out:=λs d=>by
 induction d with
 |one a b=>exact h _ a (.inl b)
 |more a _ ih=>exact h _ a (.inr ih)
def apB(s:cs.length<=128000000)(r:l.length<=1000000000)(q:o1.bare=au l.length):∀d out o2 α H,cs.length<=d+out.length->InvC cs l out->bY H 49 o2 out.length->
  α 0=.vec o0 (cs.map fw)->α 1=.vec o1 (l.map b_)->α 5=.vec o2 (out.map b_)->
  aD (aJ (aO cX Gx) α H) λe j H'=>e=.ret/\∃k b,wG cs l k/\bY H' 49 b k.length/\j 4=.vec b (k.map b_):=by
 intro d
 induction d with
 |zero=>
  intro out o2 α H t m hg a0 a1 a5;obtain⟨n,L⟩:=H;have o:Gx=.block 1 (.seq _ (.seq (.seq _ (.block 2 (.loop Bz))) (.seq _ (.cond _ (.seq _ _) _)))):=rfl;rw[aG,o];simp only[go_sem,seval];simp only[cg];refine bL (dE (Ig s r q (o0:=o0) cs 0 out o2 false _ _ rfl m hg ?_ ?_ ?_ ?_ ?_)) ?_
  case refine_6=>
   rintro _ ⟨j,⟨u,w⟩,rfl,h,b,a,f,c,i,g,p⟩;have x:=a.len;rw[χ] at x;have z:h=[]:=Ψ.1 (by omega);subst z;rw[aDi] at a f c g;simp only[go_sem,seval,i,c,aEt,ω,Bool.or_self,Α];exact⟨aK,out,b,⟨a,XW g⟩,f,by simp[go_sem]⟩
  all_goals simp[go_sem,a0,a1,a5]
 |succ d ih=>
  intro out o2 α H t m hg a0 a1 a5;obtain⟨n,L⟩:=H;have o:Gx=.block 1 (.seq _ (.seq (.seq _ (.block 2 (.loop Bz))) (.seq _ (.cond _ (.seq _ _) _)))):=rfl;rw[aG,o];simp only[go_sem,seval];simp only[cg];refine bL (dE (Ig s r q (o0:=o0) cs 0 out o2 false _ _ rfl m hg ?_ ?_ ?_ ?_ ?_)) ?_
  case refine_6=>
   rintro _ ⟨j,⟨u,w⟩,rfl,h,b,a,f,c,i,g,p,v⟩
   cases h with
   |nil=>rw[aDi] at a f c g;simp only[go_sem,seval,i,c,aEt,ω,Bool.or_self,Α];exact⟨aK,out,b,⟨a,XW g⟩,f,by simp[go_sem]⟩
   |cons y h=>
    simp only[go_sem,seval,i,List.isEmpty_cons,Α,aFe,ω];refine ih (out++y::h) b _ _ (by rw[χ,Ι];omega) a f ?_ ?_ ?_;all_goals simp[go_sem,p,v,c]
  all_goals simp[go_sem,a0,a1,a5]
end
def Z3(cs:List Cp)(l:List Sp)(j:cs.length<=128000000)(d:l.length<=1000000000):∃out,wG cs l out/\aI prog (run cX) 14 [.vec (au cs.length) (cs.map fw),.vec (au l.length) (l.map b_)]=some (.vec (au out.length) (out.map b_)):=by
 suffices hh:∃v,aI prog (run cX) 14 [.vec (au cs.length) (cs.map fw),.vec (au l.length) (l.map b_)]=some v/\∃out,wG cs l out/\v=.vec (au out.length) (out.map b_) by obtain⟨v,h,out,g,rfl⟩:=hh;exact⟨out,g,h⟩
 refine uO (c:=.seq _ (.seq _ (.block 0 (.loop Gx)))) rfl rfl func14 rfl (by rw[ntmps14];simp) (bW:=[.vec (au cs.length) (cs.map fw),.vec (au l.length) (l.map b_)]) (by simp[AV.erase,kF];exact⟨by simp[AV.bare,kF],by simp[AV.bare,kF]⟩) ?_ ?_
 ·show((AV.vec (au cs.length) (cs.map fw)).aq&&((AV.vec (au l.length) (l.map b_)).aq&&_))=true;rw[iE (go_cp cs),iE (go_sp l)];rfl
 simp only[go_sem,seval,ab.empty,kZ];refine bL (mG (apB (o0:=au cs.length) j d (kF _) cs.length [] .nil _ _ (μ _) ⟨.nil,λs h=>by cases h⟩ (.inl ⟨rfl,rfl⟩) ?_ ?_ ?_)) ?_
 case refine_4=>
  rintro _ ⟨e,ae,H',rfl,rfl,out,k,f,m,i⟩;simp only[go_sem,seval,i,results14];refine⟨_,_,.vec (au out.length) (out.map b_),rfl,?_,out,f,rfl⟩;have hb:=BS m;have a:(AV.vec (au out.length) (out.map b_)).aq=true:=iE (go_sp out);have b:(AV.vec k (out.map b_)).erase=.vec (au out.length) (out.map b_):=by simp[AV.erase,AV.bare,hb]
  rw[b,ν a]
 all_goals(try simp[go_sem])
 all_goals(try rfl)
def abu(x:Sy)(H:ab):dS prog 52 1 [(0,.agg [.str x.1,.i x.2])] H=some (.vec .full [.agg [.str x.1,.i x.2]],H):=Z2 (fP x) H
def acI(x):(cL x).width=some 2:=rfl
def acJ{cs:List Ca}{l:List Sy}{p:Sp}(h:gA (cs.map lB) (l.map fP) p):∃s,p=fP s/\gA cs l s:=by
 induction h with
 |one a b=>obtain⟨c,hm,rfl⟩:=aDt.1 a;exact⟨c.2,rfl,.one hm (EM.1 b)⟩
 |more a _ ih=>obtain⟨c,hm,rfl⟩:=aDt.1 a;obtain⟨s,e,d⟩:=ih;exact⟨c.2,rfl,.more hm (ON (show fP c.1=fP s from e)▸d)⟩
def auT{cs:List Ca}{l:List Sy}{s:Sy}(h:gA cs l s):gA (cs.map lB) (l.map fP) (fP s):=by
 induction h with
 | @one c a b=>exact .one (c:=lB c) (aDt.2 ⟨c,a,rfl⟩) (EM.2 b)
 | @more c a _ ih=>exact .more (c:=lB c) (aDt.2 ⟨c,a,rfl⟩) ih
def OP(l:List Ca):(l.map lB).map fw=l.map fj:=by rw[aEz];rfl
def auU(cs:List Ca)(l:List Sy)(i:cs.length<=128000000)(g:l.length<=1000000000):∃out,wG cs l out/\aI prog (run cX) 14 [.vec (au cs.length) (cs.map fj),.vec (au l.length) (l.map cL)]=some (.vec (au out.length) (out.map cL)):=by
 obtain⟨out,a,c⟩:=Z3 (cs.map lB) (l.map fP) (by rw[φ];exact i) (by rw[φ];exact g)
 have j:∃o:List Sy,out=o.map fP:=⟨out.map λp=>(p.1,p.2.toNat),by
  rw[aEz];have e:out.map (fP∘λp:Sp=>(p.1,p.2.toNat))=out.map id:=aDO λp d=>by obtain⟨s,rfl,_⟩:=acJ (a.qs p d);rfl
  exact(e.trans (List.map_id _)).symm⟩
 obtain⟨o,rfl⟩:=j;rw[OP,OO,OO,φ,φ,φ] at c;refine⟨o,⟨⟨?_,λs b=> ?_⟩,λs b=>EM.1 (a.all _ (auT b))⟩,c⟩
 ·exact(aED.1 a.sa).imp λf e=>f (Λ fP e)
 ·obtain⟨t,e,h⟩:=acJ (a.qs _ (EM.2 b));exact ON e▸h
set_option maxRecDepth 100000
set_option maxHeartbeats 8000000
variable {us:List Un} {u:Un}
def ed:List UInt8:=[109,97,105,110]
def nM(r:List Bi):List Sy:=(r.filter λb=>decide (b.k=2)&&(b.w==ed)).map λb=>(ed,b.at_)
def fy(us:List Un):List Sy:=match eO us ed with|some u=>nM u.mp.bs|none=>[]
def apC(r:List Bi):(nM r).length<=r.length:=by unfold nM;rw[φ];exact List.length_filter_le _ _
def apD(c:Proj us)(w):(eO us w=none/\∀H,bt cX 37 [.vec (au us.length) (wU us),.str w] H=some (.i (-1),H))\/∃(u:Un) (j:Nat),eO us w=some u/\us[j]? =some u/\∀H,bt cX 37 [.vec (au us.length) (wU us),.str w] H=some (.i j,H):=by
 rcases abg us w c.iJ with⟨a,b⟩|⟨u,j,a,b,d⟩
 ·exact .inl ⟨a,λH=>ji (fs:=[36,37]) rfl rfl (λ_ _=>rfl) rfl b rfl rfl H⟩
 ·exact .inr ⟨u,j,a,b,λH=>ji (fs:=[36,37]) rfl rfl (λ_ _=>rfl) rfl d rfl rfl H⟩
noncomputable def Gy:=f12.c.r.r.r.r.l.r.b.b
def OQ(v:GoodU u){i:Nat}(q:us[i]? =some u){fin:List Sy}:∀r k acc o2 α H,u.mp.bs.drop k=r->fin=acc++nM r->acc.length<=k->bY H 49 o2 acc.length->
  α 0=.vec (au us.length) (wU us)->α 3=.vec o2 (acc.map cL)->α 4=.i i->α 5=.i k->
  aD (aJ (aO cX Gy) α H) λe j H'=>e=.exit 0/\∃c,bY H' 49 c fin.length/\j 3=.vec c (fin.map cL)/\j 0=.vec (au us.length) (wU us)
 |[],k,acc,o2,α,⟨n,L⟩,t,o,O,hg,a0,a3,a4,a5=>by have x:Gy=.seq (.seq _ (.cond _ _ _)) (.seq (.block _ (.seq _ (.seq _ (.cond _ _ _)))) _):=rfl;have h:u.mp.bs.length<=k:=Κ.1 t;have p:=d_ (a:=k) (b:=u.mp.bs.length) (by omega);have f:(u.mp.bs.map a_).length=u.mp.bs.length:=φ ..;have g:=rS (au us.length) q;simp[nM] at o;subst o;rw[aG,x];simp only[go_sem,seval,a0,a4,a5,g,f,p];exact⟨aK,o2,hg,by simp[go_sem,a3],by simp[put,a0]⟩
 |b::r,k,acc,o2,α,⟨n,L⟩,t,o,O,hg,a0,a3,a4,a5=>by
  have x:Gy=.seq (.seq _ (.cond _ _ _)) (.seq (.block 1 (.seq _ (.seq _ (.cond _ _ _)))) _):=rfl;obtain⟨hb,hi,z⟩:=mD t;have A8:=v.iJ;have p:=dM hi;have f:(u.mp.bs.map a_).length=u.mp.bs.length:=φ ..;have y:=w_ (au u.mp.bs.length) hb;have g:=rS (au us.length) q;have w1:=fD k aa;have s:=aY (n<n+1);have A:=tU (.k 93 [.i b.at_,.i b.k,.str b.w,.i b.item]) hg;have l:((b.k:Int)==2)=decide (b.k=2):=ez b.k 2;rw[aG,x]
  have skip:(decide (b.k=2)&&(b.w==ed))=false->∀d:az,d 0=.vec (au us.length) (wU us)->d 3=.vec o2 (acc.map cL)->d 4=.i i->d 5=.i (k+1:Nat)->
    aD (aJ (aO cX Gy) d ⟨n+1,(n,.k 93 [.i b.at_,.i b.k,.str b.w,.i b.item])::L⟩) λe j H'=>e=.exit 0/\∃c,bY H' 49 c fin.length/\j 3=.vec c (fin.map cL)/\j 0=.vec (au us.length) (wU us):=λM d G F K E=>
   OQ v q r (k+1) acc o2 d ⟨n+1,(n,.k 93 [.i b.at_,.i b.k,.str b.w,.i b.item])::L⟩ z (by rw[o,nM,aEI,M];rfl) (by omega) A G F K E
  by_cases h:b.k=2
  ·rw[π h] at l
   cases hw:b.w==ed with
   |true=>
    have N:fin=acc++[(ed,b.at_)]++nM r:=by rw[o,nM,aEI,ν (by rw[hw];simp[h])];simp[nM]
    obtain⟨c,⟨n2,C⟩,I,P,q3⟩:=wA (m:=λ_=>false) EL rfl acI .full (ed,b.at_) A aa aa;have B:cj (λ_=>false) prog 52 52 (.vec o2 (acc.map cL)) (.vec .full [.agg [.str ed,.i b.at_]]) ⟨n+1,(n,.k 93 [.i b.at_,.i b.k,.str b.w,.i b.item])::L⟩=some (.vec c ((acc++[(ed,b.at_)]).map cL),⟨n2,C⟩):=I;have D:=abu (ed,b.at_);unfold ed at hw D B;simp only[go_sem,seval,a0,a3,a4,a5,g,f,p,y,s,l,hw,w1,aZ,D,cQ,B];refine OQ v q r (k+1) (acc++[(ed,b.at_)]) c _ ⟨n2,C⟩ z N aX P ?_ ?_ ?_ ?_;all_goals simp[go_sem,a0,a4]
    all_goals(try rfl)
   |false=>
    have J:=hw;unfold ed at hw;simp only[go_sem,seval,a0,a3,a4,a5,g,f,p,y,s,l,hw,w1];refine skip (by rw[J];simp) _ ?_ ?_ ?_ ?_;all_goals simp[go_sem,a0,a3,a4]
  ·rw[ξ h] at l;simp only[go_sem,seval,a0,a3,a4,a5,g,f,p,y,s,l,w1];refine skip (by simp[h]) _ ?_ ?_ ?_ ?_;all_goals simp[go_sem,a0,a3,a4]
noncomputable def Gz:=f12.c.r.r.r.r.r.r.r.l.r.b.b
noncomputable def BB:=Gz.r.l.b.r.b.b
def sd(P:Sy->Bool)(nm:List UInt8)(t d:Nat):List Sy:=((List.range' t d).filter λt=>P (nm,t)).map λt=>(nm,t)
def kR(P:Sy->Bool)(us:List Un):List Sy:=us.flatMap λu=>sd P u.nm 0 u.tk.length
def ako(P nm t d):sd P nm t (d+1)=(if P (nm,t)=true then[(nm,t)] else[])++sd P nm (t+1) d:=by unfold sd;rw[List.range'_succ,aEI];cases h:P (nm,t)<;>simp
def apE(P nm t d):(sd P nm t d).length<=d:=by unfold sd;rw[φ];have:=List.length_filter_le (λt=>P (nm,t)) (List.range' t d);rw[List.length_range'] at this;exact this
def jD(l out:List Sy)(s:Sy):Bool:=l.contains s||out.contains s
section
variable {l co:List Sy} {o3 o7:Ab.Own}
def OR(E:GoodU u){i:Nat}(s:us[i]? =some u)(B:o3.bare=au l.length)(y:o7.bare=au co.length)(A:l.length<=1000000000)(D:co.length<=1000000000){fin:List Sy}:∀d t acc o2 α H,t+d=u.tk.length->fin=acc++sd (jD l co) u.nm t d->acc.length+d<=1000000000->bY H 49 o2 acc.length->
  α 0=.vec (au us.length) (wU us)->α 3=.vec o3 (l.map cL)->α 7=.vec o7 (co.map cL)->α 8=.vec o2 (acc.map cL)->α 9=.i i->α 10=.i t->
  aD (aJ (aO cX BB) α H) λe f H'=>e=.exit 4/\(∃g,bY H' 49 g fin.length/\f 8=.vec g (fin.map cL))/\f 0=.vec (au us.length) (wU us)/\f 3=.vec o3 (l.map cL)/\f 7=.vec o7 (co.map cL)/\f 9=.i i
 |0,t,acc,o2,α,⟨n,L⟩,N,j,P,hg,a0,a3,a7,a8,h,bT=>by have G:BB=.seq (.seq _ (.cond _ _ _)) (.seq (.block _ (.seq _ (.seq _ (.cond _ _ _)))) _):=rfl;have r:=d_ (a:=t) (b:=u.tk.length) (by omega);have o:(V u.tk).length=u.tk.length:=CJ _;have p:=rS (au us.length) s;simp[sd] at j;subst j;rw[aG,G];simp only[go_sem,seval,a0,h,bT,p,o,r];refine⟨aK,⟨o2,hg,by simp[go_sem,a8]⟩,?_⟩;simp[put,a0,a3,a7,h]
 |d+1,t,acc,o2,α,⟨n,L⟩,N,j,P,hg,a0,a3,a7,a8,h,bT=>by
  have G:BB=.seq (.seq _ (.cond _ _ _)) (.seq (.block 5 (.seq _ (.seq _ (.cond _ _ _)))) _):=rfl;have nE:=E.Tw;have r:=dM (a:=t) (b:=u.tk.length) (by omega);have o:(V u.tk).length=u.tk.length:=CJ _;have p:=rS (au us.length) s;have w1:=fD t aa;have v:=aY (n<n+1);have J:=tU (.k 49 [.str u.nm,.i t]) hg;have q:=Z1 l B A (u.nm,t);have c2:=Z1 co y D (u.nm,t);rw[ako] at j;rw[aG,G]
  have skip:jD l co (u.nm,t)=false->∀c:az,c 0=.vec (au us.length) (wU us)->c 3=.vec o3 (l.map cL)->c 7=.vec o7 (co.map cL)->c 8=.vec o2 (acc.map cL)->c 9=.i i->c 10=.i (t+1:Nat)->
    aD (aJ (aO cX BB) c ⟨n+1,(n,.k 49 [.str u.nm,.i t])::L⟩) λe f H'=>e=.exit 4/\(∃g,bY H' 49 g fin.length/\f 8=.vec g (fin.map cL))/\f 0=.vec (au us.length) (wU us)/\f 3=.vec o3 (l.map cL)/\f 7=.vec o7 (co.map cL)/\f 9=.i i:=λC c x w b7 b8 z I=>
   OR E s B y A D d (t+1) acc o2 c ⟨n+1,(n,.k 49 [.str u.nm,.i t])::L⟩ (by omega) (by rw[j,C];rfl) (by omega) J x w b7 b8 z I
  obtain⟨g,⟨n2,F⟩,O,Q,q3⟩:=wA (m:=λ_=>false) EL rfl acI .full (u.nm,t) J aa aa;have K:cj (λ_=>false) prog 52 52 (.vec o2 (acc.map cL)) (.vec .full [.agg [.str u.nm,.i t]]) ⟨n+1,(n,.k 49 [.str u.nm,.i t])::L⟩=some (.vec g ((acc++[(u.nm,t)]).map cL),⟨n2,F⟩):=O;have M:=abu (u.nm,t)
  have step:jD l co (u.nm,t)=true->∀c:az,c 0=.vec (au us.length) (wU us)->c 3=.vec o3 (l.map cL)->c 7=.vec o7 (co.map cL)->c 8=.vec g ((acc++[(u.nm,t)]).map cL)->c 9=.i i->c 10=.i (t+1:Nat)->
    aD (aJ (aO cX BB) c ⟨n2,F⟩) λe f H'=>e=.exit 4/\(∃g,bY H' 49 g fin.length/\f 8=.vec g (fin.map cL))/\f 0=.vec (au us.length) (wU us)/\f 3=.vec o3 (l.map cL)/\f 7=.vec o7 (co.map cL)/\f 9=.i i:=λC c x w b7 b8 z I=>
   OR E s B y A D d (t+1) (acc++[(u.nm,t)]) g c ⟨n2,F⟩ (by omega) (by rw[j,C];simp) aX Q x w b7 b8 z I
  cases ik:l.contains (u.nm,t) with
  |true=>
   rw[ik] at q;simp only[go_sem,seval,a0,a3,a7,a8,h,bT,p,o,rT,r,v,aZ,q,w1,M,cQ,K];refine step (by unfold jD;rw[ik];rfl) _ ?_ ?_ ?_ ?_ ?_ ?_;all_goals simp[go_sem,a0,a3,a7,h]
  |false=>
   rw[ik] at q
   cases iN:co.contains (u.nm,t) with
   |true=>
    rw[iN] at c2;simp only[go_sem,seval,a0,a3,a7,a8,h,bT,p,o,rT,r,v,aZ,q,c2,w1,M,cQ,K];refine step (by unfold jD;rw[ik,iN];rfl) _ ?_ ?_ ?_ ?_ ?_ ?_;all_goals simp[go_sem,a0,a3,a7,h]
   |false=>
    rw[iN] at c2;simp only[go_sem,seval,a0,a3,a7,a8,h,bT,p,o,rT,r,v,aZ,q,c2,w1];refine skip (by unfold jD;rw[ik,iN];rfl) _ ?_ ?_ ?_ ?_ ?_ ?_;all_goals simp[go_sem,a0,a3,a7,a8,h]
def Z4(h:jV us)(v:o3.bare=au l.length)(q:o7.bare=au co.length)(s:l.length<=1000000000)(w:co.length<=1000000000){fin:List Sy}:∀r i acc o2 α H,us.drop i=r->fin=acc++kR (jD l co) r->acc.length+4000*r.length<=1000000000->bY H 49 o2 acc.length->
  α 0=.vec (au us.length) (wU us)->α 3=.vec o3 (l.map cL)->α 7=.vec o7 (co.map cL)->α 8=.vec o2 (acc.map cL)->α 9=.i i->
  aD (aJ (aO cX Gz) α H) λe p H'=>e=.exit 2/\∃f,bY H' 49 f fin.length/\p 8=.vec f (fin.map cL)
 |[],i,acc,o2,α,⟨n,L⟩,j,c,x,hg,a0,a3,a7,a8,d=>by have m:Gz=.seq (.seq _ (.cond _ _ _)) (.seq (.block _ (.seq _ (.block _ (.loop BB)))) _):=rfl;have hk:us.length<=i:=Κ.1 j;have k:=d_ (a:=i) (b:=us.length) (by omega);have g:(wU us).length=us.length:=φ ..;simp[kR] at c;subst c;rw[aG,m];simp only[go_sem,seval,a0,d,g,k];exact⟨aK,o2,hg,by simp[go_sem,a8]⟩
 |u::r,i,acc,o2,α,⟨n,L⟩,j,c,x,hg,a0,a3,a7,a8,d=>by
  have m:Gz=.seq (.seq _ (.cond _ _ _)) (.seq (.block 3 (.seq _ (.block 4 (.loop BB)))) _):=rfl;obtain⟨t,hi,B⟩:=mD j;have o:=(h.vf u (Β t)).toGoodU;have nE:=o.Tw;have k:=dM hi;have w1:=fD i (by have:=h.iJ;omega);have g:(wU us).length=us.length:=φ ..;have nI:=apE (jD l co) u.nm 0 u.tk.length;simp at x;rw[kR,ap1] at c;rw[aG,m];simp only[go_sem,seval,a0,d,g,k];simp only[cg];refine bL (dE (OR o t v q s w (fin:=acc++sd (jD l co) u.nm 0 u.tk.length) u.tk.length 0 acc o2 _ _ (aDz _) rfl (by omega) hg ?_ ?_ ?_ ?_ ?_ ?_)) ?_
  case refine_7=>
   rintro _ ⟨p,⟨y,z⟩,rfl,⟨f,D,F⟩,C,A,b7,E⟩;simp only[go_sem,seval,E,w1];refine(λα=>Z4 h v q s w (fin:=fin) r (i+1) (acc++sd (jD l co) u.nm 0 u.tk.length) f α ⟨y,z⟩ B (by rw[c,adv];rfl) (by rw[χ];omega) D) _ ?_ ?_ ?_ ?_ ?_;all_goals simp[go_sem,C,A,b7,F]
  all_goals simp[go_sem,a0,a3,a7,a8,d]
  all_goals(try rfl)
end
set_option maxRecDepth 100000
set_option maxHeartbeats 8000000
variable {us:List Un} {u:Un}
def apF(a:jV us)(H):bt cX 11 [.vec (au us.length) (wU us)] H=some (.vec (au (eu us).length) ((eu us).map fj),H):=cM rfl (Z0 a) H
def apG(cs:List Ca)(l:List Sy){o:Ab.Own}(a:o.bare=au l.length)(e:cs.length<=128000000)(b:l.length<=1000000000):∃out,wG cs l out/\∀H,bt cX 14 [.vec (au cs.length) (cs.map fj),.vec o (l.map cL)] H=some (.vec (au out.length) (out.map cL),H):=by obtain⟨out,d,c⟩:=auU cs l e b;refine⟨out,d,λH=>cM rfl ?_ H⟩;rw[<-wh,<-c,<-wh (args:=[.vec (au cs.length) (cs.map fj),.vec (au l.length) (l.map cL)])];congr 1;simp[AV.erase,AV.bare,a,kF]
def apH{cs:List Ca}{s}:¬gA cs [] s:=λh=>by
 induction h with
 |one _ h=>cases h
 |more _ _ ih=>exact ih
def akp{P:Sy->Bool}(h:∀s,P s=false)(us:List Un):kR P us=[]:=by unfold kR;refine List.flatMap_eq_nil_iff.2 λu _=> ?_;unfold sd;rw[List.map_eq_nil_iff,List.filter_eq_nil_iff];intro t _;rw[h];simp
def M7(a:Proj us):(fy us).length<=4000:=by
 unfold fy
 cases h:eO us ed with
 |none=>exact aDT _
 |some u=>have h1:=apC u.mp.bs;have h2:=(a.pZ u (uP h).1).iJ;simp only;omega
def apI(a:jV us):∃out,wG (eu us) (fy us) out/\aI prog (run cX) 12 [fu us]=some (.vec (au (kR (jD (fy us) out) us).length) ((kR (jD (fy us) out) us).map cL)):=by
 suffices hh:∃v,aI prog (run cX) 12 [fu us]=some v/\∃out,wG (eu us) (fy us) out/\v=.vec (au (kR (jD (fy us) out) us).length) ((kR (jD (fy us) out) us).map cL) by obtain⟨v,h,out,b,rfl⟩:=hh;exact⟨out,b,h⟩
 refine uO (c:=.seq _ (.seq _ (.seq _ (.seq (.seq _ (.cond _ (.seq _ _) _)) (.seq (.seq _ (.block 0 (.loop Gy))) (.seq _ (.seq _ (.seq (.seq _ (.block 2 (.loop Gz))) (.seq _ _))))))))) rfl rfl func12 rfl (by rw[ntmps12];simp) (bW:=[fu us]) (by simp[E5]) ?_ ?_
 ·show((fu us).aq&&_)=true;rw[Cy];rfl
 have A8:=a.iJ;have uC:=M7 a.toProj;have p:=D6 a;rcases apD a.toProj ed with⟨b,e⟩|⟨u,j,b,k,e⟩
 ·have hm:fy us=[]:=by unfold fy;rw[b]
  have n:∀s:Sy,jD ([]:List Sy) [] s=false:=λs=>rfl;unfold ed at e;simp only[go_sem,seval,ab.empty,fu,kZ,e,results12];refine⟨_,_,.vec .nil [],rfl,rfl,[],⟨⟨.nil,λs h=>by cases h⟩,λs h=>by rw[hm] at h;exact(apH h).elim⟩,?_⟩;rw[hm,akp n];rfl
 ·have hm:fy us=nM u.mp.bs:=by unfold fy;rw[b]
  have q:=(a.vf u (uP b).1).toGoodU;have i:=bP ((j:Int)<0);unfold ed at e;simp only[go_sem,seval,ab.empty,fu,kZ,e,i];simp only[cg];refine bL (dE (OQ q k (fin:=fy us) u.mp.bs 0 [] .nil _ _ rfl (by rw[hm];rfl) (μ _) (.inl ⟨rfl,rfl⟩) ?_ ?_ ?_ ?_)) ?_
  case refine_5=>
   rintro _ ⟨ae,⟨n',L'⟩,rfl,o3,g3,g,f⟩;obtain⟨out,d,t⟩:=apG (eu us) (fy us) (BS g3) p (by omega);have gW:=d.len;simp only[go_sem,seval,f,g,apF a,t];simp only[cg];refine bL (dE (Z4 a (BS g3) (kF _) (by omega) (by omega) (l:=fy us) (co:=out) (fin:=kR (jD (fy us) out) us) us 0 [] .nil _ _ rfl rfl aX (.inl ⟨rfl,rfl⟩) ?_ ?_ ?_ ?_ ?_)) ?_
   case refine_6=>
    rintro _ ⟨gH,H2,rfl,o8,r,o⟩;simp only[go_sem,seval,o,results12];refine⟨_,_,.vec (au (kR (jD (fy us) out) us).length) ((kR (jD (fy us) out) us).map cL),rfl,?_,out,d,rfl⟩;have m:(AV.vec o8 ((kR (jD (fy us) out) us).map cL)).erase=.vec (au (kR (jD (fy us) out) us).length) ((kR (jD (fy us) out) us).map cL):=by simp[AV.erase,AV.bare,BS r]
    rw[m,ν (iE (go_sy _))]
   all_goals(try simp[go_sem,f,g,kZ])
   all_goals(try rfl)
  all_goals(try simp[go_sem,kZ])
  all_goals(try rfl)
end Go.Proofs.YtmehamiifalmaaaGreatDoor
