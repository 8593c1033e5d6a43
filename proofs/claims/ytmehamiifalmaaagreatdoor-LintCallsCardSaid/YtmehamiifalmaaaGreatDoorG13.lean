/- LintCalls: part 14 of its proof. -/
import Derived.Test.YtmehamiifalmaaaGreatDoorG12
import Derived.Test.YtmehamiifalmaaaGreatDoorG10
set_option linter.all false
namespace Go.Proofs.YtmehamiifalmaaaGreatDoor
open Go Go.Ab Go.Proofs.Tryz
set_option maxRecDepth 100000
def Ql:List FuncId:=[104,105,150,192,193,226,246,34,65]
def am9:List FuncId:=[34,65]
noncomputable def eh:Env:={P:=prog,G:=λf=>Ql.contains f,cl:=λf=>am9.contains f,eX:=λt=>t==74,dyn:=λ_=>false,df:=λ_=>false,ext:=λ_ _ _=>none}
def ana:Ql.all (okF eh)=true:=af
def awY:eh.P=prog:=(rfl)
def awZ(i):eh.dyn i=false:=(rfl)
attribute [go_sem] awY awZ
noncomputable def AE:ck:=λf args H=>if f=104 then run eh f args H else none
def ajl(args)(H):AE 104 args H=run eh 104 args H:=by simp[AE]
set_option maxHeartbeats 4000000
def Qm:List FuncId:=[68,102,103,146,147,148,149,188,189,190,191,225]
def anb:List FuncId:=[68]
noncomputable def bu:Env:={P:=prog,G:=λf=>Qm.contains f,cl:=λf=>anb.contains f,eX:=λt=>t==74,dyn:=λi=>[0,3,4,5,6,7].contains i,df:=λf=>f==147,ext:=AE}
def anc:Qm.all (okF bu)=true:=af
def aw0:bu.P=prog:=(rfl)
def asF:bu.eX=λt=>t==74:=(rfl)
def asG:bu.dyn 9=false:=(rfl)
def ane:bu.dyn 11=false:=(rfl)
attribute [go_sem] aw0 asF asG ane
abbrev KV:=List ((List UInt8×Nat)×Nat)
def nz(a:KV):List (AV×AV×Nat):=a.map λp=>(.str p.1.1,.i p.1.2,p.2)
def tT(w:List UInt8):KV->Nat->Option (Nat×Nat)
 |[],_=>none
 |p::r,i=>if w=p.1.1 then some (i,p.1.2) else tT w r (i+1)
def pj(w:List UInt8):KV->Option Nat
 |[]=>none
 |p::r=>if w=p.1.1 then some p.1.2 else pj w r
def MG(w):∀a i,(tT w a i).map (·.2)=pj w a
 |[],_=>rfl
 |p::r,i=>by
  simp[tT,pj];split
  ·rfl
  ·exact MG w r (i+1)
def M0(w):∀a i,mL (.str w) (nz a) i=some ((tT w a i).map λq=>(q.1,.i q.2))
 |[],_=>rfl
 |p::r,i=>by
  simp[nz,mL,sA,tT];by_cases h:w=p.1.1
  ·rw[ν h,h,aFN];rfl
  ·rw[κ h,aDL.2 h];exact(M0 w r (i+1))
def Xm{w}:∀{a:KV} {i j n:Nat},tT w a i=some (j,n)->i<=j
 |p::r,i,j,n,h=>by
  simp[tT] at h;split at h
  ·simp at h;omega
  ·have:=Xm h;omega
def adi{w}{m:Nat}:∀{d:KV} {i j n:Nat},tT w d i=some (j,n)->∃b:KV,setAt (nz d) (j-i) (.str w) (.i m)=nz b/\∀x,pj x b=if x=w then some m else pj x d
 |p::r,i,j,n,h=>by
  simp[tT] at h;split at h
  ·rename_i c;cases h;refine⟨((w,m),p.2)::r,?_,λx=> ?_⟩
   ·simp[setAt,nz]
   ·simp[pj];by_cases a:x=w
    ·rw[ν a,ν a]
    ·rw[κ a,κ a,κ (by rw[<-c];exact a)]
  ·rename_i c;obtain⟨b,g,f⟩:=adi (m:=m) h;have hj:=Xm h;refine⟨p::b,?_,λx=> ?_⟩
   ·have e:j-i=(j-(i+1))+1:=aa;rw[e];have:setAt (nz (p::r)) (j-(i+1)+1) (.str w) (.i m)=(.str p.1.1,.i p.1.2,p.2)::setAt (nz r) (j-(i+1)) (.str w) (.i m):=by simp[setAt,nz]
    rw[this,g];rfl
   ·simp[pj,f];by_cases a:x=p.1.1
    ·rw[ν a,κ (by rw[a];exact λe=>c e.symm)];rw[ν a]
    ·rw[κ a,κ a]
def V8(x):∀a p,pj x (a++[p])=match pj x a with|some n=>some n|none=>if x=p.1.1 then some p.1.2 else none
 |[],p=>rfl
 |q::r,p=>by
  simp[pj];split
  ·rfl
  ·exact V8 x r p
def Y9:AM prog 190=some (9,3):=af
def adj(w):yj prog 9 (.str w)=true:=by have:prog.underlying 9=some .string:=af;simp[yj,this]
def aw1:zeroV prog 3=some (.i 0):=af
def Dx(o:Option Nat):AV:=.tup [.i (o.getD 0:Nat),.bool o.isSome]
def Nz{H:ab}{id}{a:KV}{c}(h:H.get id=some (.map (nz a) c))(w):wo prog H 190 (.map id) (.str w) true=some (Dx (pj w a)):=by
 simp[wo,h,Y9,adj,M0,<-MG w a 0]
 cases tT w a 0 with
 |none=>simp[aw1,Dx]
 |some q=>simp[Dx]
def ajm{H:ab}{id}{a:KV}{c}(h:H.get id=some (.map (nz a) c))(w)(n:Nat):∃b k,uG prog 190 (.map id) (.str w) (.i n) H=some (hM,H.set id (.map (nz b) k))/\∀x,pj x b=if x=w then some n else pj x a:=by
 simp only[uG,h,Y9,adj,fo,M0]
 cases hf:tT w a 0 with
 |some q=>obtain⟨j,n0⟩:=q;obtain⟨b,d,g⟩:=adi (m:=n) hf;refine⟨b,c,?_,g⟩;rw[Nat.sub_zero] at d;simp[AV.width,d,AV.Rh]
 |none=>
  refine⟨a++[((w,n),c)],c+1,?_,λx=> ?_⟩
  ·simp[AV.width,nz,AV.Rh]
  ·have f:=MG w a 0;rw[hf] at f;rw[V8];by_cases e:x=w
   ·subst e;rw[<-f];simp
   ·simp[e];cases pj x a<;>rfl
def a_(b:Bi):AV:=.agg [.i b.at_,.i b.k,.str b.w,.i b.item]
def dQ:Option Nat->Int|none=> -1|some i=>(i)
def cv(x:Me):AV:=.agg [.i x.at_,.i (dQ x.to),.bool x.wr,.i x.bD]
def nJ(p:Nat×Nat):List AV:=[.i p.1,.i p.2]
def dK(l:List (Nat×Nat)):List AV:=l.flatMap nJ
structure gz where
 aS:Nat
 mp:Nat
 lam:Bool
 cZ:List Nat
def zk:List gz->List RN
 |[]=>[]
 |f::r=>f.cZ.map RN.nm++.e9 f.lam::zk r
def bo(fs:List gz)(gs:List Nat):List RN:=zk fs++gs.map RN.nm
def ee:List gz->AV
 |[]=>.val (.pointer none)
 |f::_=>.ptr f.aS 0
def pk(H:ab)(id:Nat)(bs:List Bi)(cZ:List Nat):Prop:=∃a c,H.get id=some (.map (nz a) c)/\(∀w,pj w a=cZ.find? λi=>jd bs i w)/\∀i∈cZ,i<bs.length
def qF(H:ab)(bs:List Bi):List gz->Prop
 |[]=>True
 |f::r=>(∃a,H.get f.aS=some (.cells a [.map f.mp,.bool f.lam,ee r]))/\pk H f.mp bs f.cZ/\qF H bs r
def vb(H:ab)(bad:List (Nat×Nat))(v:AV):Prop:=(bad=[]/\v=.vec .nil [])\/(bad≠[]/\∃id,v=.sl id 2 0 bad.length/\H.get id=some (.row bad.length 198 2 (dK bad)))
structure dF(b mb g:Nat)(m:Mp)(item:Nat)(fs:List gz)(gs:List Nat)(H:ab):Prop where
 hb:∃tb,H.get b=some (.cells tb [.ptr mb 0,ee fs,.map g,.i item])
 hm:∃tm o1 o2 bv,H.get mb=some (.cells tm [.vec o1 (m.bs.map a_),.vec o2 (m.ms.map cv),bv])/\bY H 102 o1 m.bs.length/\bY H 138 o2 m.ms.length/\vb H m.bad bv
 hg:pk H g m.bs gs
 ch:qF H m.bs fs
 nd:(g::fs.map (·.mp)).Nodup
 fb:∀f∈fs,f.aS≠b/\f.aS≠mb
 bm:b≠mb
def Kp(b mb:Nat)(H H':ab):Prop:=H.next<=H'.next/\∀i te cs,i≠b->i≠mb->H.get i=some (.c te cs)->H'.get i=some (.c te cs)
def Kp.refl(b mb)(H:ab):Kp b mb H H:=⟨μ _,λ_ _ _ _ _ h=>h⟩
def Kp.trans{b mb}{H H' e:ab}(h:Kp b mb H H')(a:Kp b mb H' e):Kp b mb H e:=⟨aDj h.1 a.1,λi te cs d c f=>a.2 i te cs d c (h.2 i te cs d c f)⟩
def NR(x:bH):Prop:=∀n et s cs,x≠.row n et s cs
def xT{te}{cs:List AV}:NR (.c te cs):=λ_ _ _ _ h=>by cases h
def Ps{n et:Nat}:NR (.bB n et):=λ_ _ _ _ h=>by cases h
def Pt{es}{c:Nat}:NR (.map es c):=λ_ _ _ _ h=>by cases h
def KN(H H':ab):Prop:=H.next<=H'.next/\∀i x,NR x->H.get i=some x->H'.get i=some x
def tD:∀l:List (Nat×Nat),(dK l).length=l.length*2
 |[]=>rfl
 |p::r=>by have:=tD r;simp only[dK] at this;simp only[dK,ap1,χ,this,nJ,Ι,Χ];omega
def anf(l)(p:Nat×Nat):dK (l++[p])=dK l++nJ p:=by simp[dK]
def af6{H}{bad:List (Nat×Nat)}{v:AV}(h:vb H bad v)(hn:bad.length<=1000000000)(p):
  ∃b H',cj (λt=>t==74) prog 74 74 v (.vec .full [.agg (nJ p)]) H=some (b,H')/\vb H' (bad++[p]) b/\KN H H':=by
 rcases h with⟨rfl,rfl⟩|⟨a,id,rfl,hid⟩
 ·refine⟨.sl H.next 2 0 1,H.push (.row 1 198 2 (nJ p)),?_,.inr ⟨ai,H.next,rfl,by rw[ab.dT,ν rfl];simp[dK]⟩,awF _,λi x c hi=> ?_⟩
  ·simp[cj,EZ,B',aaP,Pq,jt,we,pU,pM,fF,nJ,AV.width,AV.cells]
  ·rw[ab.dT,κ (by have:=ab.eg hi;omega)];exact hi
 ·refine⟨.sl H.next 2 0 (bad.length+1),(H.del id).push (.row (bad.length+1) 198 2 (dK bad++nJ p)),?_,.inr ⟨ai,H.next,ai,?_⟩,awF _,λi x c hi=> ?_⟩
  ·have e:(bad.length+1)*16<=140737488355328:=aa;have d:bad.length+1<=9223372036854775807:=aa;have f:(dK bad).take (bad.length*2)=dK bad:=aEs (by rw[tD];exact μ _);simp[cj,EZ,B',aaP,Pq,jt,we,pU,pM,fF,nJ,AV.width,AV.cells,hid,e,d,f]
  ·have:(ab.push (H.del id) (.row (bad.length+1) 198 2 (dK bad++nJ p))).get H.next=some (.row (bad.length+1) 198 2 (dK bad++nJ p)):=by
    rw[ab.dT];exact ν rfl
   rw[this,anf];simp
  ·have a:id≠i:=by rintro rfl;rw[hid] at hi;cases hi;exact c _ _ _ _ rfl
   rw[ab.dT,κ (by have:=ab.eg hi;show H.next≠i;omega),ab.tz,κ a];exact hi
set_option maxHeartbeats 8000000
def pk.bU{H H':ab}{id}{bs}{cZ}(h:pk H id bs cZ)(a:∀x,NR x->H.get id=some x->H'.get id=some x):pk H' id bs cZ:=by obtain⟨f,c,d,b,e⟩:=h;exact⟨f,c,a _ Pt d,b,e⟩
def qF.bU{H H':ab}{bs}:∀{fs:List gz},qF H bs fs->(∀f∈fs,∀x,NR x->H.get f.aS=some x->H'.get f.aS=some x)->(∀f∈fs,∀x,NR x->H.get f.mp=some x->H'.get f.mp=some x)->qF H' bs fs
 |[],_,_,_=>trivial
 |f::r,⟨⟨d,c⟩,b,e⟩,a,hm=>⟨⟨d,a f ai _ xT c⟩,b.bU (hm f ai),e.bU (λg hg=>a g (Η _ hg)) (λg hg=>hm g (Η _ hg))⟩
def qF.at{H:ab}{bs}:∀{fs:List gz} {f:gz},qF H bs fs->f∈fs->pk H f.mp bs f.cZ
 |f::r,g,⟨_,a,b⟩,hg=>by
  rcases Ν.1 hg with rfl|hg
  ·exact a
  ·exact b.at hg
def dF.bU{b mb g}{m:Mp}{item}{fs}{gs}{H H':ab}(h:dF b mb g m item fs gs H)(a:∀i x,NR x->i≠mb->H.get i=some x->H'.get i=some x)
  (hm:∃tm o1 o2 bv,H'.get mb=some (.cells tm [.vec o1 (m.bs.map a_),.vec o2 (m.ms.map cv),bv])/\bY H' 102 o1 m.bs.length/\bY H' 138 o2 m.ms.length/\vb H' m.bad bv):dF b mb g m item fs gs H':=by
 obtain⟨tb,hb⟩:=h.hb;obtain⟨tm,o1,o2,bv,r,_⟩:=h.hm;have nm:∀{i es c},H.get i=some (.map es c)->i≠mb:=λ{i es c} hi e=>by rw[e,r] at hi;cases hi
 have p:∀{id cZ},pk H id m.bs cZ->pk H' id m.bs cZ:=λ{id cZ} o=>by obtain⟨l,c,d,n,q⟩:=o;exact⟨l,c,a _ _ Pt (nm d) d,n,q⟩
 refine⟨⟨tb,a _ _ xT h.bm hb⟩,hm,p h.hg,?_,h.nd,h.fb,h.bm⟩;refine h.ch.bU (λf j x k hi=>a _ _ k (h.fb f j).2 hi) (λf j x k hi=> ?_);obtain⟨l,c,d,_⟩:=h.ch.at j;exact a _ _ k (nm d) hi
def Y_{H H':ab}{et}{o}{n mb}(h:bY H et o n){te}{cs}(b:H.get mb=some (.c te cs))(d:∀i x,NR x->i≠mb->H.get i=some x->H'.get i=some x):bY H' et o n:=
 h.bU λj m a=>d _ _ Ps (by rintro rfl;rw[b] at a;cases a) a
def xU{H H':ab}{bad}{v}(h:vb H bad v)(b:∀i n et s cs,H.get i=some (.row n et s cs)->H'.get i=some (.row n et s cs)):vb H' bad v:=by
 rcases h with h|⟨d,id,a,c⟩
 ·exact .inl h
 ·exact .inr ⟨d,id,a,b _ _ _ _ _ c⟩
def aAL(a c)(H):dS prog 74 1 [(0,.agg [.i a,.i c])] H=some (.vec .full [.agg [.i a,.i c]],H):=by simp[dS,EZ,B',Pq,mH,fF,lZ,sC,sD,AV.width,AV.cells,eE,AV.one]
def aAM(b:Bi)(H):dS prog 72 1 [(0,.agg [.i b.at_,.i b.k,.str b.w,.i b.item])] H=some (.vec .full [a_ b],H):=by simp[dS,IF,EB,aaK,mH,fF,lZ,sC,sD,Ck,AV.width,AV.cells,eE,AV.one,a_]
def aAN(x:Me)(H):dS prog 73 1 [(0,.agg [.i x.at_,.i (dQ x.to),.bool x.wr,.i x.bD])] H=some (.vec .full [cv x],H):=by simp[dS,IG,EC,aaN,mH,fF,lZ,sC,sD,HM,AV.width,AV.cells,eE,AV.one,cv]
attribute [go_sem] aAL
noncomputable def RP:=f146.c.o
def On{b mb g}{m:Mp}{item}{fs}{gs}{H}(h:dF b mb g m item fs gs H)(W:m.bad.length<=1000000000)(a c:Nat):
  ∃H',run bu 146 [.ptr b 0,.i a,.i c] H=some (.tup [],H')/\dF b mb g ⟨m.bs,m.ms,m.bad++[(a,c)]⟩ item fs gs H'/\Kp b mb H H':=by
 obtain⟨n,L⟩:=H;obtain⟨tb,hb⟩:=h.hb;obtain⟨tm,o1,o2,bv,o,N,X,R⟩:=h.hm;obtain⟨j,⟨n1,D⟩,I,p,v⟩:=af6 R W (a,c);obtain⟨K,J⟩:=aj.1 hb;obtain⟨Q,gm⟩:=aj.1 o;obtain⟨C,E⟩:=aj.1 (v.2 _ _ xT hb);obtain⟨t,u⟩:=aj.1 (v.2 _ _ xT o)
 have y:j.width=some 1/\j.cells=[j]/\eE [j]=true:=by
  rcases p with⟨M,rfl⟩|⟨M,id,rfl,_⟩
  ·exact⟨rfl,rfl,rfl⟩
  ·exact⟨rfl,rfl,rfl⟩
 obtain⟨O,V,v3⟩:=y;simp[nJ] at I
 suffices hh:∃r,run bu 146 [.ptr b 0,.i a,.i c] ⟨n,L⟩=some r/\r=(.tup [],(⟨n1,aH D mb (.cells tm [.vec o1 (m.bs.map a_),.vec o2 (m.ms.map cv),j])⟩:ab)) by
  obtain⟨r,U,rfl⟩:=hh;have l:∀i x,NR x->i≠mb->ab.get ⟨n,L⟩ i=some x->ab.get ⟨n1,aH D mb (.cells tm [.vec o1 (m.bs.map a_),.vec o2 (m.ms.map cv),j])⟩ i=some x:=λi x q hi F=>by obtain⟨d,k⟩:=aj.1 (v.2 i x q F);exact aj.2 ⟨d,by rw[bg,κ (λe=>hi e.symm)];exact k⟩
  have w:ab.get ⟨n1,aH D mb (.cells tm [.vec o1 (m.bs.map a_),.vec o2 (m.ms.map cv),j])⟩ mb=some (.cells tm [.vec o1 (m.bs.map a_),.vec o2 (m.ms.map cv),j]):=aj.2 ⟨t,by rw[bg,ν rfl,u];rfl⟩;refine⟨_,U,⟨?_,?_,?_,?_,h.nd,h.fb,h.bm⟩,v.1,λi te cs _ hi F=>l i _ xT hi F⟩
  ·exact⟨tb,l _ _ xT h.bm hb⟩
  ·refine⟨tm,o1,o2,j,w,Y_ N o l,Y_ X o l,xU p λi n et s cs hi=> ?_⟩;obtain⟨d,k⟩:=aj.1 hi;exact aj.2 ⟨d,by rw[bg,κ (by rintro rfl;rw[u] at k;cases k)];exact k⟩
  ·obtain⟨G,c,d,k,z⟩:=h.hg;exact⟨G,c,l _ _ Pt (by rintro rfl;rw[o] at d;cases d) d,k,z⟩
  ·refine h.ch.bU (λf B x q hi=>l _ _ q (h.fb f B).2 hi) (λf B x q hi=> ?_);obtain⟨G,c,d,_⟩:=h.ch.at B;exact l _ _ q (by rintro e;rw[e,o] at d;cases d) hi
 refine g_ (c:=.region 0 RP.toArray true) rfl rfl func146 rfl (by rw[ntmps146];simp) ?_;obtain⟨A,P,d,k,z,T,S⟩:∃A,A=RP.toArray/\behind A A.size 15 7=true/\behind A A.size 15 10=true/\behind A A.size 18 3=true/\behind A A.size 18 7=true/\behind A A.size 18 10=true:=⟨_,rfl,af,af,af,af,af⟩;rw[m_ _ _ rfl rfl,<-P];rw[show RP=[_,_,_,_,_,_,_,_,_,_,_,_,_,_,_,_,_,_,_] from rfl];simp only[go_sem,seval,d,k,z,T,S,aDG,u,aF J,aF gm,aF E,aF u,υ K,υ Q,υ C,υ t,aZ,cQ,I,O,V,v3,results146];exact⟨_,rfl,rfl⟩
end Go.Proofs.YtmehamiifalmaaaGreatDoor
namespace Go.Ab
open Go
def mG{E}{call}{B}{α}{H}{Q}(h:aD (aJ (aP E call aJ B) α H) Q):∃r,aP E call aJ (.loop B) α H=some r/\∃e a H',r=(e,a,H')/\Q e a H':=by obtain⟨e,a,H',b,c⟩:=kf h;exact⟨(e,a,H'),by rw[gB,b],e,a,H',rfl,c⟩
end Go.Ab
namespace Go.Proofs.YtmehamiifalmaaaGreatDoor
open Go Go.Ab Go.Proofs.Tryz
set_option maxRecDepth 100000
set_option maxHeartbeats 8000000
def aaQ:AN prog 191=true:=af
def O4(i o)(c):lN prog .neq 191 c (.ptr i o) (.val (.pointer none))=some (.bool true):=by simp[lN,Ep,ew,aaQ,qx]
def asH(c):lN prog .neq 191 c (.val (.pointer none)) (.val (.pointer none))=some (.bool false):=by simp[lN,Ep,ew,aaQ,qx]
def tK:od (.pointer none)=.val (.pointer none):=rfl
def aAP(o:Option Nat):iz 0 (Dx o)=some (.i (o.getD 0:Nat)):=(rfl)
def aAQ(o:Option Nat):iz 1 (Dx o)=some (.bool o.isSome):=(rfl)
def aeI{E}(t)(m k v):bO E (.mapUpdate t m k v)=.wr:=(rfl)
def aeJ{E}{call}{ρ}{H:ab}(t)(m k v):bz E call (.mapUpdate t m k v) ρ H=uG E.P t (ρ m) (ρ k) (ρ v) H:=(rfl)
def af7{E}{call}{ρ}{H:ab}(t):bz E call (.makeMap t none) ρ H=some (.map H.next,H.push (.map [] 0)):=(rfl)
attribute [go_sem ↓] aeI aeJ af7
attribute [go_sem] O4 asH aAP aAQ
def findF(bs:List Bi)(w:List UInt8):List gz->Nat->Option (Nat×Nat)
 |[],_=>none
 |f::r,bD=>match f.cZ.find? λi=>jd bs i w with
  |some i=>some (i,bD)
  |none=>findF bs w r (if f.lam then bD+1 else bD)
def pR(bs:List Bi)(w:List UInt8)(fs:List gz)(gs:List Nat):Option Nat×Nat:=match findF bs w fs 0 with
 |some (i,bD)=>(some i,bD)
 |none=>(gs.find? λi=>jd bs i w,0)
noncomputable def JM:=f225.c.r.l.r.b.b
def Oo{b mb g:Nat}{bs}{H}{w}:∀fs bD α,qF H bs fs->bD+fs.length<=1000000000->α 1=.str w->α 6=ee fs->α 5=.i bD->α 0=.ptr b 0->
  aD (aJ (aO bu JM) α H) λe l H'=>H'=H/\((∃i d,findF bs w fs bD=some (i,d)/\e=.ret/\l 4=.i i/\l 5=.i d)\/(findF bs w fs bD=none/\e=.exit 0/\l 0=.ptr b 0/\l 1=.str w))
 |[],bD,α,hc,t,h,a,m,k=>by
  have o:JM=.seq _ _:=rfl;simp[ee] at a;rw[aG,o];simp only[go_sem,seval,a,tK];refine⟨aK,.inr ⟨rfl,aK,?_,?_⟩⟩;all_goals simp[go_sem,k,h]
 |f::r,bD,α,⟨⟨tf,u⟩,hm,s⟩,t,h,a,m,k=>by
  have o:JM=.seq _ _:=rfl;obtain⟨n,L⟩:=H;simp[ee] at a;simp at t;obtain⟨z,gf⟩:=aj.1 u;have cf:=aF gf;have q:=υ z;obtain⟨kv,c,m1,v,m3⟩:=hm;have j:=Nz m1 w;rw[v w] at j;rw[aG,o]
  cases hs:f.cZ.find? λi=>jd bs i w with
  |some i=>
   rw[hs] at j;simp only[go_sem,seval,k,h,m,a,q,cf,tK,j,aDg,aDR];refine⟨aK,.inl ⟨i,bD,by simp[findF,hs],aK,?_,?_⟩⟩;all_goals simp[go_sem]
  |none=>
   rw[hs] at j
   cases wY:f.lam with
   |true=>
    have ih:=λα=>Oo (b:=b) (mb:=mb) (g:=g) (w:=w) r (bD+1) α s aa;have p:findF bs w (f::r) bD=findF bs w r (bD+1):=by simp[findF,hs,wY]
    rw[p];simp[go_sem,h,m,a,q,cf,tK,j,wY,(mO (n:=bD) aa),Ε];refine ih _ ?_ ?_ ?_ ?_;all_goals simp[go_sem,k,h]
   |false=>
    have ih:=λα=>Oo (b:=b) (mb:=mb) (g:=g) (w:=w) r bD α s aa;have p:findF bs w (f::r) bD=findF bs w r bD:=by simp[findF,hs,wY]
    rw[p];simp[go_sem,h,a,q,cf,tK,j,wY,Ε];refine ih _ ?_ ?_ ?_ ?_;all_goals simp[go_sem,k,h,m]
def asI{b mb g}{m:Mp}{item}{fs:List gz}{gs}{H}(h:dF b mb g m item fs gs H)(hn:fs.length<=1000000)(w:List UInt8):
  run bu 225 [.ptr b 0,.str w] H=some (.tup [.i (dQ (pR m.bs w fs gs).1),.i ((pR m.bs w fs gs).2:Int)],H):=by
 obtain⟨n,L⟩:=H;obtain⟨tb,hb⟩:=h.hb;obtain⟨k,q⟩:=aj.1 hb;have cb:=aF q;have j:=υ k;obtain⟨kv,c,m1,l,m3⟩:=h.hg;have a:=Nz m1 w;rw[l w] at a;refine qY (c:=.seq _ (.seq (.seq _ (.block 0 (.loop JM))) _)) rfl rfl func225 rfl (by rw[ntmps225];simp) ?_;simp only[go_sem,↓reduceIte,Nat.reduceAdd,reduceCtorEq,j,cb];simp[cg];refine bL (mG (Oo (b:=b) (mb:=mb) (g:=g) (w:=w) fs 0 _ h.ch aa ?_ ?_ ?_ ?_)) ?_
 case refine_5=>
  rintro _ ⟨e,ae,H',rfl,rfl,⟨i,d,f,rfl,o,p⟩|⟨f,rfl,a0,a1⟩⟩
  ·simp only[go_sem,o,p,pR,f,dQ,results225]
  ·cases hs:gs.find? λi=>jd m.bs i w with
   |some i=>rw[hs] at a;simp only[go_sem,↓reduceIte,Nat.reduceEqDiff,Nat.reduceAdd,a0,a1,j,cb,a,aDg,aDR,pR,f,hs,dQ,results225];rfl
   |none=>rw[hs] at a;simp only[go_sem,↓reduceIte,Nat.reduceEqDiff,Nat.reduceAdd,a0,a1,j,cb,a,Ε,pR,f,hs,dQ,results225];rfl
 all_goals simp only[go_sem,↓reduceIte,Nat.reduceEqDiff,reduceCtorEq,]
 all_goals rfl
def Fl(n:Nd):(aC n)[0]? =some (.i n.k):=by cases n;rfl
def aw2(n:Nd):(aC n)[3]? =some (.str n.w):=by cases n;rfl
def aw3(n:Nd):(aC n)[4]? =some (.i n.a):=by cases n;rfl
attribute [go_sem] Fl aw2 aw3 rF
def CM(x:bH):Prop:=(∃te cs,x=.c te cs)\/∃es c,x=.map es c
def RQ{te}{cs:List AV}:CM (.c te cs):=.inl ⟨_,_,rfl⟩
def adk{es}{c:Nat}:CM (.map es c):=.inr ⟨_,_,rfl⟩
def ajn{bs:List Bi}{i}(h:i<bs.length)(x)(w):jd (bs++[x]) i w=jd bs i w:=by unfold jd;rw[Ξ h]
def M1{bs:List Bi}(x)(w):∀{cZ:List Nat},(∀i∈cZ,i<bs.length)->(cZ.find? λi=>jd (bs++[x]) i w)=cZ.find? λi=>jd bs i w
 |[],_=>rfl
 |i::r,h=>by simp[aD1,ajn (h i ai),(M1 x w (cZ:=r) λj a=>h j (Η _ a))]
def pk.grow{H}{id}{bs}{cZ}(h:pk H id bs cZ)(x):pk H id (bs++[x]) cZ:=by obtain⟨d,c,b,e,a⟩:=h;exact⟨d,c,b,λw=>by rw[e,M1 x w a],λi hi=>by have:=a i hi;simp;omega⟩
def ajo(bs:List Bi)(x:Bi)(w):jd (bs++[x]) bs.length w=decide (x.w=w):=by simp[jd]
def At(g id:Nat)(cZ:List Nat)(fs:List gz)(gs:List Nat)(a:List gz)(b:List Nat)(n:Nat):Prop:=
 (id=g/\cZ=gs/\fs=[]/\a=[]/\b=n::gs)\/∃f r,fs=f::r/\id=f.mp/\cZ=f.cZ/\a=⟨f.aS,f.mp,f.lam,n::f.cZ⟩::r/\b=gs
def Oq(bs)(w)(rest)(a:rest=[]\/∃lam r,rest=.e9 lam::r):∀cZ:List Nat,sN bs w (cZ.map RN.nm++rest)=(cZ.find? λi=>jd bs i w).isSome
 |[]=>by rcases a with rfl|⟨lam,r,rfl⟩<;>rfl
 |i::s=>by simp[sN,aD1,Oq bs w rest a s];cases jd bs i w<;>rfl
def At.dup{g id n:Nat}{cZ gs b:List Nat}{fs a:List gz}(h:At g id cZ fs gs a b n)(bs:List Bi)(w:List UInt8):sN bs w (bo fs gs)=(cZ.find? λi=>jd bs i w).isSome:=by
 rcases h with⟨rfl,rfl,rfl,rfl,rfl⟩|⟨f,r,rfl,rfl,rfl,rfl,rfl⟩
 ·have:=Oq bs w [] (.inl rfl) cZ;rw[aDi] at this;exact this
 ·simp[bo,zk,adv];exact Oq bs w _ (.inr ⟨_,_,rfl⟩) f.cZ
def At.map{b mb g id n}{m:Mp}{item}{cZ gs d:List Nat}{fs c:List gz}{H:ab}(h:At g id cZ fs gs c d n)(a:dF b mb g m item fs gs H):pk H id m.bs cZ:=by
 rcases h with⟨rfl,rfl,rfl,rfl,rfl⟩|⟨f,r,rfl,rfl,rfl,rfl,rfl⟩
 ·exact a.hg
 ·exact a.ch.at ai
def qF.K1{H H':ab}{bs}{x:Bi}:∀{fs:List gz},qF H bs fs->(∀f∈fs,∀te cs,H.get f.aS=some (.c te cs)->H'.get f.aS=some (.c te cs))->(∀f∈fs,∀es c,H.get f.mp=some (.map es c)->H'.get f.mp=some (.map es c))->qF H' (bs++[x]) fs
 |[],_,_,_=>trivial
 |f::r,⟨⟨i,h⟩,⟨k,c,e,d,a⟩,j⟩,b,hm=>⟨⟨i,b f ai _ _ h⟩,pk.grow ⟨k,c,hm f ai _ _ e,d,a⟩ x,j.K1 (λg hg=>b g (Η _ hg)) (λg hg=>hm g (Η _ hg))⟩
def dF.bound{b mb g id}{m:Mp}{item:Nat}{cZ gs D:List Nat}{fs B:List gz}{H H':ab}{x:Bi}{bad:List (Nat×Nat)}(h:dF b mb g m item fs gs H)(C:At g id cZ fs gs B D m.bs.length)
  (j:∀i y,CM y->i≠mb->i≠id->H.get i=some y->H'.get i=some y) (hm:∃tm o1 o2 bv,H'.get mb=some (.cells tm [.vec o1 ((m.bs++[x]).map a_),.vec o2 (m.ms.map cv),bv])/\bY H' 102 o1 (m.bs++[x]).length/\bY H' 138 o2 m.ms.length/\vb H' bad bv)
  (hid:∃d c,H'.get id=some (.map (nz d) c)/\∀w,pj w d=if w=x.w then some m.bs.length else cZ.find? λi=>jd m.bs i w):dF b mb g ⟨m.bs++[x],m.ms,bad⟩ item B D H':=by
 obtain⟨tb,hb⟩:=h.hb;obtain⟨Bl,_,_,_,L,_⟩:=h.hm;obtain⟨kv0,c0,s,_,E⟩:=C.map h;have F:b≠id:=by rintro rfl;rw[hb] at s;cases s
 have A:∃tb,H'.get b=some (.cells tb [.ptr mb 0,ee fs,.map g,.i item]):=⟨tb,j _ _ RQ h.bm F hb⟩
 have t:pk H' id (m.bs++[x]) (m.bs.length::cZ):=by
  obtain⟨d,c,n,q⟩:=hid;refine⟨d,c,n,λw=> ?_,λi hi=> ?_⟩
  ·rw[q,aD1,ajo,M1 x w E];by_cases o:w=x.w
   ·rw[ν o,π o.symm]
   ·rw[κ o,ξ (λe=>o e.symm)]
  ·simp[aD5];rcases Ν.1 hi with rfl|hi
   ·omega
   ·have:=E i hi;omega
 have nm:∀{i es c},H.get i=some (.map es c)->i≠mb:=λ{i es c} hi e=>by rw[e,L] at hi;cases hi
 have k:∀{i te cs},H.get i=some (.c te cs)->i≠id:=λ{i te cs} hi e=>by rw[e,s] at hi;cases hi
 rcases C with⟨rfl,rfl,rfl,rfl,rfl⟩|⟨f,r,rfl,rfl,rfl,rfl,rfl⟩
 ·exact⟨A,hm,t,trivial,h.nd,λf p=>(by cases p),h.bm⟩
 ·have z:=h.nd;simp only[aDm,aEN,Ν,not_or] at z;obtain⟨⟨u,M⟩,v,G⟩:=z;obtain⟨⟨J,p⟩,K2,I⟩:=h.ch;refine⟨A,hm,?_,⟨⟨J,j _ _ RQ (h.fb f ai).2 (k p) p⟩,t,?_⟩,?_,?_,h.bm⟩
  ·obtain⟨d,c,n,q,K⟩:=h.hg;exact pk.grow ⟨d,c,j _ _ adk (nm n) u n,q,K⟩ x
  ·refine I.K1 (λy a te cs l=>j _ _ RQ (h.fb y (by simp[a])).2 (k l) l) (λy a es c l=>j _ _ adk (nm l) (λe=>v ?_) l);rw[<-e];exact List.mem_map_of_mem a
  ·simp only[aDm,aEN,Ν,not_or];exact⟨⟨u,M⟩,v,G⟩
  ·intro y a;rcases Ν.1 a with rfl|a
   ·exact h.fb f ai
   ·exact h.fb y (by simp[a])
end Go.Proofs.YtmehamiifalmaaaGreatDoor
namespace Go.Ab
open Go
def v_{m}{P}{t et}{s b}(d:iZ P t et s b)(hm:m t=false){H:ab}{o o2}{es xs:List AV}(h:bY H et o es.length)(l:cB s es)(g:cB s xs)(k:xs≠[])(hb:(es.length+xs.length)*b<=140737488355328)(f:es.length+xs.length<=9223372036854775807):
  ∃j H',cj m P t t (.vec o es) (.vec o2 xs) H=some (.vec (.own j) (es++xs),H')/\bY H' et (.own j) (es++xs).length/\H.next<=H'.next/\∀i x,(∀n,x≠.bB n et)->H.get i=some x->H'.get i=some x:=by
 have q:xs.length≠0:=λh=>k (Ψ.1 h);have a:(es++xs).length=es.length+xs.length:=χ;have p:∀(y:bH) i x,H.get i=some x->(H.push y).get i=some x:=λy i x hi=>by rw[ab.dT,κ (by have:=ab.eg hi;omega)];exact hi
 rcases h with⟨rfl,e⟩|⟨rfl,e⟩|⟨e,j,rfl,c⟩
 ·have:es=[]:=Ψ.1 e;subst this;exact⟨H.next,_,append_nil d hm g k (by simpa using hb) (by simpa using f),.inr (.inr ⟨by simpa using q,H.next,rfl,by rw[ab.dT,ν rfl];simp⟩),awF _,λi x _ hi=>p _ _ _ hi⟩
 ·exact⟨H.next,_,Mm d hm l g k hb f,.inr (.inr ⟨by rw[a];omega,H.next,rfl,by rw[ab.dT,ν rfl,a]⟩),awF _,λi x _ hi=>p _ _ _ hi⟩
 ·refine⟨j,_,GW d c l g hb f,.inr (.inr ⟨by rw[a];omega,j,rfl,by rw[ab.ec,ν rfl,c,a];rfl⟩),μ _,λi x r hi=> ?_⟩;rw[ab.ec,κ (by rintro rfl;rw[c] at hi;cases hi;exact r _ rfl)];exact hi
end Go.Ab
namespace Go.Proofs.YtmehamiifalmaaaGreatDoor
open Go Go.Ab Go.Proofs.Tryz
set_option maxRecDepth 100000
set_option maxHeartbeats 8000000
noncomputable def Qn:=f102.c.r.r.l.o
noncomputable def Qo:=f102.c.r.r.r.o
noncomputable def RU:=f102.c.r.r
def Hx(l:List Bi):cB 4 (l.map a_):=λe a=>by obtain⟨x,_,rfl⟩:=aDt.1 a;rfl
def Hy(l:List Me):cB 4 (l.map cv):=λe a=>by obtain⟨x,_,rfl⟩:=aDt.1 a;rfl
def V9{b mb g id q}{m:Mp}{item k:Nat}{cZ gs js:List Nat}{fs Z:List gz}{H:ab}{nd:Nd}{α:az}(h:dF b mb g m item fs gs H)(ha:At g id cZ fs gs Z js m.bs.length)(hn:m.bs.length<=1000000)
  (R:H.get q=some (.z (aC nd))) (hqb:q≠mb) (a0:α 0=.ptr b 0) (a1:α 1=.map id) (a3:α 3=.i k) (a6:α 6=.ptr q 0):
  aD (aP bu (run bu) aJ RU α H) λe ae H'=>e=.normal/\dF b mb g ⟨m.bs++[⟨nd.a,k,nd.w,item⟩],m.ms,m.bad⟩ item Z js H'/\Kp b mb H H':=by
 obtain⟨n2,u⟩:=H;obtain⟨tb,hb⟩:=h.hb;obtain⟨tm,o1,o2,bv,L,ei,lr,kL⟩:=h.hm;obtain⟨kv,c,m1,m2,m3⟩:=ha.map h;obtain⟨v,C,e1,S⟩:=ajm m1 nd.w m.bs.length;have ib:id≠b:=by rintro rfl;rw[hb] at m1;cases m1
 have Y:id≠mb:=by rintro rfl;rw[L] at m1;cases m1
 have iq:id≠q:=by rintro rfl;rw[R] at m1;cases m1
 have V:uG prog 190 (.map id) (.str nd.w) (.i m.bs.length) ⟨n2,u⟩=some (hM,⟨n2,aH u id (.map (nz v) C)⟩):=e1;have p3:∀i x,i≠id->ab.get ⟨n2,u⟩ i=some x->ab.get ⟨n2,aH u id (.map (nz v) C)⟩ i=some x:=λi x hi f=>by obtain⟨l,d⟩:=aj.1 f;exact aj.2 ⟨l,by rw[bg,κ (λe=>hi e.symm)];exact d⟩
 have K:ab.get ⟨n2,aH u id (.map (nz v) C)⟩ id=some (.map (nz v) C):=by obtain⟨l,d⟩:=aj.1 m1;exact aj.2 ⟨l,by rw[bg,ν rfl,d];rfl⟩
 generalize aH u id (.map (nz v) C)=L3 at V p3 K;have W:=p3 _ _ (λe=>ib e.symm) hb;have F:=p3 _ _ (λe=>Y e.symm) L;have N:∀{j n et},ab.get ⟨n2,u⟩ j=some (.bB n et)->j≠id:=λ{j n et} M e=>by rw[e,m1] at M;cases M
 have FE:bY ⟨n2,L3⟩ 102 o1 m.bs.length:=ei.bU λj n M=>p3 _ _ (N M) M;obtain⟨j,⟨n4,L4⟩,e2,E,T,p4⟩:=v_ amN (m:=λt=>t==74) rfl (o:=o1) (o2:=.full) (es:=m.bs.map a_) (xs:=[a_ ⟨nd.a,k,nd.w,item⟩]) (H:=⟨n2,L3⟩) (by rw[φ];exact FE) (Hx _) (Hx [_]) ai aX aX;obtain⟨zb,gb⟩:=aj.1 hb;obtain⟨zm,gm⟩:=aj.1 L;obtain⟨zq,gq⟩:=aj.1 R;obtain⟨zb3,Q⟩:=aj.1 W;obtain⟨zm3,P⟩:=aj.1 F;obtain⟨zq3,U⟩:=aj.1 (p3 _ _ (λe=>iq e.symm) R);obtain⟨Tk,Tl⟩:=aj.1 (p4 _ _ ai W);obtain⟨X,fM⟩:=aj.1 (p4 _ _ ai F);have I:(m.bs.map a_).length=m.bs.length:=φ _;have J:=λH=>aAM ⟨nd.a,k,nd.w,item⟩ H;simp only at J;obtain⟨A,hA,l,d,q3⟩:∃A,A=Qn.toArray/\behind A A.size 11 2=true/\behind A A.size 11 6=true/\behind A A.size 11 9=true:=⟨_,rfl,af,af,af⟩;obtain⟨B,hB,r1,r2,r3,r4,r5,s0,s1,s2,s3,s4,s5⟩:∃A,A=Qo.toArray/\behind A A.size 22 7=true/\behind A A.size 22 10=true/\behind A A.size 22 12=true/\behind A A.size 22 15=true/\behind A A.size 22 19=true/\behind A A.size 25 3=true/\behind A A.size 25 7=true/\behind A A.size 25 10=true/\behind A A.size 25 12=true/\behind A A.size 25 15=true/\behind A A.size 25 19=true:=⟨_,rfl,af,af,af,af,af,af,af,af,af,af,af⟩;rw[show RU=.seq (.region 4 Qn.toArray true) (.region 5 Qo.toArray true) from rfl,Ue _ _ _ rfl rfl];rw[<-hA,show Qn=[_,_,_,_,_,_,_,_,_,_,_,_] from rfl];have hR:∀α H,aP bu (run bu) aJ (.region 5 Qo.toArray true) α H=an (eP bu (run bu) B 0 [_,_,_,_,_,_,_,_,_,_,_,_,_,_,_,_,_,_,_,_,_,_,_,_,_,_] [] [] α H) λr=>some (.normal,r.1,r.2):=λα H=>by rw[m_ _ _ rfl rfl,hB];exact rfl
 simp only[go_sem,seval,l,d,q3,r1,r2,r3,r4,r5,s0,s1,s2,s3,s4,s5,aDG,a0,a1,a3,a6,fM,aF gb,aF gm,aF gq,aF Q,aF P,aF U,aF Tl,aF fM,υ zb,υ zm,υ zq,υ Tk,υ X,I,V,hR,aZ,J,cQ,e2];have O:∀i x,i≠mb->i≠id->(∀n,x≠.bB n 102)->ab.get ⟨n2,u⟩ i=some x->ab.get ⟨n4,aH L4 mb (.cells tm [.vec (.own j) (m.bs.map a_++[a_ ⟨nd.a,k,nd.w,item⟩]),.vec o2 (m.ms.map cv),bv])⟩ i=some x:=λi x G D h3 f=>by obtain⟨l,d⟩:=aj.1 (p4 i x h3 (p3 i x D f));exact aj.2 ⟨l,by rw[bg,κ (λe=>G e.symm)];exact d⟩
 have RV:ab.get ⟨n4,aH L4 mb (.cells tm [.vec (.own j) (m.bs.map a_++[a_ ⟨nd.a,k,nd.w,item⟩]),.vec o2 (m.ms.map cv),bv])⟩ mb=some (.cells tm [.vec (.own j) (m.bs.map a_++[a_ ⟨nd.a,k,nd.w,item⟩]),.vec o2 (m.ms.map cv),bv]):=aj.2 ⟨X,by rw[bg,ν rfl,fM];rfl⟩;have p:∀i x,i≠mb->ab.get ⟨n4,L4⟩ i=some x->ab.get ⟨n4,aH L4 mb (.cells tm [.vec (.own j) (m.bs.map a_++[a_ ⟨nd.a,k,nd.w,item⟩]),.vec o2 (m.ms.map cv),bv])⟩ i=some x:=λi x G f=>by obtain⟨l,d⟩:=aj.1 f;exact aj.2 ⟨l,by rw[bg,κ (λe=>G e.symm)];exact d⟩
 refine⟨aK,?_,?_⟩
 ·refine h.bound ha (λi y hy G D f=>O i y G D (λn e=>by rcases hy with⟨_,_,rfl⟩|⟨_,_,rfl⟩<;>cases e) f) ⟨tm,.own j,o2,bv,by rw[aEw];exact RV,?_,?_,?_⟩ ⟨v,C,?_,λw=>by rw[S,m2]⟩
  ·have mX:((m.bs.map a_)++[a_ ⟨nd.a,k,nd.w,item⟩]).length=(m.bs++[(⟨nd.a,k,nd.w,item⟩:Bi)]).length:=ai;rw[mX] at E;exact E.bU λi n hi=>p _ _ (by rintro rfl;obtain⟨_,d⟩:=aj.1 hi;rw[fM] at d;cases d) hi
  ·exact lr.bU λi n hi=>O _ _ (by rintro rfl;rw[L] at hi;cases hi) (N hi) (λn' e=>by cases e) hi
  ·exact xU kL λi n et s cs hi=>O _ _ (by rintro rfl;rw[L] at hi;cases hi) (by rintro rfl;rw[m1] at hi;cases hi) (λn' e=>by cases e) hi
  ·exact p _ _ Y (p4 _ _ ai K)
 ·exact⟨T,λi te cs _ D f=>O i _ D (by rintro rfl;rw[m1] at f;cases f) ai f⟩
end Go.Proofs.YtmehamiifalmaaaGreatDoor
namespace Go.Ab
open Go
def Kt(et:TypeId)(H H':ab):Prop:=H.next<=H'.next/\∀i x,(∀n,x≠.bB n et)->H.get i=some x->H'.get i=some x
def Kt.refl(et)(H:ab):Kt et H H:=⟨μ _,λ_ _ _ h=>h⟩
def Kt.trans{et}{H a b:ab}(h:Kt et H a)(g:Kt et a b):Kt et H b:=⟨aDj h.1 g.1,λi x c hi=>g.2 i x c (h.2 i x c hi)⟩
def Kt.push(et)(H:ab)(y):Kt et H (H.push y):=⟨awF _,λi x _ hi=>by
 rw[ab.dT,κ (by have:=ab.eg hi;omega)];exact hi⟩
def Kt.cells{et}{H H':ab}(h:Kt et H H'){i}{te}{cs}(hi:H.get i=some (.c te cs)):H'.get i=some (.c te cs):=h.2 i _ ai hi
section
variable {T:Type} {m:TypeId->Bool} {P:Program} {t et:TypeId} {s b:Nat} {g:T->AV}
def xV(a:∀x,(g x).width=some s)(l:List T):cB s (l.map g):=λe b=>by obtain⟨x,_,rfl⟩:=aDt.1 b;exact a x
def Ot(a:iZ P t et s b)(hm:m t=false)(f:∀x,(g x).width=some s){H}{o}(o2){es xs:List T}(h:bY H et o es.length)(hb:(es.length+xs.length)*b<=140737488355328)(l:es.length+xs.length<=9223372036854775807):
  ∃w H',cj m P t t (.vec o (es.map g)) (.vec o2 (xs.map g)) H=some (.vec w ((es++xs).map g),H')/\bY H' et w (es++xs).length/\Kt et H H':=by
 obtain⟨z,y,A⟩:=a.zero;have v:s≠0/\z.length=s:=⟨a.s0,A⟩;by_cases d:xs=[]
 ·subst d;rw[aDi];simp at hb l;have q:=(xV f ([]:List T)).jU a;simp at q⊢;rcases h with⟨rfl,k⟩|⟨rfl,k⟩|⟨k,j,rfl,n⟩
  ·have c:es=[]:=Ψ.1 k;subst c;refine⟨.nil,H,?_,.inl ⟨rfl,rfl⟩,Kt.refl _ _⟩;simp[cj,a.el,a.sz,a.fq,y,v,jt,hm,lC,q]
  ·refine⟨.full,H,?_,.inr (.inl ⟨rfl,k⟩),Kt.refl _ _⟩;simp[cj,a.el,a.sz,a.fq,y,ν v,jt,hm,lC];simp[hb,l];exact⟨((xV f es).jU a),q⟩
  ·have c:=GW (m:=m) a (o2:=o2) (xs:=[]) (j:=j) (es:=es.map g) (H:=H) (by rw[φ];exact n) (xV f _) (λe c=>(by cases c)) (by rw[φ];simpa using hb) (by rw[φ];simpa using l);simp at c;refine⟨.own j,_,c,.inr (.inr ⟨k,j,rfl,by rw[ab.ec,ν rfl,n];rfl⟩),μ _,λi x d r=> ?_⟩;rw[ab.ec,κ (by rintro rfl;rw[n] at r;cases r;exact d _ rfl)];exact r
 ·obtain⟨j,H',e,u,le,p⟩:=v_ a (m:=m) hm (o:=o) (o2:=o2) (es:=es.map g) (xs:=xs.map g) (H:=H) (by rw[φ];exact h) (xV f _) (xV f _) (by simpa using d) (by rw[φ,φ];exact hb) (by rw[φ,φ];exact l);refine⟨.own j,H',by rw[aEw];exact e,by rw[<-List.map_append,φ] at u;exact u,le,λi x d hi=>p i x d hi⟩
def wA(e:iZ P t et s b)(hm:m t=false)(d:∀x,(g x).width=some s){H}{o}(o2){es:List T}(x:T)(h:bY H et o es.length)(hb:(es.length+1)*b<=140737488355328)(c:es.length+1<=9223372036854775807):
  ∃a H',cj m P t t (.vec o (es.map g)) (.vec o2 [g x]) H=some (.vec a ((es++[x]).map g),H')/\bY H' et a (es++[x]).length/\Kt et H H':=Ot e hm d o2 (xs:=[x]) h hb c
def ajp(c:iZ P t et s b)(a:∀x,(g x).width=some s)(o)(l:List T)(x)(hx:x<=l.length):jT P t none (some (.i x)) (.vec o (l.map g))=some (.vec .ro ((l.take x).map g)):=by
 have b1:nN (l.map g).length none (some (.i x))=some (0,x):=by simp only[nN,j_];rw[ν ⟨aa,by rw[φ];omega⟩];simp
 simp only[jT,(xV a l).jU c,aDp,b1];simp[List.map_take,o6]
def Xn(c:iZ P t et s b)(a:∀x,(g x).width=some s)(o)(l:List T)(x)(hx:x<=l.length):jT P t (some (.i x)) none (.vec o (l.map g))=some (.vec (o6 o none (strOf P t) x) ((l.drop x).map g)):=by
 have b1:nN (l.map g).length (some (.i x)) none=some (x,(l.map g).length):=by simp only[nN,j_];rw[ν ⟨aa,by rw[φ];omega⟩];simp
 simp only[jT,(xV a l).jU c,aDp,b1,aFp];simp[List.map_drop]
def tL(a:iZ P t et s b)(v:AV)(d:v.erase.width=some s)(c:lZ [v.erase]=true)(hs:s<=16777216)(H):dS P t 1 [(0,v)] H=some (.vec .full [v.erase],H):=by obtain⟨z,f,e⟩:=a.zero;simp only[dS,a.el,a.sz,f];rw[ν ⟨rfl,rfl,by simp[fF,d],c,a.s0,e,aa⟩];rfl
end
end Go.Ab
