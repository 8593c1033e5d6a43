/- LintFinds: part 14 of its proof. -/
import Derived.Test.YtmehamiifalmaaaGreatDoorG12
import Derived.Test.YtmehamiifalmaaaGreatDoorG10
set_option linter.all false
namespace Go.Proofs.YtmehamiifalmaaaGreatDoor
open Go Go.Ab Go.Proofs.Tryz
set_option maxRecDepth 100000
def QR:List FuncId:=[104,105,150,192,193,226,246,34,65]
def anP:List FuncId:=[34,65]
noncomputable def ej:Env:={P:=prog,G:=λf=>QR.contains f,cl:=λf=>anP.contains f,fq:=λt=>t==74,dyn:=λ_=>false,df:=λ_=>false,ext:=λ_ _ _=>none}
def anQ:QR.all (okF ej)=true:=af
def ax3:ej.P=prog:=(rfl)
def ax4(i):ej.dyn i=false:=(rfl)
attribute [go_sem] ax3 ax4
noncomputable def A7:cu:=λf args H=>if f=104 then run ej f args H else none
def aj0(args)(H):A7 104 args H=run ej 104 args H:=by simp[A7]
set_option maxHeartbeats 4000000
def QS:List FuncId:=[68,102,103,146,147,148,149,188,189,190,191,225]
def anR:List FuncId:=[68]
noncomputable def bA:Env:={P:=prog,G:=λf=>QS.contains f,cl:=λf=>anR.contains f,fq:=λt=>t==74,dyn:=λi=>[0,3,4,5,6,7].contains i,df:=λf=>f==147,ext:=A7}
def anS:QS.all (okF bA)=true:=af
def ax5:bA.P=prog:=(rfl)
def ats:bA.fq=λt=>t==74:=(rfl)
def att:bA.dyn 9=false:=(rfl)
def anT:bA.dyn 11=false:=(rfl)
attribute [go_sem] ax5 ats att anT
abbrev KV:=List ((List UInt8×Nat)×Nat)
def mS(a:KV):List (AV×AV×Nat):=a.map λp=>(.str p.1.1,.i p.1.2,p.2)
def uz(w:List UInt8):KV->Nat->Option (Nat×Nat)
 |[],_=>none
 |p::r,i=>if w=p.1.1 then some (i,p.1.2) else uz w r (i+1)
def o_(w:List UInt8):KV->Option Nat
 |[]=>none
 |p::r=>if w=p.1.1 then some p.1.2 else o_ w r
def Nk(w):∀a i,(uz w a i).map (·.2)=o_ w a
 |[],_=>rfl
 |p::r,i=>by
  simp[uz,o_];split
  ·rfl
  ·exact Nk w r (i+1)
def NI(w):∀a i,rS (.str w) (mS a) i=some ((uz w a i).map λq=>(q.1,.i q.2))
 |[],_=>rfl
 |p::r,i=>by
  simp[mS,rS,yI,uz];by_cases h:w=p.1.1
  ·rw[μ h,h,beq_self_eq_true];rfl
  ·rw[κ h,aEp.2 h];exact(NI w r (i+1))
def XU{w}:∀{a:KV} {i j n:Nat},uz w a i=some (j,n)->i<=j
 |p::r,i,j,n,h=>by
  simp[uz] at h;split at h
  ·simp at h;omega
  ·have:=XU h;omega
def adT{w}{m:Nat}:∀{d:KV} {i j n:Nat},uz w d i=some (j,n)->∃b:KV,setAt (mS d) (j-i) (.str w) (.i m)=mS b/\∀x,o_ x b=if x=w then some m else o_ x d
 |p::r,i,j,n,h=>by
  simp[uz] at h;split at h
  ·rename_i c;cases h;refine⟨((w,m),p.2)::r,?_,λx=> ?_⟩
   ·simp[setAt,mS]
   ·simp[o_];by_cases a:x=w
    ·rw[μ a,μ a]
    ·rw[κ a,κ a,κ (by rw[<-c];exact a)]
  ·rename_i c;obtain⟨b,g,f⟩:=adT (m:=m) h;have hj:=XU h;refine⟨p::b,?_,λx=> ?_⟩
   ·have e:j-i=(j-(i+1))+1:=aa;rw[e];have:setAt (mS (p::r)) (j-(i+1)+1) (.str w) (.i m)=(.str p.1.1,.i p.1.2,p.2)::setAt (mS r) (j-(i+1)) (.str w) (.i m):=by simp[setAt,mS]
    rw[this,g];rfl
   ·simp[o_,f];by_cases a:x=p.1.1
    ·rw[μ a,κ (by rw[a];exact λe=>c e.symm)];rw[μ a]
    ·rw[κ a,κ a]
def Ws(x):∀a p,o_ x (a++[p])=match o_ x a with|some n=>some n|none=>if x=p.1.1 then some p.1.2 else none
 |[],p=>rfl
 |q::r,p=>by
  simp[o_];split
  ·rfl
  ·exact Ws x r p
def ZF:Dp prog 190=some (9,3):=af
def adU(w):AO prog 9 (.str w)=true:=by have:prog.underlying 9=some .string:=af;simp[AO,this]
def ax6:zeroV prog 3=some (.i 0):=af
def D7(o:Option Nat):AV:=.tup [.i (o.getD 0:Nat),.bool o.isSome]
def Oi{H:ab}{id}{a:KV}{c}(h:H.get id=some (.map (mS a) c))(w):Aw prog H 190 (.map id) (.str w) true=some (D7 (o_ w a)):=by
 simp[Aw,h,ZF,adU,NI,<-Nk w a 0]
 cases uz w a 0 with
 |none=>simp[ax6,D7]
 |some q=>simp[D7]
def aj1{H:ab}{id}{a:KV}{c}(h:H.get id=some (.map (mS a) c))(w)(n:Nat):∃b k,x_ prog 190 (.map id) (.str w) (.i n) H=some (gz,H.set id (.map (mS b) k))/\∀x,o_ x b=if x=w then some n else o_ x a:=by
 simp only[x_,h,ZF,adU,ez,NI]
 cases hf:uz w a 0 with
 |some q=>obtain⟨j,n0⟩:=q;obtain⟨b,d,g⟩:=adT (m:=n) hf;refine⟨b,c,?_,g⟩;rw[Nat.sub_zero] at d;simp[AV.width,d]
 |none=>
  refine⟨a++[((w,n),c)],c+1,?_,λx=> ?_⟩
  ·simp[AV.width,mS]
  ·have e:=Nk w a 0;rw[hf] at e;rw[Ws];by_cases f:x=w
   ·subst f;rw[<-e];simp
   ·simp[f];cases o_ x a<;>rfl
def bg(b:Bi):AV:=.agg [.i b.at_,.i b.k,.str b.w,.i b.item]
def dS:Option Nat->Int|none=> -1|some i=>(i)
def ck(x:Me):AV:=.agg [.i x.at_,.i (dS x.to),.bool x.wr,.i x.bK]
def ny(p:Nat×Nat):List AV:=[.i p.1,.i p.2]
def dT(l:List (Nat×Nat)):List AV:=l.flatMap ny
structure gn where
 aX:Nat
 mp:Nat
 lam:Bool
 dh:List Nat
def zQ:List gn->List RN
 |[]=>[]
 |f::r=>f.dh.map RN.nm++.fu f.lam::zQ r
def bq(fs:List gn)(gs:List Nat):List RN:=zQ fs++gs.map RN.nm
def ei:List gn->AV
 |[]=>.val (.pointer none)
 |f::_=>.ptr f.aX 0
def pa(H:ab)(id:Nat)(bs:List Bi)(dh:List Nat):Prop:=∃a c,H.get id=some (.map (mS a) c)/\(∀w,o_ w a=dh.find? λi=>jh bs i w)/\∀i∈dh,i<bs.length
def qN(H:ab)(bs:List Bi):List gn->Prop
 |[]=>True
 |f::r=>(∃a,H.get f.aX=some (.cells a [.map f.mp,.bool f.lam,ei r]))/\pa H f.mp bs f.dh/\qN H bs r
def vE(H:ab)(bad:List (Nat×Nat))(v:AV):Prop:=(bad=[]/\v=.vec .nil [])\/(bad≠[]/\∃id,v=.sl id 2 0 bad.length/\H.get id=some (.row bad.length 198 2 (dT bad)))
structure dL(b mb g:Nat)(m:Mp)(item:Nat)(fs:List gn)(gs:List Nat)(H:ab):Prop where
 hb:∃tb,H.get b=some (.cells tb [.ptr mb 0,ei fs,.map g,.i item])
 hm:∃tm o1 o2 bv,H.get mb=some (.cells tm [.vec o1 (m.bs.map bg),.vec o2 (m.ms.map ck),bv])/\cY H 102 o1 m.bs.length/\cY H 138 o2 m.ms.length/\vE H m.bad bv
 hg:pa H g m.bs gs
 ch:qN H m.bs fs
 nd:(g::fs.map (·.mp)).Nodup
 fb:∀f∈fs,f.aX≠b/\f.aX≠mb
 bm:b≠mb
def Kp(b mb:Nat)(H H':ab):Prop:=H.next<=H'.next/\∀i te cs,i≠b->i≠mb->H.get i=some (.c te cs)->H'.get i=some (.c te cs)
def Kp.refl(b mb)(H:ab):Kp b mb H H:=⟨ν _,λ_ _ _ _ _ h=>h⟩
def Kp.trans{b mb}{H H' e:ab}(h:Kp b mb H H')(a:Kp b mb H' e):Kp b mb H e:=⟨atB h.1 a.1,λi te cs d c f=>a.2 i te cs d c (h.2 i te cs d c f)⟩
def NR(x:bB):Prop:=∀n et s cs,x≠.row n et s cs
def yq{te}{cs:List AV}:NR (.c te cs):=λ_ _ _ _ h=>by cases h
def Qa{n et:Nat}:NR (.bQ n et):=λ_ _ _ _ h=>by cases h
def Qb{es}{c:Nat}:NR (.map es c):=λ_ _ _ _ h=>by cases h
def KN(H H':ab):Prop:=H.next<=H'.next/\∀i x,NR x->H.get i=some x->H'.get i=some x
def ud:∀l:List (Nat×Nat),(dT l).length=l.length*2
 |[]=>rfl
 |p::r=>by have:=ud r;simp only[dT] at this;simp only[dT,agX,τ,this,ny,Γ,Χ];omega
def anU(l)(p:Nat×Nat):dT (l++[p])=dT l++ny p:=by simp[dT]
def agJ{H}{bad:List (Nat×Nat)}{v:AV}(h:vE H bad v)(hn:bad.length<=1000000000)(p):
  ∃b H',cH (λt=>t==74) prog 74 74 v (.vec .full [.agg (ny p)]) H=some (b,H')/\vE H' (bad++[p]) b/\KN H H':=by
 rcases h with⟨rfl,rfl⟩|⟨a,id,rfl,hid⟩
 ·refine⟨.sl H.next 2 0 1,H.push (.row 1 198 2 (ny p)),?_,.inr ⟨ah,H.next,rfl,by rw[ab.fL,μ rfl];simp[dT]⟩,aEg _,λi x c hi=> ?_⟩
  ·simp[cH,Ft,CB,abu,P_,jK,vk,nT,oV,fF,ny,AV.width,AV.cells]
  ·rw[ab.fL,κ (by have:=ab.ep hi;omega)];exact hi
 ·refine⟨.sl H.next 2 0 (bad.length+1),(H.del id).push (.row (bad.length+1) 198 2 (dT bad++ny p)),?_,.inr ⟨ah,H.next,ah,?_⟩,aEg _,λi x c hi=> ?_⟩
  ·have e:(bad.length+1)*16<=140737488355328:=aa;have d:bad.length+1<=9223372036854775807:=aa;have h3:(dT bad).take (bad.length*2)=dT bad:=aFq (by rw[ud];exact ν _);simp[cH,Ft,CB,abu,P_,jK,vk,nT,oV,fF,ny,AV.width,AV.cells,hid,e,d,h3]
  ·have:(ab.push (H.del id) (.row (bad.length+1) 198 2 (dT bad++ny p))).get H.next=some (.row (bad.length+1) 198 2 (dT bad++ny p)):=by
    rw[ab.fL];exact μ rfl
   rw[this,anU];simp
  ·have a:id≠i:=by rintro rfl;rw[hid] at hi;cases hi;exact c _ _ _ _ rfl
   rw[ab.fL,κ (by have:=ab.ep hi;show H.next≠i;omega),ab.Cx,κ a];exact hi
set_option maxHeartbeats 8000000
def pa.cj{H H':ab}{id}{bs}{dh}(h:pa H id bs dh)(d:∀x,NR x->H.get id=some x->H'.get id=some x):pa H' id bs dh:=by obtain⟨b,c,e,a,h3⟩:=h;exact⟨b,c,d _ Qb e,a,h3⟩
def qN.cj{H H':ab}{bs}:∀{fs:List gn},qN H bs fs->(∀f∈fs,∀x,NR x->H.get f.aX=some x->H'.get f.aX=some x)->(∀f∈fs,∀x,NR x->H.get f.mp=some x->H'.get f.mp=some x)->qN H' bs fs
 |[],_,_,_=>trivial
 |f::r,⟨⟨c,d⟩,b,h3⟩,a,hm=>⟨⟨c,a f ah _ yq d⟩,b.cj (hm f ah),h3.cj (λg hg=>a g (Κ _ hg)) (λg hg=>hm g (Κ _ hg))⟩
def qN.at{H:ab}{bs}:∀{fs:List gn} {f:gn},qN H bs fs->f∈fs->pa H f.mp bs f.dh
 |f::r,g,⟨_,a,h3⟩,hg=>by
  rcases Υ.1 hg with rfl|hg
  ·exact a
  ·exact h3.at hg
def dL.cj{b mb g}{m:Mp}{item}{fs}{gs}{H H':ab}(h:dL b mb g m item fs gs H)(a:∀i x,NR x->i≠mb->H.get i=some x->H'.get i=some x)
  (hm:∃tm o1 o2 bv,H'.get mb=some (.cells tm [.vec o1 (m.bs.map bg),.vec o2 (m.ms.map ck),bv])/\cY H' 102 o1 m.bs.length/\cY H' 138 o2 m.ms.length/\vE H' m.bad bv):dL b mb g m item fs gs H':=by
 obtain⟨tb,hb⟩:=h.hb;obtain⟨tm,o1,o2,bv,p,_⟩:=h.hm;have nm:∀{i es c},H.get i=some (.map es c)->i≠mb:=λ{i es c} hi e=>by rw[e,p] at hi;cases hi
 have o:∀{id dh},pa H id m.bs dh->pa H' id m.bs dh:=λ{id dh} n=>by obtain⟨k,c,d,l,h3⟩:=n;exact⟨k,c,a _ _ Qb (nm d) d,l,h3⟩
 refine⟨⟨tb,a _ _ yq h.bm hb⟩,hm,o h.hg,?_,h.nd,h.fb,h.bm⟩;refine h.ch.cj (λf hf x j hi=>a _ _ j (h.fb f hf).2 hi) (λf hf x j hi=> ?_);obtain⟨k,c,d,_⟩:=h.ch.at hf;exact a _ _ j (nm d) hi
def ZG{H H':ab}{et}{o}{n mb}(h:cY H et o n){te}{cs}(b:H.get mb=some (.c te cs))(d:∀i x,NR x->i≠mb->H.get i=some x->H'.get i=some x):cY H' et o n:=
 h.cj λj m a=>d _ _ Qa (by rintro rfl;rw[b] at a;cases a) a
def yr{H H':ab}{bad}{v}(h:vE H bad v)(b:∀i n et s cs,H.get i=some (.row n et s cs)->H'.get i=some (.row n et s cs)):vE H' bad v:=by
 rcases h with h|⟨c,id,a,h3⟩
 ·exact .inl h
 ·exact .inr ⟨c,id,a,b _ _ _ _ _ h3⟩
def aBS(a c)(H):dZ prog 74 1 [(0,.agg [.i a,.i c])] H=some (.vec .full [.agg [.i a,.i c]],H):=by simp[dZ,Ft,CB,P_,mc,fF,lj,sY,sZ,AV.width,AV.cells,eo,AV.one]
def aBT(b:Bi)(H):dZ prog 72 1 [(0,.agg [.i b.at_,.i b.k,.str b.w,.i b.item])] H=some (.vec .full [bg b],H):=by simp[dZ,Js,E6,abo,mc,fF,lj,sY,sZ,CN,AV.width,AV.cells,eo,AV.one,bg]
def aBU(x:Me)(H):dZ prog 73 1 [(0,.agg [.i x.at_,.i (dS x.to),.bool x.wr,.i x.bK])] H=some (.vec .full [ck x],H):=by simp[dZ,Jt,E7,abr,mc,fF,lj,sY,sZ,IG,AV.width,AV.cells,eo,AV.one,ck]
attribute [go_sem] aBS
noncomputable def Sj:=f146.c.o
def Pe{b mb g}{m:Mp}{item}{fs}{gs}{H}(h:dL b mb g m item fs gs H)(V:m.bad.length<=1000000000)(a c:Nat):
  ∃H',run bA 146 [.ptr b 0,.i a,.i c] H=some (.tup [],H')/\dL b mb g ⟨m.bs,m.ms,m.bad++[(a,c)]⟩ item fs gs H'/\Kp b mb H H':=by
 obtain⟨n,L⟩:=H;obtain⟨tb,hb⟩:=h.hb;obtain⟨tm,o1,o2,bv,o,W,O,M⟩:=h.hm;obtain⟨j,⟨n1,C⟩,G,p,u⟩:=agJ M V (a,c);obtain⟨J,I⟩:=ai.1 hb;obtain⟨Q,gm⟩:=ai.1 o;obtain⟨B,D⟩:=ai.1 (u.2 _ _ yq hb);obtain⟨t,v⟩:=ai.1 (u.2 _ _ yq o)
 have w:j.width=some 1/\j.cells=[j]/\eo [j]=true:=by
  rcases p with⟨K,rfl⟩|⟨K,id,rfl,_⟩
  ·exact⟨rfl,rfl,rfl⟩
  ·exact⟨rfl,rfl,rfl⟩
 obtain⟨N,U,v3⟩:=w;simp[ny] at G
 suffices hh:∃r,run bA 146 [.ptr b 0,.i a,.i c] ⟨n,L⟩=some r/\r=(.tup [],(⟨n1,aH C mb (.cells tm [.vec o1 (m.bs.map bg),.vec o2 (m.ms.map ck),j])⟩:ab)) by
  obtain⟨r,T,rfl⟩:=hh;have l:∀i x,NR x->i≠mb->ab.get ⟨n,L⟩ i=some x->ab.get ⟨n1,aH C mb (.cells tm [.vec o1 (m.bs.map bg),.vec o2 (m.ms.map ck),j])⟩ i=some x:=λi x q hi E=>by obtain⟨d,k⟩:=ai.1 (u.2 i x q E);exact ai.2 ⟨d,by rw[aR,κ (λe=>hi e.symm)];exact k⟩
  have y:ab.get ⟨n1,aH C mb (.cells tm [.vec o1 (m.bs.map bg),.vec o2 (m.ms.map ck),j])⟩ mb=some (.cells tm [.vec o1 (m.bs.map bg),.vec o2 (m.ms.map ck),j]):=ai.2 ⟨t,by rw[aR,μ rfl,v];rfl⟩;refine⟨_,T,⟨?_,?_,?_,?_,h.nd,h.fb,h.bm⟩,u.1,λi te cs _ hi E=>l i _ yq hi E⟩
  ·exact⟨tb,l _ _ yq h.bm hb⟩
  ·refine⟨tm,o1,o2,j,y,ZG W o l,ZG O o l,yr p λi n et s cs hi=> ?_⟩;obtain⟨d,k⟩:=ai.1 hi;exact ai.2 ⟨d,by rw[aR,κ (by rintro rfl;rw[v] at k;cases k)];exact k⟩
  ·obtain⟨F,c,d,k,z⟩:=h.hg;exact⟨F,c,l _ _ Qb (by rintro rfl;rw[o] at d;cases d) d,k,z⟩
  ·refine h.ch.cj (λf hf x q hi=>l _ _ q (h.fb f hf).2 hi) (λf hf x q hi=> ?_);obtain⟨F,c,d,_⟩:=h.ch.at hf;exact l _ _ q (by rintro e;rw[e,o] at d;cases d) hi
 refine fM (c:=.region 0 Sj.toArray true) rfl rfl func146 rfl (by rw[ntmps146];simp) ?_;obtain⟨A,P,d,k,z,S,R⟩:∃A,A=Sj.toArray/\behind A A.size 15 7=true/\behind A A.size 15 10=true/\behind A A.size 18 3=true/\behind A A.size 18 7=true/\behind A A.size 18 10=true:=⟨_,rfl,af,af,af,af,af⟩;rw[nG _ _ rfl rfl,<-P];rw[show Sj=[_,_,_,_,_,_,_,_,_,_,_,_,_,_,_,_,_,_,_] from rfl];simp only[go_sem,seval,d,k,z,S,R,aEO,v,aC I,aC gm,aC D,aC v,ο J,ο Q,ο B,ο t,aQ,cG,G,N,U,v3,results146];exact⟨_,rfl,rfl⟩
end Go.Proofs.YtmehamiifalmaaaGreatDoor
namespace Go.Ab
open Go
def oW{E}{call}{B}{α}{H}{Q}(h:aF (aL (aN E call aL B) α H) Q):∃r,aN E call aL (.loop B) α H=some r/\∃e a H',r=(e,a,H')/\Q e a H':=by obtain⟨e,a,H',b,c⟩:=ke h;exact⟨(e,a,H'),by rw[gu,b],e,a,H',rfl,c⟩
end Go.Ab
namespace Go.Proofs.YtmehamiifalmaaaGreatDoor
open Go Go.Ab Go.Proofs.Tryz
set_option maxRecDepth 100000
set_option maxHeartbeats 8000000
def abv:Ba prog 191=true:=af
def PL(i o)(c):nS prog .neq 191 c (.ptr i o) (.val (.pointer none))=some (.bool true):=by simp[nS,EY,fH,abv,qD]
def atu(c):nS prog .neq 191 c (.val (.pointer none)) (.val (.pointer none))=some (.bool false):=by simp[nS,EY,fH,abv,qD]
def qI:mX (.pointer none)=.val (.pointer none):=rfl
def aBW(o:Option Nat):ij 0 (D7 o)=some (.i (o.getD 0:Nat)):=(rfl)
def aBX(o:Option Nat):ij 1 (D7 o)=some (.bool o.isSome):=(rfl)
def afh{E}(t)(m k v):bT E (.mapUpdate t m k v)=.wr:=(rfl)
def afi{E}{call}{ρ}{H:ab}(t)(m k v):bh E call (.mapUpdate t m k v) ρ H=x_ E.P t (ρ m) (ρ k) (ρ v) H:=(rfl)
def agK{E}{call}{ρ}{H:ab}(t):bh E call (.makeMap t none) ρ H=some (.map H.next,H.push (.map [] 0)):=(rfl)
attribute [go_sem ↓] afh afi agK
attribute [go_sem] PL atu aBW aBX
def findF(bs:List Bi)(w:List UInt8):List gn->Nat->Option (Nat×Nat)
 |[],_=>none
 |f::r,bK=>match f.dh.find? λi=>jh bs i w with
  |some i=>some (i,bK)
  |none=>findF bs w r (if f.lam then bK+1 else bK)
def pW(bs:List Bi)(w:List UInt8)(fs:List gn)(gs:List Nat):Option Nat×Nat:=match findF bs w fs 0 with
 |some (i,bK)=>(some i,bK)
 |none=>(gs.find? λi=>jh bs i w,0)
noncomputable def Kz:=f225.c.r.l.r.b.b
def Pf{b mb g:Nat}{bs}{H}{w}:∀fs bK α,qN H bs fs->bK+fs.length<=1000000000->α 1=.str w->α 6=ei fs->α 5=.i bK->α 0=.ptr b 0->
  aF (aL (aT bA Kz) α H) λe l H'=>H'=H/\((∃i d,findF bs w fs bK=some (i,d)/\e=.ret/\l 4=.i i/\l 5=.i d)\/(findF bs w fs bK=none/\e=.exit 0/\l 0=.ptr b 0/\l 1=.str w))
 |[],bK,α,hc,s,h,a,h5,k=>by
  have m:Kz=.seq _ _:=rfl;simp[ei] at a;rw[aJ,m];simp only[go_sem,seval,a,qI];refine⟨aI,.inr ⟨rfl,aI,?_,?_⟩⟩;all_goals simp[go_sem,k,h]
 |f::r,bK,α,⟨⟨tf,hf⟩,hm,q⟩,s,h,a,h5,k=>by
  have m:Kz=.seq _ _:=rfl;obtain⟨n,L⟩:=H;simp[ei] at a;simp at s;obtain⟨z,gf⟩:=ai.1 hf;have cf:=aC gf;have p:=ο z;obtain⟨kv,c,m1,t,m3⟩:=hm;have j:=Oi m1 w;rw[t w] at j;rw[aJ,m]
  cases hs:f.dh.find? λi=>jh bs i w with
  |some i=>
   rw[hs] at j;simp only[go_sem,seval,k,h,h5,a,p,cf,qI,j,aEf,aE1];refine⟨aI,.inl ⟨i,bK,by simp[findF,hs],aI,?_,?_⟩⟩;all_goals simp[go_sem]
  |none=>
   rw[hs] at j
   cases xt:f.lam with
   |true=>
    have ih:=λα=>Pf (b:=b) (mb:=mb) (g:=g) (w:=w) r (bK+1) α q aa;have o:findF bs w (f::r) bK=findF bs w r (bK+1):=by simp[findF,hs,xt]
    rw[o];simp[go_sem,h,h5,a,p,cf,qI,j,xt,(mh (n:=bK) aa),Β];refine ih _ ?_ ?_ ?_ ?_;all_goals simp[go_sem,k,h]
   |false=>
    have ih:=λα=>Pf (b:=b) (mb:=mb) (g:=g) (w:=w) r bK α q aa;have o:findF bs w (f::r) bK=findF bs w r bK:=by simp[findF,hs,xt]
    rw[o];simp[go_sem,h,a,p,cf,qI,j,xt,Β];refine ih _ ?_ ?_ ?_ ?_;all_goals simp[go_sem,k,h,h5]
def atv{b mb g}{m:Mp}{item}{fs:List gn}{gs}{H}(h:dL b mb g m item fs gs H)(hn:fs.length<=1000000)(w:List UInt8):
  run bA 225 [.ptr b 0,.str w] H=some (.tup [.i (dS (pW m.bs w fs gs).1),.i ((pW m.bs w fs gs).2:Int)],H):=by
 obtain⟨n,L⟩:=H;obtain⟨tb,hb⟩:=h.hb;obtain⟨k,p⟩:=ai.1 hb;have cb:=aC p;have j:=ο k;obtain⟨kv,c,m1,l,m3⟩:=h.hg;have a:=Oi m1 w;rw[l w] at a;refine ow (c:=.seq _ (.seq (.seq _ (.block 0 (.loop Kz))) _)) rfl rfl func225 rfl (by rw[ntmps225];simp) ?_;simp only[go_sem,↓reduceIte,Nat.reduceAdd,reduceCtorEq,j,cb];simp[bW];refine bz (oW (Pf (b:=b) (mb:=mb) (g:=g) (w:=w) fs 0 _ h.ch aa ?_ ?_ ?_ ?_)) ?_
 case refine_5=>
  rintro _ ⟨e,ae,H',rfl,rfl,⟨i,d,f,rfl,o,h5⟩|⟨f,rfl,a0,a1⟩⟩
  ·simp only[go_sem,o,h5,pW,f,dS,results225]
  ·cases hs:gs.find? λi=>jh m.bs i w with
   |some i=>rw[hs] at a;simp only[go_sem,↓reduceIte,Nat.reduceEqDiff,Nat.reduceAdd,a0,a1,j,cb,a,aEf,aE1,pW,f,hs,dS,results225];rfl
   |none=>rw[hs] at a;simp only[go_sem,↓reduceIte,Nat.reduceEqDiff,Nat.reduceAdd,a0,a1,j,cb,a,Β,pW,f,hs,dS,results225];rfl
 all_goals simp only[go_sem,↓reduceIte,Nat.reduceEqDiff,reduceCtorEq,]
 all_goals rfl
def rZ(n:Nd):(aB n)[0]? =some (.i n.k):=by cases n;rfl
def ax7(n:Nd):(aB n)[3]? =some (.str n.w):=by cases n;rfl
def ax8(n:Nd):(aB n)[4]? =some (.i n.a):=by cases n;rfl
attribute [go_sem] rZ ax7 ax8 oK
def CM(x:bB):Prop:=(∃te cs,x=.c te cs)\/∃es c,x=.map es c
def Sk{te}{cs:List AV}:CM (.c te cs):=.inl ⟨_,_,rfl⟩
def adV{es}{c:Nat}:CM (.map es c):=.inr ⟨_,_,rfl⟩
def aj2{bs:List Bi}{i}(h:i<bs.length)(x)(w):jh (bs++[x]) i w=jh bs i w:=by unfold jh;rw[atI h]
def NJ{bs:List Bi}(x)(w):∀{dh:List Nat},(∀i∈dh,i<bs.length)->(dh.find? λi=>jh (bs++[x]) i w)=dh.find? λi=>jh bs i w
 |[],_=>rfl
 |i::r,h=>by simp[aE0,aj2 (h i ah),(NJ x w (dh:=r) λj a=>h j (Κ _ a))]
def pa.grow{H}{id}{bs}{dh}(h:pa H id bs dh)(x):pa H id (bs++[x]) dh:=by obtain⟨b,c,a,d,h3⟩:=h;exact⟨b,c,a,λw=>by rw[d,NJ x w h3],λi hi=>by have:=h3 i hi;simp;omega⟩
def aj3(bs:List Bi)(x:Bi)(w):jh (bs++[x]) bs.length w=decide (x.w=w):=by simp[jh]
def At(g id:Nat)(dh:List Nat)(fs:List gn)(gs:List Nat)(a:List gn)(b:List Nat)(n:Nat):Prop:=
 (id=g/\dh=gs/\fs=[]/\a=[]/\b=n::gs)\/∃f r,fs=f::r/\id=f.mp/\dh=f.dh/\a=⟨f.aX,f.mp,f.lam,n::f.dh⟩::r/\b=gs
def Pg(bs)(w)(rest)(a:rest=[]\/∃lam r,rest=.fu lam::r):∀dh:List Nat,tw bs w (dh.map RN.nm++rest)=(dh.find? λi=>jh bs i w).isSome
 |[]=>by rcases a with rfl|⟨lam,r,rfl⟩<;>rfl
 |i::s=>by simp[tw,aE0,Pg bs w rest a s];cases jh bs i w<;>rfl
def At.dup{g id n:Nat}{dh gs b:List Nat}{fs a:List gn}(h:At g id dh fs gs a b n)(bs:List Bi)(w:List UInt8):tw bs w (bq fs gs)=(dh.find? λi=>jh bs i w).isSome:=by
 rcases h with⟨rfl,rfl,rfl,rfl,rfl⟩|⟨f,r,rfl,rfl,rfl,rfl,rfl⟩
 ·have:=Pg bs w [] (.inl rfl) dh;rw[Η] at this;exact this
 ·simp[bq,zQ,Λ];exact Pg bs w _ (.inr ⟨_,_,rfl⟩) f.dh
def At.map{b mb g id n}{m:Mp}{item}{dh gs d:List Nat}{fs c:List gn}{H:ab}(h:At g id dh fs gs c d n)(a:dL b mb g m item fs gs H):pa H id m.bs dh:=by
 rcases h with⟨rfl,rfl,rfl,rfl,rfl⟩|⟨f,r,rfl,rfl,rfl,rfl,rfl⟩
 ·exact a.hg
 ·exact a.ch.at ah
def qN.upd{H H':ab}{bs}{x:Bi}:∀{fs:List gn},qN H bs fs->(∀f∈fs,∀te cs,H.get f.aX=some (.c te cs)->H'.get f.aX=some (.c te cs))->(∀f∈fs,∀es c,H.get f.mp=some (.map es c)->H'.get f.mp=some (.map es c))->qN H' (bs++[x]) fs
 |[],_,_,_=>trivial
 |f::r,⟨⟨h,e⟩,⟨j,c,d,i,a⟩,h3⟩,b,hm=>⟨⟨h,b f ah _ _ e⟩,pa.grow ⟨j,c,hm f ah _ _ d,i,a⟩ x,h3.upd (λg hg=>b g (Κ _ hg)) (λg hg=>hm g (Κ _ hg))⟩
def dL.bound{b mb g id}{m:Mp}{item:Nat}{dh gs u:List Nat}{fs B:List gn}{H H':ab}{x:Bi}{bad:List (Nat×Nat)}(h:dL b mb g m item fs gs H)(C:At g id dh fs gs B u m.bs.length)
  (j:∀i y,CM y->i≠mb->i≠id->H.get i=some y->H'.get i=some y) (hm:∃tm o1 o2 bv,H'.get mb=some (.cells tm [.vec o1 ((m.bs++[x]).map bg),.vec o2 (m.ms.map ck),bv])/\cY H' 102 o1 (m.bs++[x]).length/\cY H' 138 o2 m.ms.length/\vE H' bad bv)
  (hid:∃d c,H'.get id=some (.map (mS d) c)/\∀w,o_ w d=if w=x.w then some m.bs.length else dh.find? λi=>jh m.bs i w):dL b mb g ⟨m.bs++[x],m.ms,bad⟩ item B u H':=by
 obtain⟨tb,hb⟩:=h.hb;obtain⟨BL,_,_,_,E,_⟩:=h.hm;obtain⟨kv0,c0,q,_,A⟩:=C.map h;have F:b≠id:=by rintro rfl;rw[hb] at q;cases q
 have z:∃tb,H'.get b=some (.cells tb [.ptr mb 0,ei fs,.map g,.i item]):=⟨tb,j _ _ Sk h.bm F hb⟩
 have s:pa H' id (m.bs++[x]) (m.bs.length::dh):=by
  obtain⟨d,c,n,p⟩:=hid;refine⟨d,c,n,λw=> ?_,λi hi=> ?_⟩
  ·rw[p,aE0,aj3,NJ x w A];by_cases o:w=x.w
   ·rw[μ o,π o.symm]
   ·rw[κ o,ξ (λe=>o e.symm)]
  ·simp[aE6];rcases Υ.1 hi with rfl|hi
   ·omega
   ·have:=A i hi;omega
 have nm:∀{i es c},H.get i=some (.map es c)->i≠mb:=λ{i es c} hi e=>by rw[e,E] at hi;cases hi
 have k:∀{i te cs},H.get i=some (.c te cs)->i≠id:=λ{i te cs} hi e=>by rw[e,q] at hi;cases hi
 rcases C with⟨rfl,rfl,rfl,rfl,rfl⟩|⟨f,r,rfl,rfl,rfl,rfl,rfl⟩
 ·exact⟨z,hm,s,trivial,h.nd,λf hf=>(by cases hf),h.bm⟩
 ·have D:=h.nd;simp only[aEv,aF8,Υ,not_or] at D;obtain⟨⟨t,K⟩,v,G⟩:=D;obtain⟨⟨J,hf⟩,LI,I⟩:=h.ch;refine⟨z,hm,?_,⟨⟨J,j _ _ Sk (h.fb f ah).2 (k hf) hf⟩,s,?_⟩,?_,?_,h.bm⟩
  ·obtain⟨d,c,n,p,h3⟩:=h.hg;exact pa.grow ⟨d,c,j _ _ adV (nm n) t n,p,h3⟩ x
  ·refine I.upd (λy a te cs l=>j _ _ Sk (h.fb y (by simp[a])).2 (k l) l) (λy a es c l=>j _ _ adV (nm l) (λe=>v ?_) l);rw[<-e];exact List.mem_map_of_mem a
  ·simp only[aEv,aF8,Υ,not_or];exact⟨⟨t,K⟩,v,G⟩
  ·intro y a;rcases Υ.1 a with rfl|a
   ·exact h.fb f ah
   ·exact h.fb y (by simp[a])
end Go.Proofs.YtmehamiifalmaaaGreatDoor
namespace Go.Ab
open Go
def wE{m}{P}{t et}{s b}(d:jD P t et s b)(hm:m t=false){H:ab}{o o2}{es xs:List AV}(h:cY H et o es.length)(l:cQ s es)(g:cQ s xs)(k:xs≠[])(hb:(es.length+xs.length)*b<=140737488355328)(f:es.length+xs.length<=9223372036854775807):
  ∃j H',cH m P t t (.vec o es) (.vec o2 xs) H=some (.vec (.own j) (es++xs),H')/\cY H' et (.own j) (es++xs).length/\H.next<=H'.next/\∀i x,(∀n,x≠.bQ n et)->H.get i=some x->H'.get i=some x:=by
 have q:xs.length≠0:=λh=>k (Ξ.1 h);have a:(es++xs).length=es.length+xs.length:=τ;have p:∀(y:bB) i x,H.get i=some x->(H.push y).get i=some x:=λy i x hi=>by rw[ab.fL,κ (by have:=ab.ep hi;omega)];exact hi
 rcases h with⟨rfl,e⟩|⟨rfl,e⟩|⟨e,j,rfl,c⟩
 ·have:es=[]:=Ξ.1 e;subst this;exact⟨H.next,_,append_nil d hm g k (by simpa using hb) (by simpa using f),.inr (.inr ⟨by simpa using q,H.next,rfl,by rw[ab.fL,μ rfl];simp⟩),aEg _,λi x _ hi=>p _ _ _ hi⟩
 ·exact⟨H.next,_,M2 d hm l g k hb f,.inr (.inr ⟨by rw[a];omega,H.next,rfl,by rw[ab.fL,μ rfl,a]⟩),aEg _,λi x _ hi=>p _ _ _ hi⟩
 ·refine⟨j,_,HG d c l g hb f,.inr (.inr ⟨by rw[a];omega,j,rfl,by rw[ab.eE,μ rfl,c,a];rfl⟩),ν _,λi x r hi=> ?_⟩;rw[ab.eE,κ (by rintro rfl;rw[c] at hi;cases hi;exact r _ rfl)];exact hi
end Go.Ab
namespace Go.Proofs.YtmehamiifalmaaaGreatDoor
open Go Go.Ab Go.Proofs.Tryz
set_option maxRecDepth 100000
set_option maxHeartbeats 8000000
noncomputable def QT:=f102.c.r.r.l.o
noncomputable def QU:=f102.c.r.r.r.o
noncomputable def Sm:=f102.c.r.r
def Is(l:List Bi):cQ 4 (l.map bg):=λe a=>by obtain⟨x,_,rfl⟩:=aEI.1 a;rfl
def It(l:List Me):cQ 4 (l.map ck):=λe a=>by obtain⟨x,_,rfl⟩:=aEI.1 a;rfl
def Wt{b mb g id q}{m:Mp}{item k:Nat}{dh gs W:List Nat}{fs Z:List gn}{H:ab}{nd:Nd}{α:az}(h:dL b mb g m item fs gs H)(ha:At g id dh fs gs Z W m.bs.length)(hn:m.bs.length<=1000000)
  (Q:H.get q=some (.z (aB nd))) (hqb:q≠mb) (a0:α 0=.ptr b 0) (a1:α 1=.map id) (a3:α 3=.i k) (a6:α 6=.ptr q 0):
  aF (aN bA (run bA) aL Sm α H) λe ae H'=>e=.normal/\dL b mb g ⟨m.bs++[⟨nd.a,k,nd.w,item⟩],m.ms,m.bad⟩ item Z W H'/\Kp b mb H H':=by
 obtain⟨n2,u⟩:=H;obtain⟨tb,hb⟩:=h.hb;obtain⟨tm,o1,o2,bv,D,gE,oe,kH⟩:=h.hm;obtain⟨kv,c,m1,m2,m3⟩:=ha.map h;obtain⟨C,v,e1,S⟩:=aj1 m1 nd.w m.bs.length;have ib:id≠b:=by rintro rfl;rw[hb] at m1;cases m1
 have im:id≠mb:=by rintro rfl;rw[D] at m1;cases m1
 have iq:id≠q:=by rintro rfl;rw[Q] at m1;cases m1
 have X:x_ prog 190 (.map id) (.str nd.w) (.i m.bs.length) ⟨n2,u⟩=some (gz,⟨n2,aH u id (.map (mS C) v)⟩):=e1;have p3:∀i x,i≠id->ab.get ⟨n2,u⟩ i=some x->ab.get ⟨n2,aH u id (.map (mS C) v)⟩ i=some x:=λi x hi f=>by obtain⟨l,d⟩:=ai.1 f;exact ai.2 ⟨l,by rw[aR,κ (λe=>hi e.symm)];exact d⟩
 have L:ab.get ⟨n2,aH u id (.map (mS C) v)⟩ id=some (.map (mS C) v):=by obtain⟨l,d⟩:=ai.1 m1;exact ai.2 ⟨l,by rw[aR,μ rfl,d];rfl⟩
 generalize aH u id (.map (mS C) v)=L3 at X p3 L;have Y:=p3 _ _ (λe=>ib e.symm) hb;have G:=p3 _ _ (λe=>im e.symm) D;have M:∀{j n et},ab.get ⟨n2,u⟩ j=some (.bQ n et)->j≠id:=λ{j n et} N e=>by rw[e,m1] at N;cases N
 have Gb:cY ⟨n2,L3⟩ 102 o1 m.bs.length:=gE.cj λj n N=>p3 _ _ (M N) N;obtain⟨j,⟨n4,L4⟩,e2,F,T,p4⟩:=wE ans (m:=λt=>t==74) rfl (o:=o1) (o2:=.full) (es:=m.bs.map bg) (xs:=[bg ⟨nd.a,k,nd.w,item⟩]) (H:=⟨n2,L3⟩) (by rw[Θ];exact Gb) (Is _) (Is [_]) ah aP aP;obtain⟨zb,gb⟩:=ai.1 hb;obtain⟨zm,gm⟩:=ai.1 D;obtain⟨zq,gq⟩:=ai.1 Q;obtain⟨zb3,R⟩:=ai.1 Y;obtain⟨zm3,P⟩:=ai.1 G;obtain⟨zq3,U⟩:=ai.1 (p3 _ _ (λe=>iq e.symm) Q);obtain⟨TA,TB⟩:=ai.1 (p4 _ _ ah Y);obtain⟨V,fJ⟩:=ai.1 (p4 _ _ ah G);have K:(m.bs.map bg).length=m.bs.length:=Θ _;have J:=λH=>aBT ⟨nd.a,k,nd.w,item⟩ H;simp only at J;obtain⟨A,hA,l,d,q3⟩:∃A,A=QT.toArray/\behind A A.size 11 2=true/\behind A A.size 11 6=true/\behind A A.size 11 9=true:=⟨_,rfl,af,af,af⟩;obtain⟨B,hB,r1,r2,r3,r4,r5,s0,s1,s2,s3,s4,s5⟩:∃A,A=QU.toArray/\behind A A.size 22 7=true/\behind A A.size 22 10=true/\behind A A.size 22 12=true/\behind A A.size 22 15=true/\behind A A.size 22 19=true/\behind A A.size 25 3=true/\behind A A.size 25 7=true/\behind A A.size 25 10=true/\behind A A.size 25 12=true/\behind A A.size 25 15=true/\behind A A.size 25 19=true:=⟨_,rfl,af,af,af,af,af,af,af,af,af,af,af⟩;rw[show Sm=.seq (.region 4 QT.toArray true) (.region 5 QU.toArray true) from rfl,UD _ _ _ rfl rfl];rw[<-hA,show QT=[_,_,_,_,_,_,_,_,_,_,_,_] from rfl];have hR:∀α H,aN bA (run bA) aL (.region 5 QU.toArray true) α H=an (eY bA (run bA) B 0 [_,_,_,_,_,_,_,_,_,_,_,_,_,_,_,_,_,_,_,_,_,_,_,_,_,_] [] [] α H) λr=>some (.normal,r.1,r.2):=λα H=>by rw[nG _ _ rfl rfl,hB];exact rfl
 simp only[go_sem,seval,l,d,q3,r1,r2,r3,r4,r5,s0,s1,s2,s3,s4,s5,aEO,a0,a1,a3,a6,fJ,aC gb,aC gm,aC gq,aC R,aC P,aC U,aC TB,aC fJ,ο zb,ο zm,ο zq,ο TA,ο V,K,X,hR,aQ,J,cG,e2];have O:∀i x,i≠mb->i≠id->(∀n,x≠.bQ n 102)->ab.get ⟨n2,u⟩ i=some x->ab.get ⟨n4,aH L4 mb (.cells tm [.vec (.own j) (m.bs.map bg++[bg ⟨nd.a,k,nd.w,item⟩]),.vec o2 (m.ms.map ck),bv])⟩ i=some x:=λi x I E h3 f=>by obtain⟨l,d⟩:=ai.1 (p4 i x h3 (p3 i x E f));exact ai.2 ⟨l,by rw[aR,κ (λe=>I e.symm)];exact d⟩
 have Sn:ab.get ⟨n4,aH L4 mb (.cells tm [.vec (.own j) (m.bs.map bg++[bg ⟨nd.a,k,nd.w,item⟩]),.vec o2 (m.ms.map ck),bv])⟩ mb=some (.cells tm [.vec (.own j) (m.bs.map bg++[bg ⟨nd.a,k,nd.w,item⟩]),.vec o2 (m.ms.map ck),bv]):=ai.2 ⟨V,by rw[aR,μ rfl,fJ];rfl⟩;have p:∀i x,i≠mb->ab.get ⟨n4,L4⟩ i=some x->ab.get ⟨n4,aH L4 mb (.cells tm [.vec (.own j) (m.bs.map bg++[bg ⟨nd.a,k,nd.w,item⟩]),.vec o2 (m.ms.map ck),bv])⟩ i=some x:=λi x I f=>by obtain⟨l,d⟩:=ai.1 f;exact ai.2 ⟨l,by rw[aR,κ (λe=>I e.symm)];exact d⟩
 refine⟨aI,?_,?_⟩
 ·refine h.bound ha (λi y hy I E f=>O i y I E (λn e=>by rcases hy with⟨_,_,rfl⟩|⟨_,_,rfl⟩<;>cases e) f) ⟨tm,.own j,o2,bv,by rw[aF7];exact Sn,?_,?_,?_⟩ ⟨C,v,?_,λw=>by rw[S,m2]⟩
  ·have tL:((m.bs.map bg)++[bg ⟨nd.a,k,nd.w,item⟩]).length=(m.bs++[(⟨nd.a,k,nd.w,item⟩:Bi)]).length:=ah;rw[tL] at F;exact F.cj λi n hi=>p _ _ (by rintro rfl;obtain⟨_,d⟩:=ai.1 hi;rw[fJ] at d;cases d) hi
  ·exact oe.cj λi n hi=>O _ _ (by rintro rfl;rw[D] at hi;cases hi) (M hi) (λn' e=>by cases e) hi
  ·exact yr kH λi n et s cs hi=>O _ _ (by rintro rfl;rw[D] at hi;cases hi) (by rintro rfl;rw[m1] at hi;cases hi) (λn' e=>by cases e) hi
  ·exact p _ _ im (p4 _ _ ah L)
 ·exact⟨T,λi te cs _ E f=>O i _ E (by rintro rfl;rw[m1] at f;cases f) ah f⟩
end Go.Proofs.YtmehamiifalmaaaGreatDoor
namespace Go.Ab
open Go
def Kt(et:TypeId)(H H':ab):Prop:=H.next<=H'.next/\∀i x,(∀n,x≠.bQ n et)->H.get i=some x->H'.get i=some x
def Kt.refl(et)(H:ab):Kt et H H:=⟨ν _,λ_ _ _ h=>h⟩
def Kt.trans{et}{H H1 H2:ab}(h:Kt et H H1)(g:Kt et H1 H2):Kt et H H2:=⟨atB h.1 g.1,λi x a hi=>g.2 i x a (h.2 i x a hi)⟩
def Kt.push(et)(H:ab)(y):Kt et H (H.push y):=⟨aEg _,λi x _ hi=>by
 rw[ab.fL,κ (by have:=ab.ep hi;omega)];exact hi⟩
def Kt.cells{et}{H H':ab}(h:Kt et H H'){i}{te}{cs}(hi:H.get i=some (.c te cs)):H'.get i=some (.c te cs):=h.2 i _ ah hi
section
variable {T:Type} {m:TypeId->Bool} {P:Program} {t et:TypeId} {s b:Nat} {g:T->AV}
def Av(a:∀x,(g x).width=some s)(l:List T):cQ s (l.map g):=λe b=>by obtain⟨x,_,rfl⟩:=aEI.1 b;exact a x
def CC(a:jD P t et s b)(hm:m t=false)(f:∀x,(g x).width=some s){H}{o}(o2){es xs:List T}(h:cY H et o es.length)(hb:(es.length+xs.length)*b<=140737488355328)(l:es.length+xs.length<=9223372036854775807):
  ∃w H',cH m P t t (.vec o (es.map g)) (.vec o2 (xs.map g)) H=some (.vec w ((es++xs).map g),H')/\cY H' et w (es++xs).length/\Kt et H H':=by
 obtain⟨z,y,A⟩:=a.zero;have v:s≠0/\z.length=s:=⟨a.s0,A⟩;by_cases d:xs=[]
 ·subst d;rw[Η];simp at hb l;have q:=(Av f ([]:List T)).lr a;simp at q⊢;rcases h with⟨rfl,k⟩|⟨rfl,k⟩|⟨k,j,rfl,n⟩
  ·have c:es=[]:=Ξ.1 k;subst c;refine⟨.nil,H,?_,.inl ⟨rfl,rfl⟩,Kt.refl _ _⟩;simp[cH,a.el,a.sz,a.fQ,y,v,jK,hm,nH,q]
  ·refine⟨.full,H,?_,.inr (.inl ⟨rfl,k⟩),Kt.refl _ _⟩;simp[cH,a.el,a.sz,a.fQ,y,μ v,jK,hm,nH];simp[hb,l];exact⟨((Av f es).lr a),q⟩
  ·have c:=HG (m:=m) a (o2:=o2) (xs:=[]) (j:=j) (es:=es.map g) (H:=H) (by rw[Θ];exact n) (Av f _) (λe c=>(by cases c)) (by rw[Θ];simpa using hb) (by rw[Θ];simpa using l);simp at c;refine⟨.own j,_,c,.inr (.inr ⟨k,j,rfl,by rw[ab.eE,μ rfl,n];rfl⟩),ν _,λi x d r=> ?_⟩;rw[ab.eE,κ (by rintro rfl;rw[n] at r;cases r;exact d _ rfl)];exact r
 ·obtain⟨j,H',e,u,le,p⟩:=wE a (m:=m) hm (o:=o) (o2:=o2) (es:=es.map g) (xs:=xs.map g) (H:=H) (by rw[Θ];exact h) (Av f _) (Av f _) (by simpa using d) (by rw[Θ,Θ];exact hb) (by rw[Θ,Θ];exact l);refine⟨.own j,H',by rw[aF7];exact e,by rw[<-List.map_append,Θ] at u;exact u,le,λi x d hi=>p i x d hi⟩
def CD(e:jD P t et s b)(hm:m t=false)(c:∀x,(g x).width=some s){H}{o}(o2){es:List T}(x:T)(h:cY H et o es.length)(hb:(es.length+1)*b<=140737488355328)(d:es.length+1<=9223372036854775807):
  ∃a H',cH m P t t (.vec o (es.map g)) (.vec o2 [g x]) H=some (.vec a ((es++[x]).map g),H')/\cY H' et a (es++[x]).length/\Kt et H H':=CC e hm c o2 (xs:=[x]) h hb d
def XV(c:jD P t et s b)(a:∀x,(g x).width=some s)(o)(l:List T)(x)(hx:x<=l.length):kg P t none (some (.i x)) (.vec o (l.map g))=some (.vec .ro ((l.take x).map g)):=by
 have b1:nI (l.map g).length none (some (.i x))=some (0,x):=by simp only[nI,j9];rw[μ ⟨aa,by rw[Θ];omega⟩];simp
 simp only[kg,(Av a l).lr c,aEl,b1];simp[List.map_take,yH]
def XW(c:jD P t et s b)(a:∀x,(g x).width=some s)(o)(l:List T)(x)(hx:x<=l.length):kg P t (some (.i x)) none (.vec o (l.map g))=some (.vec (yH o none) ((l.drop x).map g)):=by
 have b1:nI (l.map g).length (some (.i x)) none=some (x,(l.map g).length):=by simp only[nI,j9];rw[μ ⟨aa,by rw[Θ];omega⟩];simp
 simp only[kg,(Av a l).lr c,aEl,b1,aGt];simp[List.map_drop]
def vB(a:jD P t et s b)(v:AV)(d:v.erase.width=some s)(c:lj [v.erase]=true)(hs:s<=16777216)(H):dZ P t 1 [(0,v)] H=some (.vec .full [v.erase],H):=by obtain⟨z,f,e⟩:=a.zero;simp only[dZ,a.el,a.sz,f];rw[μ ⟨rfl,rfl,by simp[fF,d],c,a.s0,e,aa⟩];rfl
end
end Go.Ab
