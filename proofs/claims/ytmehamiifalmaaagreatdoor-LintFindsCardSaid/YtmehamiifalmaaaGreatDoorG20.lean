/- LintFinds: part 21 of its proof. -/
import Derived.Test.YtmehamiifalmaaaGreatDoorG19
import Derived.Test.YtmehamiifalmaaaGreatDoorG18
set_option linter.all false
namespace Go.Proofs.YtmehamiifalmaaaGreatDoor
open Go Go.Ab Go.Proofs.Tryz
set_option maxRecDepth 100000
set_option maxHeartbeats 8000000
def Rr:List FuncId:=[19,20,43,44,88,45,60,47,78]
def apU:List FuncId:=[19,20,43,44,88,45,60,47,33,135]
noncomputable def dG:Env:={P:=prog,G:=λf=>Rr.contains f,cl:=λf=>apU.contains f,fq:=λt=>t==103||t==98,dyn:=λ_=>false,df:=λ_=>false,ext:=bG tq (bG w9 (bG w_ (aM eU [33])))}
def ayO:okF dG 19=true:=af
def ayP:okF dG 20=true:=af
def ayQ:okF dG 43=true:=af
def ayR:okF dG 44=true:=af
def ayS:okF dG 88=true:=af
def ayT:okF dG 45=true:=af
def ayU:okF dG 60=true:=af
def ayV:okF dG 47=true:=af
def ayW:okF dG 78=true:=af
def ayX:dG.P=prog:=(rfl)
def ayY:dG.fq=λt=>t==103||t==98:=(rfl)
def ayZ(i):dG.dyn i=false:=(rfl)
attribute [go_sem] ayX ayY ayZ
def cI{f}(a:dG.cl f=true){args}{v}(h:aK prog (run dG) f args=some v)(H):bu dG f args H=some (v,H):=vo a h H
def Pw{T:Type}{f0}{rest}{s}{dec}{enc:T->List AV}{gF}{f}(h:f≠f0)(args)(H):uG f0 rest s dec enc gF f args H=none:=by unfold uG;rw[κ h]
def OB{f}(h:f≠135)(args)(H):tq f args H=none:=by unfold tq;rw[κ h]
def Yi{f}(h:f≠57)(args)(H):w9 f args H=none:=Pw h args H
def akS{f}(h:f≠114)(args)(H):w_ f args H=none:=Pw h args H
def avk(args)(H):dG.ext 33 args H=aM eU [33] 33 args H:=by show bG tq (bG w9 (bG w_ (aM eU [33]))) 33 args H=_;rw[lS (λa H=>OB aA a H),lS (λa H=>Yi aA a H),lS (λa H=>akS aA a H)]
def apV(a b)(H):bu dG 33 [.str a,.str b] H=some (.i (qe a b),H):=ja (fs:=[33]) rfl rfl avk rfl (ac7 a b) rfl rfl H
attribute [go_sem] apV
def Yj:∀bs:List Bi,xx (bs.map bg)=some bs
 |[]=>rfl
 |b::bs=>by simp only[aEv,bg,xx];rw[μ ⟨aa,aa,aa⟩,Yj bs];simp[an]
def apW(u:Un)(w)(h:u.mp.bs.length<=1000000)(H):dD dG (run dG) (.fn (.func 135) [] []) [.agg (cU u),.str w] H=some (.i (dS (ox u.mp.bs w)),H):=by
 have c:dG.ext 135 [.agg (cU u),.str w] .empty=some (.i (dS (ox u.mp.bs w)),.empty):=by
  show bG tq (bG w9 (bG w_ (aM eU [33]))) 135 _ _=_;unfold bG;have:tq 135 [.agg (cU u),.str w] .empty=some (.i (dS (ox u.mp.bs w)),.empty):=by unfold tq cU pG;rw[μ rfl];simp only[Θ];rw[μ ⟨aa,by cases u.mp.bs<;>rfl⟩,Yj];rfl
  rw[this]
 have a:(AV.agg (cU u)).erase=.agg (cU u):=oE _ _;have b:AV.aq.go [.agg (cU u),.str w]=true:=by show((AV.agg (cU u)).aq&&true)=true;rw[show(AV.agg (cU u)).aq=true from qJ _ _];rfl
 rw[tS rfl];have:=Am rfl (args:=[.agg (cU u),.str w]) (v:=.i (dS (ox u.mp.bs w))) (H:=.empty) (by simp[a];exact b) (by simp[a];exact c) rfl;rw[show dG.P=prog from rfl] at this⊢;rw[this];rfl
def yR(us):(fD us).aq=true:=by have:=jO (n:=us.length) (FV us);simp only[fD,AV.aq,AV.aq.go] at this⊢;rw[this];rfl
def apX(cs):Ca (.rptr cs)=some (.rptr cs):=(rfl)
def apY(cs):fH prog .eql 23 (.rptr cs) (.val (.pointer none))=some (.bool false):=af
attribute [go_sem] apX apY
def Kb(o){us}{i:Nat}{u:Un}(h:us[i]? =some u):dW prog 118 (.vec o (vU us)) (.i i)=some (.rptr (cU u)):=rP ue ur gU o h rfl
def ay0(u):eg [.str [],.str [],.vec .nil [],.i 0,.i 0,.i 0,.str [],.i 0,.vec .nil [],.vec .nil [],.vec .nil [],.vec .nil [],.i 0,.i 0] 0 (cU u)=cU u:=rfl
def ay1(u):eo (cU u)=true:=rfl
def ay2(u):List.take 14 (cU u)=cU u:=rfl
attribute [go_sem] ay2 ay0 ay1 oY
def qw:Un:=⟨[],[],[],dR,⟨[],[],[]⟩,[],[],0,0⟩
def jE(us:List Un):List (List UInt8):=us.map (·.nm)
def Rt:∀l:List (List UInt8),AV.aq.go (SA l)=true
 |[]=>rfl
 |x::l=>by show(true&&AV.aq.go (SA l))=true;rw[Rt l];rfl
def apZ(w)(H):dZ prog 66 1 [(0,.str w)] H=some (.vec .full [.str w],H):=vB Zk (.str w) rfl rfl aA H
noncomputable def zZ:=f19.c.r.r.r.l.r.b.b
def abP{us:List Un}(y:us.length<=8):∀r pre o3 α H,us=pre++r->cY H 9 o3 (jE pre).length->α 3=.vec o3 (SA (jE pre))->α 11=.vec (aD us.length) (vU us)->α 12=.i us.length->α 13=.i pre.length->
  aF (aL (aT dG zZ) α H) λe s H'=>e=.exit 0/\∃b,cY H' 9 b (jE us).length/\s 3=.vec b (SA (jE us))
 |[],pre,o3,α,⟨n,L⟩,a,hg,h3,d,c,l=>by have h:zZ=.seq _ (.seq _ (.seq (.block _ (.seq _ _)) _)):=rfl;rw[Η] at a;subst a;have f:=dY (aEu us.length);rw[aJ,h];simp only[go_sem,seval,c,l,f];exact⟨aI,o3,hg,by simp[go_sem,h3]⟩
 |u::r,pre,o3,α,⟨n,L⟩,a,hg,h3,d,c,l=>by
  have h:zZ=.seq _ (.seq _ (.seq (.block _ (.seq _ _)) _)):=rfl;have x:pre.length<us.length:=by rw[a];simp
  have f:=ec x;have z:us[pre.length]? =some u:=by rw[a];exact w7 _ _ _
  have q:=bf (n<n+1);have gV:(jE pre).length=pre.length:=by simp[jE]
  have B:cY ⟨n+1,(n,.k 78 (cU u))::L⟩ 9 o3 (jE pre).length:=hg.cj λj m C=>(Kt.push 3 ⟨n,L⟩ (.k 78 (cU u))).2 _ _ ah C;obtain⟨b,⟨o,p⟩,a1,a2,a3⟩:=CD (m:=λt=>t==103||t==98) Zk rfl (g:=AV.str) (λ_=>rfl) .full u.nm B aa aa;have v:cH (λt=>t==103||t==98) prog 66 66 (.vec o3 (SA (jE pre))) (.vec .full [.str u.nm]) ⟨n+1,(n,.k 78 (cU u))::L⟩=some (.vec b (SA (jE pre++[u.nm])),⟨o,p⟩):=a1;have w:us=(pre++[u])++r:=by rw[a];simp
  have hm:jE (pre++[u])=jE pre++[u.nm]:=by simp[jE]
  have A:(((pre++[u]).length:Nat):Int)=((pre.length+1:Nat):Int):=ah;have ih:=λα=>abP y r (pre++[u]) b α ⟨o,p⟩ w (by rw[hm];exact a2);rw[hm,A] at ih;rw[aJ,h];simp only[go_sem,seval,h3,d,c,l,f,Kb (aD us.length) z,(eN pre.length aa),q,apZ,cG,v,vR];refine ih _ ?_ ?_ ?_ ?_;all_goals simp[go_sem,d,c]
def aai(us:List Un)(b:us.length<=8):aK prog (run dG) 19 [fD us]=some (.vec (aD us.length) (SA (jE us))):=by
 refine eX (c:=.seq _ (.seq (.seq _ (.cond _ _ _)) (.seq _ (.seq (.seq _ (.block 0 (.loop zZ))) _)))) rfl rfl func19 rfl (by rw[ntmps19];simp) (bE:=[fD us]) rfl (by show((fD us).aq&&true)=true;rw[yR];rfl) ?_ (jO (Rt _));have a:(jE us).length=us.length:=by simp[jE]
 simp[go_sem,ab.empty,fD,qI,jy,Fz];simp[bW];refine bz (dm (abP b us [] .nil _ _ rfl (.inl ⟨rfl,rfl⟩) ?_ ?_ ?_ ?_)) ?_
 case refine_5=>
  rintro _ ⟨ae,H',rfl,o',g,h3⟩;have hb:=g.bare;rw[a] at hb;simp only[go_sem,seval,h3,results19];refine⟨_,rfl,?_⟩;simp[AV.erase,AV.bare,hb,aD]
 all_goals simp[go_sem,]
 all_goals(try rfl)
def ay3(u:Un)(w):aK prog (run dG) 44 [.agg (cU u),.str w]=some (.i (qe u.nm w)):=by
 have a:(AV.agg (cU u)).erase=.agg (cU u):=oE _ _;refine qy (c:=.seq _ (.seq _ _)) rfl rfl func44 rfl (by rw[ntmps44];simp) (bE:=[.agg (cU u),.str w]) (by simp[a];rfl) ?_ ?_ rfl rfl
 ·show((AV.agg (cU u)).aq&&true)=true;rw[show(AV.agg (cU u)).aq=true from qJ _ _];rfl
 have b:∀u H,eQ (.agg (cU u)) H=some (.ptr H.next 0,H.push (.z (cU u))):=λu H=>by simp[eQ,AV.width,AV.cells]
 simp[go_sem,ab.empty,b,vR,results44]
def ap0(u:Un)(w)(H):bu dG 44 [.agg (cU u),.str w] H=some (.i (qe u.nm w),H):=cI rfl (ay3 u w) H
attribute [go_sem] ap0
def avl(a)(h:0<=a):fH prog .shr 147 (.int .u64 a) (.int .u64 1)=some (.int .u64 (a/2)):=by have:a.fdiv 2=a/2:=Int.fdiv_eq_ediv_of_nonneg a aa;simp[fH,pQ,Je,IntKind.bits,this]
def Yk(n):rR prog 3 147 (.i n)=some (.int .u64 (IntKind.u64.wrap n)):=af
def Yl(n):rR prog 147 3 (.int .u64 n)=some (.i (IntKind.i64.wrap n)):=af
noncomputable def TP:=f43.c.r.r.r.l.b.b
def Qr{us:List Un}{w:List UInt8}(p:us.Pairwise zX)(C:us.length<=8):∀d i j α H,j-i<=d->i<=j->j<=us.length->(∀q x,us[q]? =some x->(q<i->bl x.nm w=true)/\(j<=q->bl x.nm w=false))->
  α 0=.vec (aD us.length) (vU us)->α 1=.str w->α 2=.fn (.func 44) [] []->α 8=.i us.length->α 9=.i i->α 10=.i j->
  aF (aL (aT dG TP) α H) λe g H'=>e=.exit 0/\g 0=.vec (aD us.length) (vU us)/\g 1=.str w/\g 2=.fn (.func 44) [] []/\g 8=.i us.length/\∃i:Nat,i<=us.length/\g 9=.i i/\∀q x,us[q]? =some x->(q<i->bl x.nm w=true)/\(i<=q->bl x.nm w=false)
 |d,i,j,α,⟨n,L⟩,hd,uW,E,v,f,a,c,z,s,l=>by
  have F:TP=.seq (.seq _ _) (.block _ (.seq _ (.seq _ _))):=rfl;by_cases B:i<j
  ·cases d with
   |zero=>omega
   |succ d=>
    have t:=ec B;obtain⟨m,hm⟩:∃m,(i+j)/2=m:=⟨_,rfl⟩;obtain⟨x,r⟩:=fo (show m<us.length by omega);have G:=Kb (aD us.length) r;have w1:IntKind.i64.wrap ((i:Int)+(j:Int))=(i:Int)+j:=S0 _;have I:IntKind.u64.wrap ((i:Int)+(j:Int))=(i:Int)+j:=IntWalk.u64_in _ aa;have A:IntKind.i64.wrap (m:Int)=m:=S0 _;have K:=gK (m+1) (m+1:Nat);have u:=avl ((i:Int)+j) aa;rw[show((i:Int)+j)/2=(m:Int) by omega] at u;have o:=Yd x.nm w;have k:∀q y,us[q]? =some y->(q<m->bl y.nm x.nm=true)/\(m<q->bl x.nm y.nm=true):=λq y b=>by obtain⟨D,rfl⟩:=φ.1 b;obtain⟨J,rfl⟩:=φ.1 r;exact⟨λh=>aF2.1 p q m D J h,λh=>aF2.1 p m q J D h⟩
    rw[aJ,F]
    cases hc:Op.bytesLess x.nm w with
    |true=>
     rw[hc] at o
     have ih:=λα=>Qr (w:=w) p C d (m+1) j α ⟨n,L⟩ aa aa E (λq y b=>⟨λh=>by
      rcases aFv q m with a|a
      ·exact Cs ((k q y b).1 a) hc
      ·have:q=m:=aa;subst this
       rw[r] at b;cases b;exact hc,(v q y b).2⟩)
     simp only[go_sem,seval,f,a,c,s,l,t,w1,I,A,K,u,G,Yk,Yl,o];refine ih _ ?_ ?_ ?_ ?_ ?_ ?_;all_goals simp[go_sem,f,a,c,z,l]
    |false=>
     rw[hc] at o
     have ih:=λα=>Qr (w:=w) p C d i m α ⟨n,L⟩ aa aa aa (λq y b=>⟨(v q y b).1,λh=>by
      rcases aFv m q with a|a
      ·cases hk:bl y.nm w with
       |false=>rfl
       |true=>have:=Cs ((k q y b).2 a) hk;rw[show bl x.nm w=false from hc] at this;cases this
      ·have:q=m:=aa;subst this
       rw[r] at b;cases b;exact hc⟩)
     simp only[go_sem,seval,f,a,c,s,l,t,w1,I,A,u,G,Yk,Yl,o];refine ih _ ?_ ?_ ?_ ?_ ?_ ?_;all_goals simp[go_sem,f,a,c,z,s]
  ·have t:=dY B;have:i=j:=aa;subst this;rw[aJ,F];simp only[go_sem,seval,s,l,t];refine⟨aI,?_,?_,?_,?_,i,E,?_,v⟩;all_goals simp[go_sem,f,a,c,z]
def WJ(a b):((qe a b==0)=true)↔a=b:=by
 unfold qe;by_cases c:a=b
 ·subst c;have:Op.bytesLess a a=false:=wG a;simp[this]
 ·grind
def aCt(us:List Un)(w:List UInt8)(m:us.Pairwise zX)(r:us.length<=8):∃(i:Nat) (b:Bool),aK prog (run dG) 43 [.vec (aD us.length) (vU us),.str w,.fn (.func 44) [] []]=some (.tup [.i i,.bool b])/\(b=true->∃u,us[i]? =some u/\u.nm=w)/\(b=false->iM us w=none):=by
 suffices hh:∃v,aK prog (run dG) 43 [.vec (aD us.length) (vU us),.str w,.fn (.func 44) [] []]=some v/\∃(i:Nat) (b:Bool),v=.tup [.i i,.bool b]/\(b=true->∃u,us[i]? =some u/\u.nm=w)/\(b=false->iM us w=none) by obtain⟨v,a,i,b,rfl,e,j⟩:=hh;exact⟨i,b,a,e,j⟩
 refine yl (c:=.seq _ (.seq _ (.seq _ (.seq (.block 0 (.loop TP)) _)))) rfl rfl func43 rfl (by rw[ntmps43];simp) (bE:=[.vec (aD us.length) (vU us),.str w,.fn (.func 44) [] []]) (by simp[AV.erase,AV.bare,oq]) ?_ ?_
 ·show((AV.vec (aD us.length) (vU us)).aq&&_)=true;rw[jO (FV us)];rfl
 simp only[go_sem,seval,ab.empty,Fz];simp only[bW];refine bz (dm (Qr (w:=w) m r us.length 0 us.length _ _ aa (aFc _) (ν _) (λq x d=>⟨λh=>aa,λh=>(by have:=(φ.1 d).1;omega)⟩) ?_ ?_ ?_ ?_ ?_ ?_)) ?_
 case refine_7=>
  rintro _ ⟨ae,⟨n,L⟩,rfl,a0,a1,a2,a8,i,hi,a9,g⟩;by_cases k:i<us.length
  ·have f:=ec k;obtain⟨x,d⟩:=fo k;have l:=Kb (aD us.length) d
   cases hz:(qe x.nm w==0) with
   |true=>simp only[go_sem,seval,a0,a1,a2,a8,a9,f,l,hz,results43];exact⟨_,_,_,rfl,rfl,i,true,rfl,λ_=>⟨x,d,(WJ _ _).1 hz⟩,λh=>by cases h⟩
   |false=>
    simp only[go_sem,seval,a0,a1,a2,a8,a9,f,l,hz,results43];refine⟨_,_,_,rfl,rfl,i,false,rfl,λh=>(by cases h),λ_=> ?_⟩
    cases hf:iM us w with
    |none=>rfl
    |some v=>
     obtain⟨hm,rfl⟩:=H8 hf;obtain⟨q,a⟩:=aEG hm;have e:=(g q v a)
     have p:i<=q:=by
      rcases aFv q i with h|h
      ·have:=e.1 h;rw[wG] at this;cases this
      ·exact h
     rcases Nat.lt_or_eq_of_le p with h|h
     ·have j:=(g i x d).2 (ν _);obtain⟨s,rfl⟩:=φ.1 a;obtain⟨o,rfl⟩:=φ.1 d;have h3:=aF2.1 m i q o s h;unfold zX at h3;rw[show Op.bytesLess us[i].nm us[q].nm=false from j] at h3;cases h3
     ·subst h;rw[d] at a;cases a;have:=(WJ x.nm x.nm).2 rfl;rw[this] at hz;cases hz
  ·have f:=dY k;simp only[go_sem,seval,a8,a9,f,results43];refine⟨_,_,_,rfl,rfl,i,false,rfl,λh=>(by cases h),λ_=> ?_⟩
   cases hf:iM us w with
   |none=>rfl
   |some v=>obtain⟨hm,rfl⟩:=H8 hf;obtain⟨q,a⟩:=aEG hm;have e:=(g q v a).1 (by have:=(φ.1 a).1;omega);rw[wG] at e;cases e
 all_goals simp[go_sem,]
 all_goals(try rfl)
def abQ{us:List Un}(f:us.Pairwise zX)(g:us.length<=8)(w:List UInt8):aK prog (run dG) 20 [fD us,.str w]=some (.tup [.agg (cU ((iM us w).getD qw)),.bool (iM us w).isSome]):=by
 obtain⟨i,b,l,k,h⟩:=aCt us w f g;have a:=cI rfl l;have j:∀u b,(AV.tup [.agg (cU u),.bool b]).aq=true:=λu b=>by show((AV.agg (cU u)).aq&&_)=true;rw[show(AV.agg (cU u)).aq=true from qJ _ _];rfl
 have d:∀u b,(AV.tup [.agg (cU u),.bool b]).erase=.tup [.agg (cU u),.bool b]:=λu b=>by have:(AV.agg (cU u)).erase=.agg (cU u):=oE _ _;simp[AV.erase] at this⊢;simp[AV.bare,this]
 refine eX (c:=.seq _ (.seq (.seq _ (.cond _ _ _)) (.seq _ (.seq (.seq _ (.cond _ _ _)) (.seq _ _))))) rfl rfl func20 rfl (by rw[ntmps20];simp) (bE:=[fD us,.str w]) rfl (by show((fD us).aq&&true)=true;rw[yR];rfl) ?_ (j _ _)
 cases b with
 |true=>obtain⟨u,e,rfl⟩:=k rfl;rw[OA f (Δ e)];simp only[go_sem,seval,ab.empty,fD,qI,a,Kb (aD us.length) e,ω,results20];exact⟨_,rfl,d u true⟩
 |false=>rw[h rfl];simp only[go_sem,seval,ab.empty,fD,qI,a,χ,aQ,results20];exact⟨_,rfl,d qw false⟩
def FX(u:Un)(b:Bi):Option (List UInt8):=if b.k=1 then match u.tr.ks[b.item]? with|some n=>(match n.ks with|[y]=>some y.w|_=>none)|none=>none else none
def fY(us:List Un)(u:Un)(b:Bi):List UInt8×Option Nat:=match FX u b with|some w=>(w,(iM us w).bind λm=>ox m.mp.bs b.w)|none=>([],none)
def TQ(m:Un)(j:Nat):Nat:=match m.mp.bs[j]? with|some c=>c.at_|none=>0
def stands(us:List Un)(u:Un)(b:Bi):List UInt8×Nat:=match(fY us u b).2 with|some j=>((fY us u b).1,TQ ((iM us (fY us u b).1).getD qw) j)|none=>(u.nm,b.at_)
def zd(u:Un)(b:Bi):Prop:=b.k=1->∃n y,u.tr.ks[b.item]? =some n/\n.ks=[y]
def jb.adf{u:Un}(h:jb u){b:Bi}(hb:b∈u.mp.bs):zd u b:=h.use b hb
def Iy{u:Un}{b:Bi}(c:b.k=1){n y:Nd}(a:u.tr.ks[b.item]? =some n)(d:n.ks=[y]):FX u b=some y.w:=by simp[FX,c,a,d]
def Iz{u}{b:Bi}(a:b.k≠1):FX u b=none:=by simp[FX,a]
def aec(u:Un):(cU u)[8]? =some (.vec (if u.tr.ks.isEmpty then .nil else .ro) (br u.tr.ks)):=rfl
def JM(n:Nd):bV prog 71 3 (.rptr (aB n))=some (.rptr [.str n.w,.i n.a,.vec (if n.ks.isEmpty then .nil else .ro) (br n.ks)]):=by rw[tc];exact Zh _ _ _ _ _ _
def I6(n:Nd):bV prog 71 5 (.rptr (aB n))=some (.rptr [.vec (if n.ks.isEmpty then .nil else .ro) (br n.ks)]):=by rw[tc];exact O0 _ _ _ _ _ _
def BQ(u)(H:ab):eQ (.agg (cU u)) H=some (.ptr H.next 0,H.push (.z (cU u))):=by simp[eQ,AV.width,AV.cells]
def BR(b:Bi)(H:ab):eQ (bg b) H=some (.ptr H.next 0,H.push (.z [.i b.at_,.i b.k,.str b.w,.i b.item])):=by simp[eQ,bg,AV.width,AV.cells]
def adg(u):(AV.agg (cU u)).erase=.agg (cU u):=oE _ _
def adh(u):(AV.agg (cU u)).aq=true:=qJ _ _
section
variable {us:List Un}
def Px(a:gl us)(w)(H):bu dG 20 [.rptr [.vec (aD us.length) (vU us)],.str w] H=some (.tup [.agg (cU ((iM us w).getD qw)),.bool (iM us w).isSome],H):=cI rfl (abQ a.gF a.fT w) H
def akT(l:gl us)(u)(b)(hb:zd u b):aK prog (run dG) 88 [fD us,.agg (cU u),bg b]=some (.agg [.str (fY us u b).1,.i (dS (fY us u b).2)]):=by
 refine eX (c:=.seq _ (.seq (.seq _ (.cond _ _ _)) (.seq _ (.seq (.seq _ (.seq _ (.cond _ _ _))) (.seq _ _))))) rfl rfl func88 rfl (by rw[ntmps88];simp) (bE:=[fD us,.agg (cU u),bg b]) (by simp only[aEv,aFy,adg];rfl) ?_ ?_ rfl
 ·show((fD us).aq&&((AV.agg (cU u)).aq&&_))=true;rw[yR,adh];rfl
 by_cases a:b.k=1
 ·obtain⟨n,y,h,f⟩:=hb a;have j:=Iy a h f;have aO:b.item<u.tr.ks.length:=(φ.1 h).1;have d:((b.k:Int) != 1)=false:=by rw[a];rfl
  have p:=bU ((b.item:Int)≥(u.tr.ks.length:Int));have o:((n.ks.length:Int) != 1)=false:=by rw[f];rfl
  have q:=kD (if u.tr.ks.isEmpty then .nil else .ro) h;have r:dW prog 69 (.vec (if n.ks.isEmpty then .nil else .ro) (br n.ks)) (.i 0)=some (.rptr (aB y)):=kD (i:=0) _ (by rw[f];rfl);have e:=Px l y.w
  cases hf:iM us y.w with
  |none=>
   have hi:fY us u b=(y.w,none):=by simp[fY,j,hf]
   rw[hf] at e;rw[hi];simp only[go_sem,seval,ab.empty,fD,BQ,BR,aec,bL,d,p,o,q,r,JM,I6,aQ,e,aGR,Β,dS,results88];exact⟨_,rfl,rfl⟩
  |some m=>
   have hi:fY us u b=(y.w,ox m.mp.bs b.w):=by simp[fY,j,hf]
   have g:=apW m b.w (by have:=(l.kW m (H8 hf).1).fT;omega);rw[hf] at e;rw[hi];simp only[go_sem,seval,ab.empty,fD,BQ,BR,aec,bL,d,p,o,q,r,JM,I6,aQ,e,g,aE1,aEf,results88];exact⟨_,rfl,rfl⟩
 ·have d:((b.k:Int) != 1)=true:=by have:=sf b.k 1;rw[ξ a] at this;exact this
  have hi:fY us u b=([],none):=by simp[fY,Iz a]
  rw[hi];simp only[go_sem,seval,ab.empty,fD,BQ,BR,d,aQ,dS,results88];exact⟨_,rfl,rfl⟩
def ap3(a:gl us)(u)(b:Bi)(hb:zd u b)(H):bu dG 88 [.rptr [.vec (aD us.length) (vU us)],.agg (cU u),.agg [.i b.at_,.i b.k,.str b.w,.i b.item]] H=some (.agg [.str (fY us u b).1,.i (dS (fY us u b).2)],H):=cI rfl (akT a u b hb) H
def VV{bs:List Bi}{w}{j}(h:ox bs w=some j):j<bs.length:=by unfold ox at h;have:=aE2 h;simpa using this
def Di(o){bs:List Bi}{i:Nat}{x:Bi}(h:bs[i]? =some x):dW prog 72 (.vec o (bs.map bg)) (.i i)=some (.rptr [.i x.at_,.i x.k,.str x.w,.i x.item]):=ad1 o h
def aed(u:Un):(cU u)[9]? =some (.vec (aD u.mp.bs.length) (u.mp.bs.map bg)):=rfl
def aCv(q:gl us)(u)(b:Bi)(hb:zd u b):aK prog (run dG) 60 [fD us,.agg (cU u),bg b]=some (.agg [.str (stands us u b).1,.i ((stands us u b).2:Int)]):=by
 refine eX (c:=.seq _ (.seq (.seq _ (.cond _ (.seq _ (.seq _ (.seq _ (.cond _ (.seq _ _) _)))) _)) (.seq _ _))) rfl rfl func60 rfl (by rw[ntmps60];simp) (bE:=[fD us,.agg (cU u),bg b]) (by simp only[aEv,aFy,adg];rfl) ?_ ?_ rfl
 ·show((fD us).aq&&((AV.agg (cU u)).aq&&_))=true;rw[yR,adh];rfl
 by_cases g:b.k=1
 ·have d:((b.k:Int)==1)=true:=by rw[g];rfl
  have e:=ap3 q u b hb;have a:=Px q (fY us u b).1
  cases hj:(fY us u b).2 with
  |none=>
   have f:stands us u b=(u.nm,b.at_):=by simp[stands,hj]
   have l:decide (dS none≥0)=false:=rfl;rw[hj] at e;rw[f]
   cases hf:iM us (fY us u b).1 with
   |none=>rw[hf] at a;simp only[go_sem,seval,ab.empty,fD,BQ,BR,d,e,a,aQ,vR,aGR,Β,results60];exact⟨_,rfl,rfl⟩
   |some m=>rw[hf] at a;simp only[go_sem,seval,ab.empty,fD,BQ,BR,d,e,a,l,aQ,vR,aE1,aEf,results60];exact⟨_,rfl,rfl⟩
  |some j=>
   obtain⟨n,y,v,t⟩:=hb g;have p:=Iy g v t;have o:(fY us u b).1=y.w:=by simp[fY,p]
   have h:(fY us u b).2=(iM us y.w).bind λm=>ox m.mp.bs b.w:=by simp[fY,p]
   rw[h] at hj
   cases hf:iM us y.w with
   |none=>rw[hf] at hj;cases hj
   |some m=>
    rw[hf] at hj;simp at hj;obtain⟨c,r⟩:=fo (VV hj)
    have f:stands us u b=(y.w,c.at_):=by
     have:(fY us u b).2=some j:=by rw[h,hf];exact hj
     simp[stands,this,o,hf,TQ,r]
    have l:=bH (((j:Nat):Int)≥0);have s:(fY us u b).2=some j:=by rw[h,hf];exact hj
    rw[o,s] at e;rw[o,hf] at a;rw[f];simp only[go_sem,seval,ab.empty,fD,BQ,BR,d,e,a,l,aQ,aed,Di (aD m.mp.bs.length) r,dS,aE1,aEf,results60];exact⟨_,rfl,rfl⟩
 ·have d:((b.k:Int)==1)=false:=by rw[aEp];omega
  have f:stands us u b=(u.nm,b.at_):=by simp[stands,fY,Iz g]
  rw[f];simp only[go_sem,seval,ab.empty,fD,BQ,BR,d,aQ,vR,results60];exact⟨_,rfl,rfl⟩
end
set_option maxRecDepth 100000
set_option maxHeartbeats 8000000
def iA(n:Int):AV:=.i n
def iC(n:Int):List AV:=[.i n]
def iW(x:Sp):AV:=.agg (mE x)
def dI(x:Fi):AV:=.agg (jv x)
def aee:GT prog 103 3 1 8 iC iA false:=⟨X_,λ_=>rfl,λ_=>rfl,λ_=>rfl,PZ,.inr rfl,λl=>by
 induction l with
 |nil=>rfl
 |cons x l ih=>rw[aEv,<-ih];rfl,λ_=>rfl⟩
def spT:GT prog 98 33 2 24 mE iW true:=⟨Pr,λ_=>rfl,λ_=>rfl,λ_=>rfl,ao3,.inl rfl,λl=>FR (c:=mE) (s:=2) (λ_=>rfl) l,λ_=>rfl⟩
def Mh:GT prog 28 35 3 32 jv dI true:=⟨Z5,λ_=>rfl,λ_=>rfl,λ_=>rfl,Z4,.inl rfl,λl=>FR (c:=jv) (s:=3) (λ_=>rfl) l,λ_=>rfl⟩
def aaj:∀l:List Int,xh (l.flatMap iC)=some l
 |[]=>rfl
 |x::l=>by rw[agX];show an (xh (l.flatMap iC)) (λr=>some (x::r))=_;rw[aaj l];rfl
def abR:∀l:List Sp,vT (l.flatMap mE)=some l
 |[]=>rfl
 |x::l=>by rw[agX];show an (vT (l.flatMap mE)) (λr=>some ((x.1,x.2)::r))=_;rw[abR l];rfl
def abS:∀l:List Fi,uH (l.flatMap jv)=some l
 |[]=>rfl
 |x::l=>by rw[agX];show an (uH (l.flatMap jv)) (λr=>some ((x.1,x.2.1,x.2.2)::r))=_;rw[abS l];rfl
def OC{T:Type}{f0}{rest}{et s}{dec}{c:T->List AV}{g:T->AV}{gF}{H}{v}{l:List T}{r}(h:fO H et s c g v l)(a:rest r=true)(f:dec (l.flatMap c)=some l)(b:(gF l).Perm l)(k:l.length<=1099511627776):
  ∃H',uG f0 rest s dec c gF f0 (v::r) H=some (.tup [],H')/\fO H' et s c g v (gF l)/\Kw et s H H':=by
 rcases h with⟨rfl,rfl⟩|⟨x,rfl,rfl⟩|⟨h1,id,rfl,h3⟩
 ·refine⟨H,?_,.inl ⟨b.eq_nil,rfl⟩,Kw.refl _ _ _⟩;simp[uG,a]
 ·have:gF [x]=[x]:=List.perm_singleton.1 b;refine⟨H,?_,.inr (.inl ⟨x,this,rfl⟩),Kw.refl _ _ _⟩;simp[uG,a]
 ·have d:=b.length_eq;refine⟨H.set id (.row l.length et s ((gF l).flatMap c)),?_,.inr (.inr ⟨λe=> ?_,id,by rw[d],by rw[ab.eE,μ rfl,h3,d];rfl⟩),ν _,λi x j hi=> ?_⟩
  ·unfold uG;rw[μ rfl];simp only[h3];rw[μ ⟨aI,aI,a,k⟩,μ ⟨aI,aI⟩,f];simp only[an];simp
  ·grind
  ·rw[ab.eE,κ (by rintro rfl;rw[h3] at hi;cases hi;exact j _ _ rfl)];exact hi
def Ck(l:List Int):(mU l).Perm l:=aGB _ _
def NQ(l:List Sp):(zw l).Perm l:=aGB _ _
def H9(l:List Fi):(zy l).Perm l:=aGB _ _
def ap4{H}{v}{l:List Int}(h:fO H 3 1 iC iA v l)(d:l.length<=1099511627776):∃H',dD dG (run dG) (.fn (.func 57) [] []) [v] H=some (.tup [],H')/\fO H' 3 1 iC iA v (mU l)/\Kw 3 1 H H':=by obtain⟨H',b,c,h3⟩:=OC (f0:=57) (rest:=(·.isEmpty)) (dec:=xh) (gF:=mU) (r:=[]) h rfl (aaj l) (Ck l) d;refine⟨H',?_,c,h3⟩;rw[qz rfl rfl,wK rfl];show bG tq (bG w9 (bG w_ (aM eU [33]))) 57 [v] H=_;rw[lS (λa H=>OB aA a H)];unfold bG;have:w9 57 [v] H=some (.tup [],H'):=b;rw[this]
def TR(m:Mp)(i:Nat):Int:=match m.bs[i]? with|some b=>(b.at_:Int)|none=>0
def qR(ms:List Me)(i:Nat):List Int:=(ms.filter λx=>decide (x.to=some i)).map λx=>(x.at_:Int)
def kl(m:Mp)(i:Nat):List Int:=TR m i::qR m.ms i
def ahU(x:Me)(ms)(i):qR (x::ms) i=(if x.to=some i then[(x.at_:Int)] else[])++qR ms i:=by unfold qR;rw[aEU];by_cases h:x.to=some i<;>simp[h]
def Mi(o)(i:Nat):(dS o==(i:Int))=decide (o=some i):=by
 cases o with
 |none=>simp only[dS,reduceCtorEq,decide_false,aEp];omega
 |some j=>have:=dF j i;simp[dS];exact this
def aef(o){ms:List Me}{i:Nat}{x:Me}(h:ms[i]? =some x):dW prog 73 (.vec o (ms.map ck)) (.i i)=some (.rptr [.i x.at_,.i (dS x.to),.bool x.wr,.i x.bK]):=rP Jt E7 ck o h rfl
def Py(n)(H):dZ prog 103 1 [(0,.i n)] H=some (.vec .full [.i n],H):=vB X_ (.i n) rfl rfl aA H
noncomputable def Mj:=f45.c.r.r.r.l.r.b.b
def Qs{o}{ms:List Me}{i0:Nat}(C:ms.length<=1000000):∀r j acc v α H,ms.drop j=r->j+r.length=ms.length->acc.length<=j+1->fO H 3 1 iC iA v acc->α 1=.i i0->α 5=v->α 25=.vec o (ms.map ck)->α 26=.i ms.length->α 27=.i j->
  aF (aL (aT dG Mj) α H) λe G H'=>e=.exit 0/\∃d,fO H' 3 1 iC iA d (acc++qR r i0)/\G 5=d
 |[],j,acc,v,α,⟨n,L⟩,s,u,K,w,g,h5,f,c,h=>by have y:Mj=.seq _ (.seq _ (.seq (.block _ (.seq _ (.seq _ _))) _)):=rfl;have q:=dY (a:=j) (b:=ms.length) (by simp at u;omega);rw[aJ,y];simp only[go_sem,seval,c,h,q];refine⟨aI,v,?_,by simp[go_sem,h5]⟩;simpa[qR] using w
 |x::r,j,acc,v,α,⟨n,L⟩,s,u,K,w,g,h5,f,c,h=>by
  have y:Mj=.seq _ (.seq _ (.seq (.block _ (.seq _ (.seq _ _))) _)):=rfl;simp at u;have q:=ec (a:=j) (b:=ms.length) aa;have J:ms[j]? =some x:=by have:=Ι (·[0]?) s;simpa using this
  have D:ms.drop (j+1)=r:=by rw[<-List.drop_drop,s];rfl
  have E:=aef o J;have w1:=eN j aa;have B:=bf (n<n+1);have l:=Mi x.to i0;rw[aJ,y,ahU];have F:fO ⟨n+1,(n,.k 138 [.i x.at_,.i (dS x.to),.bool x.wr,.i x.bK])::L⟩ 3 1 iC iA v acc:=w.cj λi m cs hi=>by obtain⟨q1,M⟩:=ai.1 hi;exact ai.2 ⟨aa,by rw[bo,bM];exact M⟩
  by_cases p:x.to=some i0
  ·rw[π p] at l;rw[μ p];obtain⟨d,⟨z,A⟩,a1,a2,a3⟩:=Ox (m:=λt=>t==103||t==98) aee rfl .full (x.at_:Int) F aa aa;have I:cH (λt=>t==103||t==98) prog 103 103 v (.vec .full [.i x.at_]) ⟨n+1,(n,.k 138 [.i x.at_,.i (dS x.to),.bool x.wr,.i x.bK])::L⟩=some (d,⟨z,A⟩):=a1;have ih:=λα=>Qs (o:=o) (i0:=i0) C r (j+1) (acc++[(x.at_:Int)]) d α ⟨z,A⟩ D aa aP a2;rw[Λ] at ih;simp only[go_sem,seval,g,h5,f,c,h,q,l,E,w1,B,Py,cG,I];refine ih _ ?_ ?_ ?_ ?_ ?_;all_goals simp[go_sem,g,f,c]
  ·rw[ξ p] at l;rw[κ p,Ο];have ih:=λα=>Qs (o:=o) (i0:=i0) C r (j+1) acc v α ⟨n+1,(n,.k 138 [.i x.at_,.i (dS x.to),.bool x.wr,.i x.bK])::L⟩ D aa aa F;simp only[go_sem,seval,g,f,c,h,q,l,E,w1,B];refine ih _ ?_ ?_ ?_ ?_ ?_;all_goals simp[go_sem,g,h5,f,c]
def WK(m:Mp)(i):(kl m i).length<=m.ms.length+1:=by simp[kl,qR];have:=List.length_filter_le (λx:Me=>decide (x.to=some i)) m.ms;omega
def aCw(a b c)(H:ab):eQ (.agg [a,b,c]) H=some (.ptr H.next 0,H.push (.z [a,b,c])):=by simp[eQ,AV.width,AV.cells]
def abT(m:Mp)(bad)(i:Nat)(hi:i<m.bs.length)(hl:m.bs.length+m.ms.length<=4000):aK prog (run dG) 45 [mapA m bad,.i i]=some (.vec .ro ((mU (kl m i)).map iA)):=by
 refine ED (c:=.seq _ (.seq (.seq _ (.cond _ _ _)) (.seq _ (.seq (.seq _ (.block 0 (.loop Mj))) _)))) rfl rfl func45 rfl (by rw[ntmps45];simp) (bE:=[mapA m bad,.i i]) (by simp[Ps];rfl) ?_ ?_
 ·show((mapA m bad).aq&&_)=true;rw[CG];rfl
 have d:(m.bs.map bg).length=m.bs.length:=Θ ..;have a:(m.ms.map ck).length=m.ms.length:=Θ ..;have f:=bU ((i:Int)<0);have h:=bU ((i:Int)≥(m.bs.length:Int));obtain⟨b,hb⟩:=fo hi;have l:kl m i=(b.at_:Int)::qR m.ms i:=by simp[kl,TR,hb]
 simp only[go_sem,seval,ab.empty,mapA,aCw,d,a,f,h,Di (aD m.bs.length) hb,Py,jy];simp[bW];refine bz (dm (Qs (o:=aD m.ms.length) (ms:=m.ms) (i0:=i) aa m.ms 0 [(b.at_:Int)] (.vec .full [.i b.at_]) _ _ rfl ah ah (.inr (.inl ⟨_,rfl,rfl⟩)) ?_ ?_ ?_ ?_ ?_)) ?_
 case refine_6=>
  rintro _ ⟨ae,H',rfl,v',e,h5⟩;rw[show[(b.at_:Int)]++qR m.ms i=kl m i from l.symm] at e;have DT:=WK m i;obtain⟨H2,k,j,s3⟩:=ap4 e aa;simp only[go_sem,seval,h5,k,results45];refine⟨_,_,rfl,?_⟩;have:=Qq aee (λ_ _ _=>rfl) j;have g:(if(kl m i).length=0 then Ab.Own.nil else Ab.Own.ro)=.ro:=κ (by simp[kl]);rw[(Ck _).length_eq,g] at this;exact this
 all_goals simp[go_sem,]
 all_goals(try rfl)
def ee(u:Un)(t:Int):Int:=match u.tk[t.toNat]? with|some k=>(k.2.1:Int)|none=>0
def yS(u:Un)(i:Nat):List Sp:=(mU (kl u.mp i)).map λt=>(u.nm,ee u t)
def u9(us:List Un)(u:Un)(s:List UInt8×Nat):Nat->List Bi->List Sp
 |_,[]=>[]
 |i,b::r=>(if stands us u b=s then yS u i else[])++u9 us u s (i+1) r
def nC(us:List Un)(s:List UInt8×Nat):List Un->List Sp
 |[]=>[]
 |u::r=>u9 us u s 0 u.mp.bs++nC us s r
def VW{u}(h:jb u)(i):(yS u i).length<=4001:=by unfold yS;rw[Θ,(Ck _).length_eq];have:=WK u.mp i;have:=h.fT;omega
def Pz{us}{u:Un}(h:jb u)(s):∀r i,(u9 us u s i r).length<=4001*r.length
 |[],i=>by simp[u9]
 |b::r,i=>by
  have:=Pz h s (us:=us) r (i+1);have:=VW h i;rw[u9,τ,Γ];split
  ·omega
  ·simp;omega
def aak{us}(s):∀r,(∀u∈r,jb u)->(nC us s r).length<=16004000*r.length
 |[],h=>by simp[nC]
 |u::r,h=>by have h1:=aak s (us:=us) r (λx a=>h x (Κ _ a));have h2:=Pz (us:=us) (h u Ρ) s u.mp.bs 0;have h3:=(h u Ρ).fT;rw[nC,τ,Γ];omega
def ap5{ms:List Me}{i}{t}(h:t∈qR ms i):∃a:Nat,t=a/\a∈ms.map (·.at_):=by unfold qR at h;obtain⟨x,b,rfl⟩:=aEI.1 h;exact⟨x.at_,rfl,aEI.2 ⟨x,(aFt.1 b).1,rfl⟩⟩
def ap6{u:Un}(h:jb u){i}(hi:i<u.mp.bs.length){t}(e:t∈mU (kl u.mp i)):∃a:Nat,t=a/\a<u.tk.length:=by
 have:=(Ck _).subset e;unfold kl at this;rcases Υ.1 this with rfl|c
 ·obtain⟨b,hb⟩:=fo hi;refine⟨b.at_,by simp[TR,hb],h.lt _ ?_⟩;exact aFx _ (aEI.2 ⟨b,Δ hb,rfl⟩)
 ·obtain⟨a,rfl,d⟩:=ap5 c;exact⟨a,rfl,h.lt _ (List.mem_append_right _ d)⟩
def DE(o){l:List Tok}{i:Nat}{x:Tok}(h:l[i]? =some x):dW prog 68 (.vec o (V l)) (.i i)=some (.rptr [.i x.1,.i x.2.1,.str x.2.2.1,.str x.2.2.2]):=rP P1 Jp mP o h rfl
def ay4(o){l:List Int}{i:Nat}{x:Int}(h:l[i]? =some x):dW prog 103 (.vec o (l.map iA)) (.i i)=some (.rptr [.i x]):=rP I2 ez iA o h rfl
def aCy(u:Un):(cU u)[2]? =some (.vec (aD u.tk.length) (V u.tk)):=rfl
def abU(x:Sp)(H:ab):dZ prog 98 1 [(0,.agg [.str x.1,.i x.2])] H=some (.vec .full [.agg [.str x.1,.i x.2]],H):=vB Pr (.agg [.str x.1,.i x.2]) rfl rfl aA H
def ay5:xE prog 4 44=some [.str,.int]:=af
def ay6(c)(a b)(x y:Nat):nS prog .neq 44 c (.agg [.str a,.i x]) (.agg [.str b,.i y])=some (.bool (!decide ((a,x)=(b,y)))):=by rw[Ax rfl];simp[fH,Z7,ay5,ot,yG,C5];rw[dF x y];by_cases h:a=b<;>by_cases k:x=y<;>simp[h,k]
noncomputable def G7:=f47.c.r.r.l.r.b.b
noncomputable def Ed:=G7.r.r.l.b.r.r.r.b.b
noncomputable def G8:=Ed.r.r.l.b.r.r.r.b.b
def aal{u:Un}{p8:Nat}{o:Ab.Own}{l:List Int}(I:∀t∈l,∃a:Nat,t=a/\a<u.tk.length)(P:l.length<=1000000):∀r j acc v α H,l.drop j=r->j+r.length=l.length->acc.length+r.length<=200000000->fO H 33 2 mE iW v acc->(∃te,H.get p8=some (.c te (cU u)))->
  α 5=v->α 7=.str u.nm->α 8=.ptr p8 0->α 45=.vec o (l.map iA)->α 46=.i l.length->α 47=.i j->
  aF (aL (aT dG G8) α H) λe d H'=>e=.exit 4/\(∃p,fO H' 33 2 mE iW p (acc++r.map λt=>(u.nm,ee u t))/\d 5=p)/\Kw 33 2 H H'/\d 0=α 0/\d 3=α 3/\d 7=α 7/\d 8=α 8/\d 15=α 15/\d 16=α 16/\d 17=α 17/\d 29=α 29/\d 30=α 30/\d 31=α 31
 |[],j,acc,v,α,⟨n,L⟩,s,y,M,A,⟨te,q⟩,a5,a7,a8,g,f,h=>by
  have B:G8=.seq _ (.seq _ (.seq (.block _ (.seq _ _)) _)):=rfl;have z:=dY (a:=j) (b:=l.length) (by simp at y;omega);rw[aJ,B];simp only[go_sem,seval,f,h,z];refine⟨aI,⟨v,?_,by simp[go_sem,a5]⟩,Kw.refl _ _ _,?_⟩
  ·simpa using A
  ·first|trivial|simp
 |x::r,j,acc,v,α,⟨n,L⟩,s,y,M,A,⟨te,q⟩,a5,a7,a8,g,f,h=>by
  have B:G8=.seq _ (.seq _ (.seq (.block _ (.seq _ _)) _)):=rfl;simp at y M;have z:=ec (a:=j) (b:=l.length) aa;have K:l[j]? =some x:=by have:=Ι (·[0]?) s;simpa using this
  have T:l.drop (j+1)=r:=by rw[<-List.drop_drop,s];rfl
  obtain⟨a,rfl,w⟩:=I x (Δ K);obtain⟨k,G⟩:=fo w;have N:ee u (a:Int)=(k.2.1:Int):=by simp[ee,aE5,G]
  obtain⟨S,R⟩:=ai.1 q;obtain⟨p,⟨D,E⟩,b1,b2,F⟩:=Ox (m:=λt=>t==103||t==98) spT rfl .full (u.nm,(k.2.1:Int)) A aa aa;have C:cH (λt=>t==103||t==98) prog 98 98 v (.vec .full [.agg [.str u.nm,.i k.2.1]]) ⟨n,L⟩=some (p,⟨D,E⟩):=b1;have J:=abU (u.nm,(k.2.1:Int));simp only at J;have ih:=λα=>aal (u:=u) (p8:=p8) (o:=o) I P r (j+1) (acc++[(u.nm,(k.2.1:Int))]) p α ⟨D,E⟩ T aa aP b2 ⟨te,F.cells q⟩;rw[Λ] at ih;rw[aJ,B,aEv,N];simp only[go_sem,seval,a5,a7,a8,g,f,h,z,ay4 o K,DE (aD u.tk.length) G,(eN j aa),aC R,ο S,aCy,aQ,J,cG,C];refine aW (ih _ ?_ ?_ ?_ ?_ ?_ ?_) ?_
  case refine_7=>
   rintro e d H' ⟨rfl,O,U,Q⟩;refine⟨rfl,O,F.trans U,?_⟩;simpa[put,a7,a8] using Q
  all_goals simp[go_sem,a7,a8,g,f]
def ap7{us:List Un}(a:gl us)(u:Un)(b:Bi)(hb:zd u b)(H:ab):bu dG 60 [.rptr [.vec (aD us.length) (vU us)],.agg (cU u),.agg [.i b.at_,.i b.k,.str b.w,.i b.item]] H=some (.agg [.str (stands us u b).1,.i ((stands us u b).2:Int)],H):=cI rfl (aCv a u b hb) H
def ap8(u:Un)(h:jb u){i}(hi:i<u.mp.bs.length)(H:ab):bu dG 45 [.agg [.vec (aD u.mp.bs.length) (u.mp.bs.map bg),.vec (aD u.mp.ms.length) (u.mp.ms.map ck),.vec (aD u.b1.length) (cO u.b1)],.i i] H=some (.vec .ro ((mU (kl u.mp i)).map iA),H):=cI rfl (abT u.mp u.b1 i hi h.fT) H
def ay7(u:Un):List.take 3 (List.drop 9 (cU u))=[.vec (aD u.mp.bs.length) (u.mp.bs.map bg),.vec (aD u.mp.ms.length) (u.mp.ms.map ck),.vec (aD u.b1.length) (cO u.b1)]:=rfl
def PA{us:List Un}(K:gl us){u:Un}(h:jb u){s}{p8 p3:Nat}:∀r i acc v α H,u.mp.bs.drop i=r->i+r.length=u.mp.bs.length->acc.length+4001*r.length<=200000000->fO H 33 2 mE iW v acc->(∃te,H.get p8=some (.c te (cU u)))->(∃te,H.get p3=some (.c te [.str s.1,.i s.2]))->
  α 0=.rptr [.vec (aD us.length) (vU us)]->α 3=.ptr p3 0->α 5=v->α 7=.str u.nm->α 8=.ptr p8 0->α 29=.vec (aD u.mp.bs.length) (u.mp.bs.map bg)->α 30=.i u.mp.bs.length->α 31=.i i->
  aF (aL (aT dG Ed) α H) λe g H'=>e=.exit 2/\(∃y,fO H' 33 2 mE iW y (acc++u9 us u s i r)/\g 5=y)/\Kw 33 2 H H'/\g 0=α 0/\g 3=α 3/\g 15=α 15/\g 16=α 16/\g 17=α 17
 |[],i,acc,v,α,⟨n,L⟩,O,P,ha,R,⟨te,M⟩,⟨iX,h3⟩,a0,a3,a5,a7,a8,f,j,d=>by
  have S:Ed=.seq _ (.seq _ (.seq (.block _ (.seq _ (.seq (.seq _ _) (.seq _ (.block _ (.loop G8)))))) _)):=rfl;have B:=dY (a:=i) (b:=u.mp.bs.length) (by simp at P;omega);rw[aJ,S];simp only[go_sem,seval,j,d,B];refine⟨aI,⟨v,?_,by simp[go_sem,a5]⟩,Kw.refl _ _ _,?_⟩
  ·simpa[u9] using R
  ·first|trivial|simp
 |b::r,i,acc,v,α,⟨n,L⟩,O,P,ha,R,⟨te,M⟩,⟨iX,h3⟩,a0,a3,a5,a7,a8,f,j,d=>by
  have S:Ed=.seq _ (.seq _ (.seq (.block 3 (.seq _ (.seq (.seq _ _) (.seq _ (.block 4 (.loop G8)))))) _)):=rfl;simp at P ha;have hi:i<u.mp.bs.length:=aa;have B:=ec hi;have hb:u.mp.bs[i]? =some b:=by have:=Ι (·[0]?) O;simpa using this
  have bO:u.mp.bs.drop (i+1)=r:=by rw[<-List.drop_drop,O];rfl
  have x1:=Di (aD u.mp.bs.length) hb;have w1:=eN i (by have:=h.fT;omega);obtain⟨z8,g8⟩:=ai.1 M;obtain⟨z3,g3⟩:=ai.1 h3;have T:=aC g8;have c3:=aC g3;have y8:=bf (p8<n+1);have W:=bf (p3<n+1);have U:=bf (n<n+1);have n8:=dJ (n=p8);have V:=dJ (n=p3);have p:=ap7 K u b (h.adf (Δ hb));have kp:=Kw.push 33 2 ⟨n,L⟩ (.k 102 [.i b.at_,.i b.k,.str b.w,.i b.item]);have tN:fO ⟨n+1,(n,.k 102 [.i b.at_,.i b.k,.str b.w,.i b.item])::L⟩ 33 2 mE iW v acc:=R.cj λk m cs hk=>by obtain⟨Y,q⟩:=ai.1 hk;exact ai.2 ⟨aa,by rw[bo,bM];exact q⟩
  have F:=kp.cells M;have uS:=kp.cells h3;have z:=λc=>ay6 c (stands us u b).1 s.1 (stands us u b).2 s.2;rw[aJ,S,u9];by_cases A:stands us u b=s
  ·have C:decide (((stands us u b).1,(stands us u b).2)=(s.1,s.2))=true:=π A;rw[C] at z;rw[μ A];have DT:((mU (kl u.mp i)).map iA).length=(mU (kl u.mp i)).length:=Θ ..;have tM:=VW h i;have aEa:(yS u i).length=(mU (kl u.mp i)).length:=Θ ..;simp only[go_sem,seval,a0,a3,a8,f,j,d,B,x1,T,c3,y8,W,U,n8,V,p,ap8 u h hi,ay7,z,ω,DT];simp only[bW];refine bz (dm (aal (u:=u) (p8:=p8) (o:=.ro) (l:=mU (kl u.mp i)) (λt ht=>ap6 h hi ht) aa (mU (kl u.mp i)) 0 acc v _ _ rfl aa aa tN ⟨te,F⟩ ?_ ?_ ?_ ?_ ?_ ?_)) ?_
   case refine_7=>
    rintro _ ⟨g,⟨n',L'⟩,rfl,⟨y,Y,q5⟩,q,I,E,b7,b8,X,Ml,Z,J,N,G⟩;have ih:=λα=>PA K h (s:=s) (p8:=p8) (p3:=p3) r (i+1) (acc++yS u i) y α ⟨n',L'⟩ bO aa aP Y ⟨te,q.cells F⟩ ⟨iX,q.cells uS⟩;rw[Λ] at ih;simp only[go_sem,seval,G,d,w1];refine aW (ih _ ?_ ?_ ?_ ?_ ?_ ?_ ?_ ?_) ?_
    case refine_9=>
     rintro e qQ sD ⟨rfl,D,Q,x⟩;refine⟨rfl,D,kp.trans (q.trans Q),?_⟩;simp[put] at x I E X Ml Z;simpa[I,E,X,Ml,Z,a0,a3] using x
    all_goals simp[go_sem,I,E,b7,b8,J,N,q5,a0,a3,a7,a8,f,j]
   all_goals simp[go_sem,a5,a7,a8]
   all_goals(try rfl)
  ·have C:decide (((stands us u b).1,(stands us u b).2)=(s.1,s.2))=false:=ξ A;rw[C] at z;rw[κ A,Ο];have ih:=λα=>PA K h (s:=s) (p8:=p8) (p3:=p3) r (i+1) acc v α ⟨n+1,(n,.k 102 [.i b.at_,.i b.k,.str b.w,.i b.item])::L⟩ bO aa aa tN ⟨te,F⟩ ⟨iX,uS⟩;simp only[go_sem,seval,a0,a3,a8,f,j,d,B,x1,T,c3,y8,W,U,n8,V,p,z,χ,w1];refine aW (ih _ ?_ ?_ ?_ ?_ ?_ ?_ ?_ ?_) ?_
   case refine_9=>
    rintro e qQ sD ⟨rfl,D,Q,x⟩;refine⟨rfl,D,kp.trans Q,?_⟩;simpa[put,a0,a3] using x
   all_goals simp[go_sem,a0,a3,a5,a7,a8,f,j]
def akU{us:List Un}(a:gl us){u:Un}(b:u∈us)(H):bu dG 20 [.rptr [.vec (aD us.length) (vU us)],.str u.nm] H=some (.tup [.agg (cU u),.bool true],H):=by have h:=Px a u.nm H;rw[OA a.gF b] at h;exact h
def aam{us:List Un}(d:gl us){s}{p3}{o}:∀r pre acc v α H,us=pre++r->acc.length+16004000*r.length<=200000000->fO H 33 2 mE iW v acc->(∃te,H.get p3=some (.c te [.str s.1,.i s.2]))->
  α 0=.rptr [.vec (aD us.length) (vU us)]->α 3=.ptr p3 0->α 5=v->α 15=.vec o (SA (jE us))->α 16=.i us.length->α 17=.i pre.length->
  aF (aL (aT dG G7) α H) λe t H'=>e=.exit 0/\∃f,fO H' 33 2 mE iW f (acc++nC us s r)/\t 5=f
 |[],pre,acc,v,α,⟨n,L⟩,b,z,j,⟨iX,h3⟩,a0,a3,a5,q,g,a=>by have l:G7=.seq _ (.seq _ (.seq (.block _ (.seq _ (.seq _ (.seq _ (.block _ (.loop Ed)))))) _)):=rfl;rw[Η] at b;subst b;have h:=dY (aEu us.length);rw[aJ,l];simp only[go_sem,seval,g,a,h];refine⟨aI,v,?_,by simp[go_sem,a5]⟩;simpa[nC] using j
 |u::r,pre,acc,v,α,⟨n,L⟩,b,z,j,⟨iX,h3⟩,a0,a3,a5,q,g,a=>by
  have l:G7=.seq _ (.seq _ (.seq (.block 1 (.seq _ (.seq _ (.seq _ (.block 2 (.loop Ed)))))) _)):=rfl;have N:pre.length<us.length:=by rw[b];simp
  have h:=ec N;have w1:=eN pre.length (by have:=d.fT;omega);have x:us[pre.length]? =some u:=by rw[b];exact w7 _ _ _
  have y:=Δ x;have hg:=d.kW u y;have B:(jE us)[pre.length]? =some u.nm:=by rw[jE,aEt,x];rfl
  have I:=bf (n<n+1);have R:(u.mp.bs.map bg).length=u.mp.bs.length:=Θ ..;have kp:=Kw.push 33 2 ⟨n,L⟩ (.k 78 (cU u));have S:fO ⟨n+1,(n,.k 78 (cU u))::L⟩ 33 2 mE iW v acc:=j.cj λk m cs E=>by obtain⟨w,p⟩:=ai.1 E;exact ai.2 ⟨aa,by rw[bo,bM];exact p⟩
  have O:ab.get ⟨n+1,(n,.k 78 (cU u))::L⟩ n=some (.k 78 (cU u)):=ai.2 ⟨aa,by rw[bo,μ rfl]⟩;have qg:=Pz (us:=us) hg s u.mp.bs 0;have tB:=hg.fT;simp at z;rw[aJ,l,nC];simp only[go_sem,seval,a0,q,g,a,h,KP o B,akU d y,I,aed,R];simp only[bW];refine bz (dm (PA d hg (s:=s) (p8:=n) (p3:=p3) u.mp.bs 0 acc v _ _ rfl aa aa S ⟨_,O⟩ ⟨iX,kp.cells h3⟩ ?_ ?_ ?_ ?_ ?_ ?_ ?_ ?_)) ?_
  case refine_9=>
   rintro _ ⟨t,⟨A,C⟩,rfl,⟨f,w,K⟩,p,F,D,G,Q,J⟩;have M:us=(pre++[u])++r:=by rw[b];simp
   have P:(((pre++[u]).length:Nat):Int)=((pre.length+1:Nat):Int):=ah;have ih:=λα=>aam d (s:=s) (p3:=p3) (o:=o) r (pre++[u]) (acc++u9 us u s 0 u.mp.bs) f α ⟨A,C⟩ M aP w ⟨iX,p.cells (kp.cells h3)⟩;rw[Λ,P] at ih;simp only[go_sem,seval,J,a,w1];refine ih _ ?_ ?_ ?_ ?_ ?_ ?_;all_goals simp[go_sem,F,D,G,Q,K,a0,a3,q,g]
  all_goals simp[go_sem,a0,a3,a5]
  all_goals(try rfl)
def ap9{H}{v}{l:List Sp}(h:fO H 33 2 mE iW v l)(e:l.length<=1099511627776):∃H',dD dG (run dG) (.fn (.func 78) [] []) [v] H=some (v,H')/\fO H' 33 2 mE iW v (zw l):=by
 obtain⟨H',c,d,h3⟩:=OC (f0:=114) (rest:=sq 115) (dec:=vT) (gF:=zw) (r:=[.fn (.func 115) [] []]) h (by simp[sq]) (abR l) (NQ l) e;have b:dD dG (run dG) (.fn (.func 114) [] []) [v,.fn (.func 115) [] []] H=some (.tup [],H'):=by rw[qz rfl rfl,wK rfl];show bG tq (bG w9 (bG w_ (aM eU [33]))) 114 _ H=_;rw[lS (λa H=>OB aA a H),lS (λa H=>Yi aA a H)];unfold bG;have:w_ 114 [v,.fn (.func 115) [] []] H=some (.tup [],H'):=c;rw[this]
 refine⟨H',?_,d⟩;rw[qz rfl rfl];refine ow rfl rfl func78 rfl (by rw[ntmps78];simp) ?_;simp[go_sem,b,jy,results78]
def akV{us}(a:gl us)(s):aK prog (run dG) 47 [fD us,.agg [.str s.1,.i s.2]]=some (.vec (aD (nC us s us).length) ((zw (nC us s us)).map iW)):=by
 refine ED (c:=.seq _ (.seq _ (.seq (.seq _ (.block 0 (.loop G7))) _))) rfl rfl func47 rfl (by rw[ntmps47];simp) (bE:=[fD us,.agg [.str s.1,.i s.2]]) rfl ?_ ?_
 ·show((fD us).aq&&_)=true;rw[yR];rfl
 have d:∀H,bu dG 19 [.rptr [.vec (aD us.length) (vU us)]] H=some (.vec (aD us.length) (SA (jE us)),H):=λH=>cI rfl (aai us a.fT) H;have f:(SA (jE us)).length=us.length:=by simp[SA,jE]
 have b:∀H,eQ (.agg [.str s.1,.i s.2]) H=some (.ptr H.next 0,H.push (.z [.str s.1,.i s.2])):=λH=>by simp[eQ,AV.width,AV.cells]
 have tB:=a.fT;simp[go_sem,ab.empty,fD,b,d,f,jy];simp[bW];refine bz (dm (aam a (s:=s) (p3:=0) (o:=aD us.length) us [] [] (.vec .nil []) _ _ rfl aP (.inl ⟨rfl,rfl⟩) ⟨none,rfl⟩ ?_ ?_ ?_ ?_ ?_ ?_)) ?_
 case refine_7=>
  rintro _ ⟨ae,H',rfl,v',e,h5⟩;rw[Ο] at e;have qg:=aak (us:=us) s us a.kW;obtain⟨H2,h,g⟩:=ap9 e aa;simp only[go_sem,seval,h5,h,results47];refine⟨_,_,rfl,?_⟩;have:=Qq spT (λ_ _ _=>rfl) g;rw[(NQ _).length_eq] at this;exact this
 all_goals simp[go_sem,]
 all_goals(try rfl)
def Kc:List FuncId:=[37,99,66,36,24]
noncomputable def gJ:Env:={P:=prog,G:=λf=>Kc.contains f,cl:=λf=>Kc.contains f,fq:=λ_=>false,dyn:=λi=>i==20,df:=λ_=>false,ext:=λ_ _ _=>none}
def ay8:okF gJ 37=true:=af
def ay9:okF gJ 99=true:=af
def aza:okF gJ 66=true:=af
def azb:okF gJ 36=true:=af
def azc:okF gJ 24=true:=af
def azd:gJ.P=prog:=(rfl)
def aze:gJ.fq=λ_=>false:=(rfl)
def avm:gJ.dyn 7=false:=(rfl)
def aqa:gJ.dyn 12=false:=(rfl)
attribute [go_sem] azd aze avm aqa
def cJ{f}(a:gJ.cl f=true){args}{v}(h:aK prog (run gJ) f args=some v)(H:ab):bu gJ f args H=some (v,H):=vo a h H
def dU2(u:Un):List AV:=(dU u).drop 2
def G9(u:Un):List AV:=(dU u).drop 9
def aeg(u:Un):List AV:=(dU u).drop 10
def avn(u:Un):bV prog 91 2 (.rptr (dU u))=some (.rptr (dU2 u)):=(EZ wY 2 _ rfl CU).trans (μ (show 2<=14 by decide))
def avo(u:Un):bV prog 91 4 (.rptr (dU u))=some (.rptr (G9 u)):=(EZ wY 4 _ rfl Jy).trans (μ (show 9<=14 by decide))
def avp(u:Un):bV prog 89 0 (.rptr (G9 u))=some (.rptr (G9 u)):=(EZ Fx 0 _ rfl Qe).trans (μ (show 0<=5 by decide))
def avq(u:Un):bV prog 89 1 (.rptr (G9 u))=some (.rptr (aeg u)):=(EZ Fx 1 _ rfl Qf).trans (μ (show 1<=5 by decide))
def azf(u:Un):(dU2 u)[0]? =some (.vec (aD u.tk.length) (V u.tk)):=rfl
def azg(u:Un):(G9 u)[0]? =some (.vec (aD u.mp.bs.length) (u.mp.bs.map bg)):=rfl
def avr(u:Un):(aeg u)[0]? =some (.vec (aD u.mp.ms.length) (u.mp.ms.map ck)):=rfl
def aeh(u:Un):(dU u)[8]? =some (.vec (if u.tr.ks.isEmpty then .nil else .ro) (br u.tr.ks)):=rfl
def uI(u:Un):(dU u)[9]? =some (.vec (aD u.mp.bs.length) (u.mp.bs.map bg)):=rfl
def azh(u):List.take 14 (dU u)=dU u:=rfl
def avs(u):(dU u).length=14:=rfl
def azi(u):eo (dU u)=true:=rfl
def Ef(u)(H:ab):eQ (.agg (dU u)) H=some (.ptr H.next 0,H.push (.z (dU u))):=by simp[eQ,AV.width,AV.cells]
def Ru(u):(AV.agg (dU u)).aq=true:=qJ _ _
attribute [go_sem] avn avo avp avq azf azg avr azh avs azi
def fZ(us:List Un):AV:=.vec (aD us.length) (wU us)
def CZ(us):(fZ us).aq=true:=jO (Rq us)
def FA(us):(fZ us).erase=fZ us:=by simp[fZ,AV.erase,AV.bare,oq]
noncomputable def Mo:=f37.c.r.l.r.b.b
def abV{us:List Un}{w}(q:us.length<=8):∀r i α H,us.drop i=r->i+r.length=us.length->α 0=.vec (aD us.length) (wU us)->α 1=.str w->α 5=.i i->
  aF (aL (aT gJ Mo) α H) λe m H'=>(e=.exit 0/\iM r w=none)\/(e=.ret/\∃(u:Un) (j:Nat),iM r w=some u/\us[j]? =some u/\m 4=.i j)
 |[],i,α,⟨n,L⟩,g,h,a0,a1,a5=>by have k:Mo=.seq (.seq _ _) (.seq (.block _ (.seq _ _)) _):=rfl;have c:=dY (a:=i) (b:=us.length) (by simp at h;omega);have d:(wU us).length=us.length:=w8 us;rw[aJ,k];simp only[go_sem,seval,a0,a5,d,c];exact .inl ⟨aI,rfl⟩
 |u::r,i,α,⟨n,L⟩,g,h,a0,a1,a5=>by
  have k:Mo=.seq (.seq _ _) (.seq (.block _ (.seq _ _)) _):=rfl;simp at h;have c:=ec (a:=i) (b:=us.length) aa;have d:(wU us).length=us.length:=w8 us;have o:us[i]? =some u:=by have:=Ι (·[0]?) g;simpa using this
  have s:us.drop (i+1)=r:=by rw[<-List.drop_drop,g];rfl
  have p:=so (aD us.length) o;have hf:iM (u::r) w=if(u.nm==w)=true then some u else iM r w:=by unfold iM;rw[aE0];cases(u.nm==w)<;>rfl
  rw[aJ,k]
  cases hq:(u.nm==w) with
  |true=>rw[hq,μ rfl] at hf;simp only[go_sem,seval,a0,a1,a5,d,c,p,mn,hq];exact .inr ⟨aI,u,i,hf,o,by simp[go_sem]⟩
  |false=>
   rw[hq,κ ah] at hf;simp only[go_sem,seval,a0,a1,a5,d,c,p,mn,hq,(eN i aa)];refine aW ((λα=>abV (w:=w) q r (i+1) α ⟨n,L⟩ s aa) _ ?_ ?_ ?_) ?_
   case refine_4=>
    rintro e m H' (⟨f,l⟩|⟨f,v,j,l,t⟩)
    ·exact .inl ⟨f,by rw[hf];exact l⟩
    ·exact .inr ⟨f,v,j,by rw[hf];exact l,t⟩
   all_goals simp[go_sem,a0,a1]
def avt(us:List Un)(w)(f:us.length<=8):(iM us w=none/\aK prog (run gJ) 37 [fZ us,.str w]=some (.i (-1)))\/∃(u:Un) (j:Nat),iM us w=some u/\us[j]? =some u/\aK prog (run gJ) 37 [fZ us,.str w]=some (.i j):=by
 suffices hh:∃v,aK prog (run gJ) 37 [fZ us,.str w]=some v/\((iM us w=none/\v=.i (-1))\/∃(u:Un) (j:Nat),iM us w=some u/\us[j]? =some u/\v=.i j) by
  obtain⟨v,d,⟨a,rfl⟩|⟨u,j,a,b,rfl⟩⟩:=hh
  ·exact .inl ⟨a,d⟩
  ·exact .inr ⟨u,j,a,b,d⟩
 refine yl (c:=.seq _ (.seq (.seq _ (.block 0 (.loop Mo))) _)) rfl rfl func37 rfl (by rw[ntmps37];simp) (bE:=[fZ us,.str w]) (by simp[FA];rfl) ?_ ?_
 ·show((fZ us).aq&&_)=true;rw[CZ];rfl
 simp only[go_sem,seval,ab.empty,fZ];simp only[bW];refine bz (oW (abV (w:=w) f us 0 _ _ rfl ah ?_ ?_ ?_)) ?_
 case refine_4=>
  rintro _ ⟨e,ae,H',rfl,⟨rfl,a⟩|⟨rfl,u,j,a,b,g⟩⟩
  ·simp only[go_sem,seval,results37];exact⟨_,_,_,rfl,rfl,.inl ⟨a,rfl⟩⟩
  ·simp only[go_sem,seval,g,results37];exact⟨_,_,_,rfl,rfl,.inr ⟨u,j,a,b,rfl⟩⟩
 all_goals simp[go_sem,]
 all_goals(try rfl)
def Gm(bs:List Bi)(w:List UInt8)(i:Nat):Bool:=match bs[i]? with|some b=>decide (b.k=2)&&(b.w==w)|none=>false
def FB(bs:List Bi)(w:List UInt8)(n:Nat):Option Nat:=(List.range n).reverse.find? (Gm bs w)
def agO(bs:List Bi)(w:List UInt8):ox bs w=FB bs w bs.length:=rfl
def afX(bs)(w)(n:Nat):FB bs w (n+1)=if Gm bs w n=true then some n else FB bs w n:=by unfold FB;rw[List.range_succ,List.reverse_append,List.reverse_singleton,aFL,aE0];cases Gm bs w n<;>rfl
noncomputable def Mq:=f99.c.r.r.l.r.b.b
def abW{u:Un}{w:List UInt8}(l:u.mp.bs.length<=1000000):∀d i α,i+d=u.mp.bs.length->α 1=.str w->α 2=.ptr 0 0->α 5=.i (dS (FB u.mp.bs w i))->α 6=.i i->
  aF (aL (aT gJ Mq) α ⟨1,[(0,.z (dU u))]⟩) λe n H'=>e=.exit 0/\n 5=.i (dS (ox u.mp.bs w))
 |0,i,α,j,a1,a2,a5,a6=>by have g:Mq=.seq (.seq _ _) (.seq (.block _ (.seq _ _)) _):=rfl;have hi:i=u.mp.bs.length:=aa;subst hi;have c:=dY (aEu u.mp.bs.length);have f:(u.mp.bs.map bg).length=u.mp.bs.length:=Θ ..;rw[aJ,g];simp only[go_sem,seval,a2,a6,uI,f,c];refine⟨aI,?_⟩;rw[agO];simp[go_sem,a5]
 |d+1,i,α,j,a1,a2,a5,a6=>by
  have g:Mq=.seq (.seq _ _) (.seq (.block _ (.seq _ _)) _):=rfl;have hi:i<u.mp.bs.length:=aa;have c:=ec hi;have f:(u.mp.bs.map bg).length=u.mp.bs.length:=Θ ..;obtain⟨b,hb⟩:=fo hi;have h:=zu (aD u.mp.bs.length) hb;have w1:=eN i aa;have m:Gm u.mp.bs w i=(decide (b.k=2)&&(b.w==w)):=by simp only[Gm,hb]
  have a:((b.k:Int)==2)=decide (b.k=2):=dF b.k 2;have ih:=λα=>abW (u:=u) (w:=w) l d (i+1) α aa;rw[afX,m] at ih;rw[aJ,g]
  cases hk:decide (b.k=2) with
  |false=>
   rw[hk] at a ih;simp only[aGi,υ,ap1] at ih;simp only[go_sem,seval,a2,a6,uI,f,c,h,w1,a];refine ih _ ?_ ?_ ?_ ?_;all_goals simp[go_sem,a1,a2,a5]
  |true=>
   cases hq:(b.w==w) with
   |false=>
    rw[hk] at a ih;rw[hq] at ih;simp only[Bool.and_false,υ,ap1] at ih;simp only[go_sem,seval,a1,a2,a6,uI,f,c,h,w1,a,hq];refine ih _ ?_ ?_ ?_ ?_;all_goals simp[go_sem,a1,a2,a5]
   |true=>
    rw[hk] at a ih;rw[hq] at ih;simp only[Bool.and_self,aEl,dS] at ih;simp only[go_sem,seval,a1,a2,a6,uI,f,c,h,w1,a,hq];refine ih _ ?_ ?_ ?_ ?_;all_goals simp[go_sem,a1,a2]
def avu(u:Un)(w:List UInt8)(a:u.mp.bs.length<=1000000):aK prog (run gJ) 99 [.agg (dU u),.str w]=some (.i (dS (ox u.mp.bs w))):=by
 refine eX (c:=.seq _ (.seq _ (.seq (.seq _ (.block 0 (.loop Mq))) _))) rfl rfl func99 rfl (by rw[ntmps99];simp) (bE:=[.agg (dU u),.str w]) (by simp[Dh];rfl) ?_ ?_ rfl
 ·show((AV.agg (dU u)).aq&&true)=true;rw[Ru];rfl
 simp[go_sem,ab.empty,Ef];simp[bW];refine bz (dm (abW (u:=u) (w:=w) a u.mp.bs.length 0 _ aa ?_ ?_ ?_ ?_)) ?_
 case refine_5=>
  rintro _ ⟨ae,H',rfl,h5⟩;simp only[go_sem,seval,h5,results99];exact⟨_,rfl,rfl⟩
 all_goals simp[go_sem,]
 all_goals(try rfl)
section
variable {us:List Un}
def aan(c:gl us)(w):(iM us w=none/\∀H,bu gJ 37 [.vec (aD us.length) (wU us),.str w] H=some (.i (-1),H))\/∃(u:Un) (j:Nat),iM us w=some u/\us[j]? =some u/\∀H,bu gJ 37 [.vec (aD us.length) (wU us),.str w] H=some (.i j,H):=by
 rcases avt us w c.fT with⟨a,b⟩|⟨u,j,a,b,h3⟩
 ·exact .inl ⟨a,λH=>cJ rfl b H⟩
 ·exact .inr ⟨u,j,a,b,λH=>cJ rfl h3 H⟩
def G_(b:Bi)(H:ab):eQ (bg b) H=some (.ptr H.next 0,H.push (.z [.i b.at_,.i b.k,.str b.w,.i b.item])):=by simp[eQ,bg,AV.width,AV.cells]
def akW(h:gl us)(u)(b)(hb:zd u b):aK prog (run gJ) 66 [fZ us,.agg (dU u),bg b]=some (.tup [.str (fY us u b).1,.i (dS (fY us u b).2)]):=by
 refine eX (c:=.seq _ (.seq (.seq _ (.cond _ _ _)) (.seq _ (.seq _ (.seq (.seq _ (.cond _ _ _)) (.seq _ _)))))) rfl rfl func66 rfl (by rw[ntmps66];simp) (bE:=[fZ us,.agg (dU u),bg b]) (by simp[Dh,FA];rfl) ?_ ?_ rfl
 ·show((fZ us).aq&&((AV.agg (dU u)).aq&&_))=true;rw[CZ,Ru];rfl
 by_cases a:b.k=1
 ·obtain⟨n,y,o,l⟩:=hb a;have g:=Iy a o l;have d:((b.k:Int) != 1)=false:=by rw[a];rfl
  have q:=kD (if u.tr.ks.isEmpty then .nil else .ro) o;have r:dW prog 69 (.vec (if n.ks.isEmpty then .nil else .ro) (br n.ks)) (.i 0)=some (.rptr (aB y)):=kD (i:=0) _ (by rw[l];rfl);rcases aan h y.w with⟨hf,e⟩|⟨m,j,hf,s,e⟩
  ·have hi:fY us u b=(y.w,none):=by simp[fY,g,hf]
   have p:decide ((-1:Int)<0)=true:=rfl;rw[hi];simp only[go_sem,seval,ab.empty,fZ,Ef,G_,aeh,d,q,r,JM,I6,e,dS,results66];exact⟨_,rfl,rfl⟩
  ·have hi:fY us u b=(y.w,ox m.mp.bs b.w):=by simp[fY,g,hf]
   have f:=λH=>cJ rfl (avu m b.w (by have:=(h.kW m (H8 hf).1).fT;omega)) H;have p:=bU ((j:Int)<0);rw[hi];simp only[go_sem,seval,ab.empty,fZ,Ef,G_,aeh,d,q,r,so (aD us.length) s,JM,I6,e,f,p,results66];exact⟨_,rfl,rfl⟩
 ·have d:((b.k:Int) != 1)=true:=by have:=sf b.k 1;rw[ξ a] at this;exact this
  have hi:fY us u b=([],none):=by simp[fY,Iz a]
  rw[hi];simp only[go_sem,seval,ab.empty,fZ,Ef,G_,d,dS,results66];exact⟨_,rfl,rfl⟩
def akX(l:gl us)(u)(b)(hb:zd u b):aK prog (run gJ) 36 [fZ us,.agg (dU u),bg b]=some (.agg [.str (stands us u b).1,.i ((stands us u b).2:Int)]):=by
 refine eX (c:=.seq _ (.seq _ (.seq (.seq _ (.cond _ (.seq _ _) _)) (.seq _ _)))) rfl rfl func36 rfl (by rw[ntmps36];simp) (bE:=[fZ us,.agg (dU u),bg b]) (by simp[Dh,FA];rfl) ?_ ?_ rfl
 ·show((fZ us).aq&&((AV.agg (dU u)).aq&&_))=true;rw[CZ,Ru];rfl
 have d:=λH=>cJ rfl (akW l u b hb) H;simp[fZ,bg] at d
 cases hj:(fY us u b).2 with
 |none=>
  have e:stands us u b=(u.nm,b.at_):=by simp[stands,hj]
  have f:decide (dS none≥0)=false:=rfl;rw[hj] at d;rw[e];simp only[go_sem,seval,ab.empty,fZ,Ef,G_,d,f,aQ,mn,results36];exact⟨_,rfl,rfl⟩
 |some j=>
  have a:b.k=1:=by
   by_cases a:b.k=1
   ·exact a
   ·have hi:fY us u b=([],none):=by simp[fY,Iz a]
    rw[hi] at hj;cases hj
  obtain⟨n,y,v,t⟩:=hb a;have g:=Iy a v t;have p:(fY us u b).1=y.w:=by simp[fY,g]
  have x:(fY us u b).2=(iM us y.w).bind λm=>ox m.mp.bs b.w:=by simp[fY,g]
  have r:=hj;rw[x] at hj;rcases aan l y.w with⟨hf,h⟩|⟨m,q,hf,s,h⟩
  ·rw[hf] at hj;cases hj
  ·rw[hf] at hj;simp at hj;obtain⟨c,o⟩:=fo (VV hj);have e:stands us u b=(y.w,c.at_):=by simp[stands,r,p,hf,TQ,o]
   have f:=bH (((j:Nat):Int)≥0);rw[p,r] at d;rw[e];simp only[go_sem,seval,ab.empty,fZ,Ef,G_,d,h,f,aQ,zu (aD m.mp.bs.length) o,so (aD us.length) s,dS,results36];exact⟨_,rfl,rfl⟩
end
set_option maxRecDepth 100000
set_option maxHeartbeats 8000000
def eA(H H':ab):Prop:=H.next<=H'.next/\∀i x,H.get i=some x->H'.get i=some x
def eA.refl(H:ab):eA H H:=⟨ν _,λ_ _ h=>h⟩
def eA.trans{H H1 H2:ab}(h:eA H H1)(g:eA H1 H2):eA H H2:=⟨atB h.1 g.1,λi x hi=>g.2 i x (h.2 i x hi)⟩
def eA.push(H:ab)(y):eA H (H.push y):=⟨aEg _,λi x hi=>by
 rw[ab.fL,κ (by have:=ab.ep hi;omega)];exact hi⟩
def eA.grow{H H'}(h:eA H H'){et}{o}{n}(g:cY H et o n):cY H' et o n:=g.cj λj m a=>h.2 _ _ a
def DF(k t:Nat)(x:Me):Bool:=decide (x.at_=t)&&decide (x.to=some k)
def Br(u:Un)(k:Nat)(b:Bi)(t:Nat):Bool:=decide (b.at_=t)||u.mp.ms.any (DF k t)
def rE(us:List Un)(u:Un)(s:List UInt8×Nat)(t:Nat):Nat->List Bi->List Sp
 |_,[]=>[]
 |k,b::r=>(if stands us u b=s then(if Br u k b t=true then[(u.nm,ee u (t:Int))] else[]) else[])++rE us u s t (k+1) r
def tO(us:List Un)(u:Un)(s:List UInt8×Nat):Nat->Nat->List Sp
 |_,0=>[]
 |t,d+1=>rE us u s t 0 u.mp.bs++tO us u s (t+1) d
def oU(us:List Un)(s:List UInt8×Nat):List Un->List Sp
 |[]=>[]
 |u::r=>tO us u s 0 u.tk.length++oU us s r
def PB(us)(u:Un)(s)(t):∀r k,(rE us u s t k r).length<=r.length
 |[],k=>by simp[rE]
 |b::r,k=>by
  have:=PB us u s t r (k+1);rw[rE,τ,Γ];split
  ·split
   ·simp;omega
   ·simp;omega
  ·simp;omega
def aao(us){u:Un}(h:jb u)(s):∀d t,(tO us u s t d).length<=4000*d
 |0,t=>by simp[tO]
 |d+1,t=>by have h1:=aao us h s d (t+1);have h2:=PB us u s t u.mp.bs 0;have:=h.fT;rw[tO,τ];omega
def azj:xE prog 4 49=some [.str,.int]:=af
def azk(c)(a b)(x y:Nat):nS prog .neq 49 c (.agg [.str a,.i x]) (.agg [.str b,.i y])=some (.bool (!decide ((a,x)=(b,y)))):=by rw[Ax rfl];simp[fH,Z6,azj,ot,yG,C5];rw[dF x y];by_cases h:a=b<;>by_cases k:x=y<;>simp[h,k]
def aei(o){ms:List Me}{i:Nat}{x:Me}(h:ms[i]? =some x):dW prog 86 (.vec o (ms.map ck)) (.i i)=some (.rptr [.i x.at_,.i (dS x.to),.bool x.wr,.i x.bK]):=rP JA Fv ck o h rfl
noncomputable def Hd:=f24.c.r.r.l.r.b.b
noncomputable def Eh:=Hd.r.l.b.r.b.b
noncomputable def BS:=Eh.r.l.b.r.b.b
noncomputable def He:=BS.r.l.b.r.r.r.l.r.b.b
noncomputable def TT:=BS.r.l.b.r.r.r.r.r.t.o
section
variable {us:List Un} {u:Un} {i:Nat}
def aap(hi:us[i]? =some u)(z:u.mp.ms.length<=1000000){t k}{hf}{v3 v5}{H0:ab}:∀r j h α H,u.mp.ms.drop j=r->j+r.length=u.mp.ms.length->hf=(h||r.any (DF k t))->eA H0 H->α 0=.vec (aD us.length) (wU us)->α 3=v3->α 5=v5->α 6=.i i->α 7=.i t->α 8=.i k->α 10=.bool h->α 11=.i j->
  aF (aL (aT gJ He) α H) λe c H'=>e=.exit 6/\c 10=.bool hf/\eA H0 H'/\c 0=.vec (aD us.length) (wU us)/\c 3=v3/\c 5=v5/\c 6=.i i/\c 7=.i t/\c 8=.i k
 |[],j,h,α,⟨n,L⟩,s,y,d,o,a0,a3,a5,a6,a7,a8,bD,bY=>by
  have w:He=.seq (.seq _ _) (.seq (.block _ (.seq _ _)) _):=rfl;have g:=dY (a:=j) (b:=u.mp.ms.length) (by simp at y;omega);have f:(u.mp.ms.map ck).length=u.mp.ms.length:=Θ ..;have l:=so (aD us.length) hi;simp[List.any_nil] at d;subst d;rw[aJ,w];simp only[go_sem,seval,a0,a6,bY,l,f,g];refine⟨aI,?_,o,?_⟩
  ·simp[go_sem,bD]
  ·simp[go_sem,a3,a5,a7,a8]
 |x::r,j,h,α,⟨n,L⟩,s,y,d,o,a0,a3,a5,a6,a7,a8,bD,bY=>by
  have w:He=.seq (.seq _ _) (.seq (.block _ (.seq _ _)) _):=rfl;simp at y;have g:=ec (a:=j) (b:=u.mp.ms.length) aa;have f:(u.mp.ms.map ck).length=u.mp.ms.length:=Θ ..;have B:u.mp.ms[j]? =some x:=by have:=Ι (·[0]?) s;simpa using this
  have A:u.mp.ms.drop (j+1)=r:=by rw[<-List.drop_drop,s];rfl
  have l:=so (aD us.length) hi;have p:=aei (aD u.mp.ms.length) B;have w1:=eN j aa;have q:=bf (n<n+1);have m:((x.at_:Int)==(t:Int))=decide (x.at_=t):=dF _ _;have v:hf=((h||DF k t x)||r.any (DF k t)):=by rw[d,Bool.or_assoc];rfl
  have hm:DF k t x=(decide (x.at_=t)&&decide (x.to=some k)):=rfl;have ih:=λh α d=>aap hi z (t:=t) (k:=k) (hf:=hf) (v3:=v3) (v5:=v5) (H0:=H0) r (j+1) h α ⟨n+1,(n,.k 97 [.i x.at_,.i (dS x.to),.bool x.wr,.i x.bK])::L⟩ A aa d (o.trans (eA.push ⟨n,L⟩ (.k 97 [.i x.at_,.i (dS x.to),.bool x.wr,.i x.bK])));rw[aJ,w]
  cases h with
  |true=>
   simp only[go_sem,seval,a0,a6,bD,bY,l,p,f,g,w1,q];refine ih true _ v ?_ ?_ ?_ ?_ ?_ ?_ ?_ ?_;all_goals simp[go_sem,a0,a3,a5,a6,a7,a8]
  |false=>
   cases d2:decide (x.at_=t) with
   |false=>
    rw[d2] at m;simp only[go_sem,seval,a0,a6,a7,bD,bY,l,p,f,g,m,w1,q];refine ih false _ (by rw[v,hm,d2];rfl) ?_ ?_ ?_ ?_ ?_ ?_ ?_ ?_;all_goals simp[go_sem,a0,a3,a5,a6,a7,a8]
   |true=>
    rw[d2] at m;simp only[go_sem,seval,a0,a6,a7,a8,bD,bY,l,p,f,g,m,Mi x.to k,w1,q];refine ih (decide (x.to=some k)) _ (by rw[v,hm,d2];rfl) ?_ ?_ ?_ ?_ ?_ ?_ ?_ ?_;all_goals simp[go_sem,a0,a3,a5,a6,a7,a8]
def aqb(a:gl us)(u:Un)(b:Bi)(hb:zd u b)(H:ab):bu gJ 36 [.vec (aD us.length) (wU us),.agg (dU u),.agg [.i b.at_,.i b.k,.str b.w,.i b.item]] H=some (.agg [.str (stands us u b).1,.i ((stands us u b).2:Int)],H):=cJ rfl (akX a u b hb) H
def azl(x):(iW x).width=some 2:=rfl
def I7(g:gl us)(hi:us[i]? =some u){t}(p:t<u.tk.length){s}{v3}{p3}{iX:Option TypeId}(J:v3=.ptr p3 0){fin:List Sp}:∀r k acc o α H,u.mp.bs.drop k=r->k+r.length=u.mp.bs.length->fin=acc++rE us u s t k r->acc.length+r.length<=200000000->cY H 33 o acc.length->H.get p3=some (.cells iX [.str s.1,.i s.2])->α 0=.vec (aD us.length) (wU us)->α 3=v3->α 5=.vec o (acc.map iW)->α 6=.i i->α 7=.i t->α 8=.i k->
  aF (aL (aN gJ (run gJ) aL BS) α H) λe d H'=>e=.exit 4/\(∃h,cY H' 33 h fin.length/\d 5=.vec h (fin.map iW))/\H'.get p3=some (.cells iX [.str s.1,.i s.2])/\d 0=.vec (aD us.length) (wU us)/\d 3=v3/\d 6=.i i/\d 7=.i t
 |[],k,acc,o,α,⟨n,L⟩,K,M,hf,ha,hg,h3,a0,a3,a5,a6,a7,a8=>by
  have O:BS=.seq (.seq _ _) (.seq (.block _ (.seq _ (.seq (.seq _ _) (.seq _ (.seq (.seq _ (.block _ (.loop He))) (.seq _ (.cond _ _ _))))))) _):=rfl;have y:=dY (a:=k) (b:=u.mp.bs.length) (by simp at M;omega);have z:(u.mp.bs.map bg).length=u.mp.bs.length:=Θ ..;have l:=so (aD us.length) hi;simp[rE] at hf;subst hf;rw[aJ,O];simp only[go_sem,seval,a0,a6,a8,l,z,y];refine⟨aI,⟨o,hg,?_⟩,h3,?_⟩
  ·simp[go_sem,a5]
  ·simp[go_sem,a3,a7]
 |b::r,k,acc,o,α,⟨n,L⟩,K,M,hf,ha,hg,h3,a0,a3,a5,a6,a7,a8=>by
  have O:BS=.seq (.seq _ _) (.seq (.block 5 (.seq _ (.seq (.seq _ _) (.seq _ (.seq (.seq _ (.block 6 (.loop He))) (.seq _ (.cond _ (.region 20 TT.toArray true) _))))))) _):=rfl;simp at M ha;have G:=g.kW u (Δ hi);have hk:k<u.mp.bs.length:=aa;have y:=ec hk;have z:(u.mp.bs.map bg).length=u.mp.bs.length:=Θ ..;have hb:u.mp.bs[k]? =some b:=by have:=Ι (·[0]?) K;simpa using this
  have N:u.mp.bs.drop (k+1)=r:=by rw[<-List.drop_drop,K];rfl
  have l:=so (aD us.length) hi;have Z:=zu (aD u.mp.bs.length) hb;have w1:=eN k (by have:=G.fT;omega);obtain⟨z3,g3⟩:=ai.1 h3;have X:=aC g3;have T:=bf (p3<n+1);have U:=bf (n<n+1);have Q:=dJ (n=p3);have f:=aqb g u b (G.adf (Δ hb));have v:=λc=>azk c (stands us u b).1 s.1 (stands us u b).2 s.2;have e3:((b.at_:Int)==(t:Int))=decide (b.at_=t):=dF _ _;have kp:=eA.push ⟨n,L⟩ (.k 93 [.i b.at_,.i b.k,.str b.w,.i b.item]);have gE:cY ⟨n+1,(n,.k 93 [.i b.at_,.i b.k,.str b.w,.i b.item])::L⟩ 33 o acc.length:=kp.grow hg;have W:=kp.2 _ _ h3;subst J;rw[rE] at hf;rw[aJ,O];by_cases x:stands us u b=s
  ·have D:decide (((stands us u b).1,(stands us u b).2)=(s.1,s.2))=true:=π x;rw[D] at v;rw[μ x] at hf;simp only[go_sem,seval,a0,a3,a6,a7,a8,y,z,l,Z,X,T,U,Q,f,v,e3,ω];simp[bW];refine bz (dm (aap hi (by have:=G.fT;omega) (t:=t) (k:=k) (hf:=Br u k b t) (v3:=.ptr p3 0) (v5:=.vec o (acc.map iW)) (H0:=⟨n+1,(n,.k 93 [.i b.at_,.i b.k,.str b.w,.i b.item])::L⟩) u.mp.ms 0 (decide (b.at_=t)) _ _ rfl aa rfl (eA.refl _) ?_ ?_ ?_ ?_ ?_ ?_ ?_ ?_)) ?_
   case refine_9=>
    rintro _ ⟨d,⟨n1,L1⟩,rfl,C,k2,I,R,P,E,b7,b8⟩;have j:=k2.2 _ _ W;have V:=k2.grow gE
    cases hh:Br u k b t with
    |false=>
     rw[hh] at C hf;simp at hf;have ih:=λα=>I7 g hi p (s:=s) (v3:=.ptr p3 0) (iX:=iX) rfl (fin:=fin) r (k+1) acc o α ⟨n1,L1⟩ N aa hf aa V j;simp[go_sem,C,b8,w1];refine ih _ ?_ ?_ ?_ ?_ ?_ ?_;all_goals simp[go_sem,I,R,P,E,b7]
    |true=>
     rw[hh] at C hf;simp at hf;obtain⟨q,S⟩:=fo p;have u_:ee u (t:Int)=(q.2.1:Int):=by simp[ee,aE5,S]
     rw[u_] at hf;obtain⟨h,⟨n2,L2⟩,a1,a2,F⟩:=CD (m:=λ_=>false) Pr rfl azl .full (u.nm,(q.2.1:Int)) V aa aa;have uZ:cH (λ_=>false) prog 98 98 (.vec o (acc.map iW)) (.vec .full [.agg [.str u.nm,.i q.2.1]]) ⟨n1,L1⟩=some (.vec h ((acc++[(u.nm,(q.2.1:Int))]).map iW),⟨n2,L2⟩):=a1;have Y:=abU (u.nm,(q.2.1:Int));simp only at Y;have ih:=λα=>I7 g hi p (s:=s) (v3:=.ptr p3 0) (iX:=iX) rfl (fin:=fin) r (k+1) (acc++[(u.nm,(q.2.1:Int))]) h α ⟨n2,L2⟩ N aa (by rw[hf];simp) aP a2 (F.cells j);obtain⟨B,nB,r1,r2,r3⟩:∃A,A=TT.toArray/\behind A A.size 17 5=true/\behind A A.size 17 10=true/\behind A A.size 17 14=true:=⟨_,rfl,af,af,af⟩;have hR:∀α H,aN gJ (run gJ) aL (.region 20 TT.toArray true) α H=an (eY gJ (run gJ) B 0 [_,_,_,_,_,_,_,_,_,_,_,_,_,_,_,_,_,_,_] [] [] α H) λr=>some (.normal,r.1,r.2):=λα H=>by rw[nG _ _ rfl rfl,nB];exact rfl
     simp[go_sem,I,P,E,b7,C,b8,w1,hR,r1,r2,r3,aEO,l,DE (aD u.tk.length) S,mn,aQ,Y,cG,uZ];refine ih _ ?_ ?_ ?_ ?_ ?_ ?_;all_goals simp[go_sem,I,R,E,b7]
   all_goals simp[go_sem,a0,a3,a5,a6,a7,a8]
   all_goals(try rfl)
  ·have D:decide (((stands us u b).1,(stands us u b).2)=(s.1,s.2))=false:=ξ x;rw[D] at v;rw[κ x,Ο] at hf;have ih:=λα=>I7 g hi p (s:=s) (v3:=.ptr p3 0) (iX:=iX) rfl (fin:=fin) r (k+1) acc o α ⟨n+1,(n,.k 93 [.i b.at_,.i b.k,.str b.w,.i b.item])::L⟩ N aa hf aa gE W;simp only[go_sem,seval,a0,a3,a6,a8,y,z,l,Z,X,T,U,Q,f,v,χ,w1];refine ih _ ?_ ?_ ?_ ?_ ?_ ?_;all_goals simp[go_sem,a0,a3,a5,a6,a7]
end
set_option maxRecDepth 100000
set_option maxHeartbeats 8000000
section
variable {us:List Un} {u:Un} {i:Nat}
def aaq(g:gl us)(hi:us[i]? =some u){s}{p3}{iX}{fin:List Sp}:∀d t acc o α H,t+d=u.tk.length->fin=acc++tO us u s t d->acc.length+4000*d<=200000000->cY H 33 o acc.length->H.get p3=some (.cells iX [.str s.1,.i s.2])->α 0=.vec (aD us.length) (wU us)->α 3=.ptr p3 0->α 5=.vec o (acc.map iW)->α 6=.i i->α 7=.i t->
  aF (aL (aT gJ Eh) α H) λe c H'=>e=.exit 2/\(∃f,cY H' 33 f fin.length/\c 5=.vec f (fin.map iW))/\H'.get p3=some (.cells iX [.str s.1,.i s.2])/\c 0=.vec (aD us.length) (wU us)/\c 3=.ptr p3 0/\c 6=.i i
 |0,t,acc,o,α,⟨n,L⟩,p,hf,w,hg,h3,a0,a3,a5,a6,a7=>by
  have k:Eh=.seq (.seq _ _) (.seq (.block _ (.seq _ (.block _ (.loop BS)))) _):=rfl;have h:=dY (a:=t) (b:=u.tk.length) aa;have j:(V u.tk).length=u.tk.length:=FM _;have l:=so (aD us.length) hi;simp[tO] at hf;subst hf;rw[aJ,k];simp only[go_sem,seval,a0,a6,a7,l,j,h];refine⟨aI,⟨o,hg,?_⟩,h3,?_⟩
  ·simp[go_sem,a5]
  ·simp[go_sem,a3]
 |d+1,t,acc,o,α,⟨n,L⟩,p,hf,w,hg,h3,a0,a3,a5,a6,a7=>by
  have k:Eh=.seq (.seq _ _) (.seq (.block 3 (.seq _ (.block 4 (.loop BS)))) _):=rfl;have m:=g.kW u (Δ hi);have h:=ec (a:=t) (b:=u.tk.length) aa;have j:(V u.tk).length=u.tk.length:=FM _;have l:=so (aD us.length) hi;have w1:=eN t (by have:=m.tkl;omega);have mC:=PB us u s t u.mp.bs 0;have tB:=m.fT;rw[tO] at hf;rw[aJ,k];simp only[go_sem,seval,a0,a6,a7,l,j,h];simp[bW];refine bz (dm (I7 g hi (t:=t) aa (s:=s) (v3:=.ptr p3 0) (iX:=iX) rfl (fin:=acc++rE us u s t 0 u.mp.bs) u.mp.bs 0 acc o _ ⟨n,L⟩ rfl aa rfl aa hg h3 ?_ ?_ ?_ ?_ ?_ ?_)) ?_
  case refine_7=>
   rintro _ ⟨c,⟨n1,x⟩,rfl,⟨f,A,r⟩,q,v,z,y,b7⟩;have ih:=λα=>aaq g hi (s:=s) (iX:=iX) (fin:=fin) d (t+1) (acc++rE us u s t 0 u.mp.bs) f α ⟨n1,x⟩ aa (by rw[hf,Λ]) (by rw[τ];omega) A q;simp[go_sem,b7,w1];refine ih _ ?_ ?_ ?_ ?_ ?_;all_goals simp[go_sem,v,z,r,y]
  all_goals simp[go_sem,a0,a3,a5,a6,a7]
  all_goals(try rfl)
end
def aar{us:List Un}(c:gl us){s}{p3}{iX}{fin:List Sp}:∀r i acc o α H,us.drop i=r->i+r.length=us.length->fin=acc++oU us s r->acc.length+16000000*r.length<=200000000->cY H 33 o acc.length->H.get p3=some (.cells iX [.str s.1,.i s.2])->α 0=.vec (aD us.length) (wU us)->α 3=.ptr p3 0->α 5=.vec o (acc.map iW)->α 6=.i i->
  aF (aL (aT gJ Hd) α H) λe m H'=>e=.exit 0/\(∃d,cY H' 33 d fin.length/\m 5=.vec d (fin.map iW))
 |[],i,acc,o,α,⟨n,L⟩,g,h,hf,q,hg,h3,a0,a3,a5,a6=>by have k:Hd=.seq (.seq _ _) (.seq (.block _ (.seq _ (.block _ (.loop Eh)))) _):=rfl;have j:=dY (a:=i) (b:=us.length) (by simp at h;omega);have f:(wU us).length=us.length:=w8 us;simp[oU] at hf;subst hf;rw[aJ,k];simp only[go_sem,seval,a0,a6,f,j];exact⟨aI,o,hg,by simp[go_sem,a5]⟩
 |u::r,i,acc,o,α,⟨n,L⟩,g,h,hf,q,hg,h3,a0,a3,a5,a6=>by
  have k:Hd=.seq (.seq _ _) (.seq (.block 1 (.seq _ (.block 2 (.loop Eh)))) _):=rfl;simp at h q;have p:us[i]? =some u:=by have:=Ι (·[0]?) g;simpa using this
  have A:us.drop (i+1)=r:=by rw[<-List.drop_drop,g];rfl
  have l:=c.kW u (Δ p);have j:=ec (a:=i) (b:=us.length) aa;have f:(wU us).length=us.length:=w8 us;have w1:=eN i (by have:=c.fT;omega);have mC:=aao us l s u.tk.length 0;have htl:=l.tkl;rw[oU] at hf;rw[aJ,k];simp only[go_sem,seval,a0,a6,f,j];simp[bW];refine bz (dm (aaq c p (s:=s) (iX:=iX) (fin:=acc++tO us u s 0 u.tk.length) u.tk.length 0 acc o _ ⟨n,L⟩ aa rfl aa hg h3 ?_ ?_ ?_ ?_ ?_)) ?_
  case refine_6=>
   rintro _ ⟨m,⟨n1,B⟩,rfl,⟨d,y,t⟩,z,x,w,v⟩;have ih:=λα=>aar c (s:=s) (iX:=iX) (fin:=fin) r (i+1) (acc++tO us u s 0 u.tk.length) d α ⟨n1,B⟩ A aa (by rw[hf,Λ]) (by rw[τ];omega) y z;simp[go_sem,v,w1];refine ih _ ?_ ?_ ?_ ?_;all_goals simp[go_sem,x,w,t]
  all_goals simp[go_sem,a0,a3,a5,a6]
  all_goals(try rfl)
def go_sp:∀l:List Sp,AV.aq.go (l.map iW)=true
 |[]=>rfl
 |x::l=>by show((iW x).aq&&AV.aq.go (l.map iW))=true;rw[go_sp l];rfl
def akY{us}(b:gl us)(s):aK prog (run gJ) 24 [fZ us,.agg [.str s.1,.i s.2]]=some (.vec (aD (oU us s us).length) ((oU us s us).map iW)):=by
 refine eX (c:=.seq _ (.seq _ (.seq (.seq _ (.block 0 (.loop Hd))) _))) rfl rfl func24 rfl (by rw[ntmps24];simp) (bE:=[fZ us,.agg [.str s.1,.i s.2]]) (by simp[FA];rfl) ?_ ?_ (jO (go_sp _))
 ·show((fZ us).aq&&_)=true;rw[CZ];rfl
 have a:∀H,eQ (.agg [.str s.1,.i s.2]) H=some (.ptr H.next 0,H.push (.z [.str s.1,.i s.2])):=λH=>by simp[eQ,AV.width,AV.cells]
 have tB:=b.fT;simp[go_sem,ab.empty,fZ,a,jy];simp[bW];refine bz (dm (aar b (s:=s) (p3:=0) (iX:=none) (fin:=oU us s us) us 0 [] .nil _ _ rfl ah rfl aP (.inl ⟨rfl,rfl⟩) rfl ?_ ?_ ?_ ?_)) ?_
 case refine_5=>
  rintro _ ⟨ae,H',rfl,o',g,h5⟩;simp only[go_sem,seval,h5,results24];refine⟨_,rfl,?_⟩;simp[AV.erase,AV.bare,g.bare,aD]
 all_goals simp[go_sem,]
 all_goals(try rfl)
def NS:∀{l m:List Nat},l.Nodup->(∀a∈l,a∈m)->l.length<=m.length
 |[],m,c,h=>aFc _
 |a::l,m,c,h=>by
  rw[aF8] at c
  have d:=NS (l:=l) (m:=m.erase a) c.2 (λb hb=>by
   have:b≠a:=λe=>c.1 (e▸hb)
   exact(List.mem_erase_of_ne this).2 (h b (Κ _ hb)))
  have hm:=h a Ρ;rw[List.length_erase_of_mem hm] at d;have:=List.length_pos_of_mem hm;rw[Γ];omega
def sr(f:Nat->Nat):Nat->Nat->Nat
 |_,0=>0
 |t,d+1=>f t+sr f (t+1) d
def Ym(f g:Nat->Nat):∀d t,sr (λt=>f t+g t) t d=sr f t d+sr g t d
 |0,t=>rfl
 |d+1,t=>by simp[sr,Ym f g d (t+1)];omega
def WL:∀d t,sr (λ_=>0) t d=0
 |0,t=>rfl
 |d+1,t=>by simp[sr,WL d (t+1)]
def Yn(p:Nat->Bool):∀d t,sr (λt=>if p t=true then 1 else 0) t d=((List.range' t d).filter p).length
 |0,t=>rfl
 |d+1,t=>by rw[sr,Yn p d (t+1),List.range'_succ,aEU];cases p t<;>simp<;>omega
def yT(u:Un)(k:Nat)(b:Bi):List Nat:=b.at_::(u.mp.ms.filter λx=>decide (x.to=some k)).map (·.at_)
def WM(u)(k)(b)(t):Br u k b t=true↔t∈yT u k b:=by
 unfold Br yT DF;simp[List.any_eq_true,aEI,aFt];constructor
 ·grind
 ·grind
def afY{u:Un}(h:jb u){k}{b}(hb:u.mp.bs[k]? =some b):(yT u k b).Nodup/\∀t∈yT u k b,t<u.tk.length:=by
 have a:(yT u k b).Sublist (lJ u.mp):=by unfold yT lJ;have e:[b.at_].Sublist (u.mp.bs.map (·.at_)):=List.singleton_sublist.2 (aEI.2 ⟨b,Δ hb,rfl⟩);have c:((u.mp.ms.filter λx=>decide (x.to=some k)).map (·.at_)).Sublist (u.mp.ms.map (·.at_)):=List.Sublist.map _ List.filter_sublist;exact List.Sublist.append e c
 exact⟨h.nod.sublist a,λt d=>h.lt t (a.subset d)⟩
def agP{u:Un}(h:jb u){k}{b:Bi}(hb:u.mp.bs[k]? =some b):sr (λt=>if Br u k b t=true then 1 else 0) 0 u.tk.length=(yS u k).length:=by
 obtain⟨c,e⟩:=afY h hb;have d:(yT u k b).length=(yS u k).length:=by unfold yS;rw[Θ,(Ck _).length_eq];unfold yT kl qR;simp
 rw[Yn,<-d];refine Nat.le_antisymm (NS ?_ ?_) (NS c ?_)
 ·exact(List.nodup_range' ..).sublist List.filter_sublist
 ·intro t a;exact(WM u k b t).1 (aFt.1 a).2
 ·intro t a;refine aFt.2 ⟨?_,(WM u k b t).2 a⟩;rw[List.mem_range'_1];exact⟨aFc _,by have:=e t a;omega⟩
def aas(us)(u:Un)(s:List UInt8×Nat):∀d t,(tO us u s t d).length=sr (λt=>(rE us u s t 0 u.mp.bs).length) t d
 |0,t=>rfl
 |d+1,t=>by rw[tO,τ,aas us u s d (t+1)];rfl
def aat(us){u:Un}(h:jb u)(s:List UInt8×Nat):∀r k,u.mp.bs.drop k=r->sr (λt=>(rE us u s t k r).length) 0 u.tk.length=(u9 us u s k r).length
 |[],k,c=>by show sr (λ_=>0) 0 _=0;exact WL _ _
 |b::r,k,c=>by
  have hb:u.mp.bs[k]? =some b:=by have:=Ι (·[0]?) c;simpa using this
  have d:u.mp.bs.drop (k+1)=r:=by rw[<-List.drop_drop,c];rfl
  rw[u9,τ,<-(aat us h s r (k+1) d)];by_cases a:stands us u b=s
  ·rw[μ a,<-agP h hb,<-Ym];congr 1;funext t;rw[rE,τ,μ a];cases Br u k b t<;>rfl
  ·rw[κ a,Χ,aEF];congr 1;funext t;rw[rE,τ,κ a,Χ,aEF]
def VX{us}(s):∀r:List Un,(∀u∈r,jb u)->(oU us s r).length=(nC us s r).length
 |[],h=>rfl
 |u::r,h=>by rw[oU,nC,τ,τ,VX s r (λx a=>h x (Κ _ a)),aas,aat us (h u Ρ) s u.mp.bs 0 rfl]
end Go.Proofs.YtmehamiifalmaaaGreatDoor
namespace Go.Ab
open Go
section
variable {E:Env} {call:cu} {ops:Array Oper} {qh:az->ab->Bool} {fuel:Nat} {listed:Array Bool} {α:az} {H:ab}
def yt(i)(dst)(op){v}{H'}(hf:(Region.ready .any ops listed).find? (A0 E ops listed)=some i)(b:(ops[i]?).map (λo=>(o.dst,o.op,o.guard))=some (dst,op,none))(d:bh E mf op (ev α) H=some (v,H'))(e:ph E ops qh fuel (listed.setIfInBounds i true) (put α dst v) H'=true):ph E ops qh (fuel+1) listed α H=true:=by obtain⟨o,c,a⟩:=aEj.1 b;simp at a;obtain⟨rfl,rfl,h3⟩:=a;simp[ph,hf,c,h3,iI,d];exact e
def akZ(i j)(di dj)(oi oj){d e}{f a}(hf:(Region.ready .any ops listed).find? (A0 E ops listed)=none)(c:Region.ready .any ops listed=[i,j])(hi:(ops[i]?).map (λo=>(o.dst,o.op,o.guard))=some (di,oi,none))(h:(ops[j]?).map (λo=>(o.dst,o.op,o.guard))=some (dj,oj,none))
  (l:bh E mf oi (ev α) H=some (d,f)) (k:bh E mf oj (ev α) H=some (e,a)) (p:ph E ops qh fuel (listed.setIfInBounds i true) (put α di d) f=true) (m:ph E ops qh fuel (listed.setIfInBounds j true) (put α dj e) a=true):ph E ops qh (fuel+1) listed α H=true:=by
 obtain⟨o,n,b⟩:=aEj.1 hi;simp at b;obtain⟨rfl,rfl,h3⟩:=b;obtain⟨o',k1,k2⟩:=aEj.1 h;simp at k2;obtain⟨rfl,rfl,g⟩:=k2;rw[c] at hf;simp[ph,c,hf,List.isEmpty_cons,aEB,aFg,n,h3,k1,g,iI,l,k,p,m]
def Yo(b:Region.ready .any ops listed=[])(a:qh α H=true):ph E ops qh 0 listed α H=true:=by simp[ph,b,a,aFF]
def afZ{loop}(id)(a:E.dyn id=true)(b:E.any ops=true):aN E call loop (.region id ops true) α H=an (yp E ops α H) λr=>some (.normal,r.1,r.2):=by simp[aN,a,b,c_]
def yE(k)(dst)(op){v}{H'}(d:(ops[k]?).map (λo=>(o.dst,o.op,o.guard))=some (dst,op,none))(e:bh E call op (ev α) H=some (v,H')):gv E call ops (ops.toList.drop k) α H=gv E call ops (ops.toList.drop (k+1)) (put α dst v) H':=by
 obtain⟨o,b,a⟩:=aEj.1 d;simp at a;obtain⟨rfl,rfl,h3⟩:=a;have c:k<ops.toList.length:=by have:=(Α.1 b).1;simpa using this
 have f:ops.toList[k]=o:=by have:=(Α.1 b).2;simpa using this
 rw[Μ c,f];simp[gv,h3,iI,an,c_,e]
def aqc(k)(a:ops.size<=k):gv E call ops (ops.toList.drop k) α H=some (α,H):=by rw[List.drop_eq_nil_of_le (by simpa using a)];rfl
end
def Np:∀{l:List AV},(∀x∈l,dt x x=true)->il l l=true
 |[],_=>rfl
 |x::l,h=>by simp[il,h x Ρ,(Np (l:=l) λy a=>h y (Κ _ a))]
def vV(x:bB):Prop:=wJ x x=true
def uA(H:ab):Prop:=∀p∈H.jo,vV p.2
def EE{te}{cs}(h:∀x∈cs,dt x x=true):vV (.c te cs):=by simp[vV,wJ,Np h]
def Yp{n et s}{cs}(h:∀x∈cs,dt x x=true):vV (.row n et s cs):=by simp[vV,wJ,Np h]
def Vk:∀{l:List (Nat×bB)},(∀p∈l,vV p.2)->yK l l=true
 |[],_=>rfl
 |(i,x)::l,h=>by have a:=h (i,x) Ρ;unfold vV at a;simp[yK,a,(Vk (l:=l) λy b=>h y (Κ _ b))]
def afj{ops:Array Oper}{ds}{α}{H}(e:ops.toList.map (·.dst)=ds)(a:∀d,some d∈ds->dt (α d) (α d)=true)(b:uA H):Cw ops α H α H=true:=by
 unfold Cw;rw[Ω,Ω];refine⟨⟨aEi.2 λo c=> ?_,ah⟩,Vk b⟩;have hm:o.dst∈ds:=by rw[<-e];exact aEI.2 ⟨o,c,rfl⟩
 cases h:o.dst with
 |none=>rfl
 |some d=>rw[h] at hm;exact a d hm
def Yq:∀{l:List (Nat×bB)} {i:Nat} {y:bB} {p:Nat×bB},p∈aH l i y->p∈l\/p.2=y
 |[],i,y,p,h=>by cases h
 |(k,x)::r,i,y,p,h=>by
  simp[aH] at h;split at h
  ·rcases Υ.1 h with rfl|h
   ·exact .inr rfl
   ·exact .inl (Κ _ h)
  ·rcases Υ.1 h with rfl|h
   ·exact .inl Ρ
   ·exact(Yq h).imp_left (Κ _)
def uA.set{n}{L}(h:uA ⟨n,L⟩)(i){y}(c:vV y):uA ⟨n,aH L i y⟩:=λp b=>by
 rcases Yq b with a|a
 ·exact h p a
 ·rw[a];exact c
def uA.push{H:ab}(h:uA H){y}(c:vV y):uA (H.push y):=λp b=>by
 rcases Υ.1 b with rfl|a
 ·exact c
 ·exact h p a
def WN:∀(l:List (Nat×bB)) {i j:Nat} (x y:bB),i≠j->aH (aH l i x) j y=aH (aH l j y) i x
 |[],i,j,x,y,h=>rfl
 |(k,z)::r,i,j,x,y,h=>by
  by_cases a:k=i
  ·subst a;simp[aH,κ h]
  ·by_cases b:k=j
   ·subst b;simp[aH,κ a]
   ·simp[aH,κ a,κ b,WN r x y h]
end Go.Ab
namespace Go.Proofs.YtmehamiifalmaaaGreatDoor
open Go Go.Ab Go.Proofs.Tryz
set_option maxRecDepth 100000
set_option maxHeartbeats 8000000
def Rv:List FuncId:=[50,83,84,56,86]
def aCC:Array Oper->Bool:=λops=>ops.size==8&&(match ops[7]? with|some o=>(match o.op with| .store 69 _ _=>true|_=>false)|none=>false)
noncomputable def ek:Env:={P:=prog,G:=λf=>Rv.contains f,cl:=λf=>[50,56,86].contains f,fq:=λt=>t==69,dyn:=λi=>i==2,df:=λ_=>false,ext:=λ_ _ _=>none,any:=aCC}
def azm:okF ek 50=true:=af
def azn:okF ek 83=true:=af
def azo:okF ek 84=true:=af
def azp:okF ek 56=true:=af
def azq:okF ek 86=true:=af
def azr:ek.P=prog:=(rfl)
def azs:ek.fq=λt=>t==69:=(rfl)
attribute [go_sem] azr azs
def cW{f}(a:ek.cl f=true){args}{v}(h:aK prog (run ek) f args=some v)(H):bu ek f args H=some (v,H):=vo a h H
def aau:=gI ek 83 rfl rfl
noncomputable def TV:=f86.c.r.l.r.b.b
def ix6:dW prog 103 (.vec .ro [.i 6]) (.i 0)=some (.rptr [.i 6]):=rP I2 ez (λn:Int=>AV.i n) .ro (l:=[6]) (i:=0) rfl rfl
def azt(k:Nat):∃z:Int,aK prog (run ek) 86 [.vec .ro [.i 6],.i k]=some (.i z)/\decide (z≥0)=decide (k=6):=by
 suffices hh:∃v,aK prog (run ek) 86 [.vec .ro [.i 6],.i k]=some v/\∃z:Int,v=.i z/\decide (z≥0)=decide (k=6) by obtain⟨v,h,z,rfl,l⟩:=hh;exact⟨z,h,l⟩
 refine yl (c:=.seq _ (.seq (.seq _ (.block 0 (.loop TV))) _)) rfl rfl func86 rfl (by rw[ntmps86];simp) (bE:=[.vec .ro [.i 6],.i k]) rfl rfl ?_
 have f:∀α H,α 0=.vec .ro [.i 6]->α 1=.i k->α 7=.i 1->α 8=.i 0->aF (aL (aT ek TV) α H) λe d H'=>(e=.exit 0/\k≠6)\/(e=.ret/\k=6/\d 4=.i 0):=λα ⟨n,L⟩ a0 a1 a7 a8=>by
  have j:TV=.seq _ (.seq _ (.seq (.block _ (.seq _ (.seq _ _))) _)):=rfl;have b:((k:Int)==6)=decide (k=6):=dF k 6;rw[aJ,j];by_cases a:k=6
  ·rw[π a] at b;simp only[go_sem,seval,a0,a1,a7,a8,ix6,b];exact .inr ⟨aI,a,by simp[go_sem]⟩
  ·rw[ξ a] at b;simp[go_sem,a0,a1,a7,a8,ix6,b];rw[aJ];simp[go_sem,a7];exact .inl ⟨rfl,a⟩
 simp only[go_sem,seval,ab.empty];simp only[bW];refine bz (oW (f _ _ ?_ ?_ ?_ ?_)) ?_
 case refine_5=>
  rintro _ ⟨e,d,H',rfl,⟨rfl,a⟩|⟨rfl,a,g⟩⟩
  ·simp only[go_sem,seval,results86];exact⟨_,_,_,rfl,rfl, -1,rfl,by rw[ξ a];rfl⟩
  ·simp only[go_sem,seval,g,results86];exact⟨_,_,_,rfl,rfl,0,rfl,by rw[π a];rfl⟩
 all_goals simp[go_sem,]
 all_goals(try rfl)
def azu(k:Nat):aK prog (run ek) 56 [.vec .ro [.i 6],.i k]=some (.bool (decide (k=6))):=by obtain⟨z,a,b⟩:=azt k;refine qy (c:=.seq _ (.seq _ _)) rfl rfl func56 rfl (by rw[ntmps56];simp) (bE:=[.vec .ro [.i 6],.i k]) rfl rfl ?_ rfl rfl;simp[go_sem,ab.empty,(λH=>cW rfl a H),b,results56]
def aav(k:Nat)(H:ab):bu ek 56 [.vec .ro [.i 6],.i k] H=some (.bool (decide (k=6)),H):=cW rfl (azu k) H
def Ke(n):(aB n).length=6:=IV n
def TW:GT prog 69 71 6 72 aB aw true:=⟨pS,λ_=>rfl,sM,Ke,Ze,.inl rfl,λl=>by
 have:=FR (c:=aB) (s:=6) Ke l;rw[this]
 exact aEN λx _=>(uc x).symm,iL⟩
abbrev Hf:AV:=.fn (.func 84) [] [.ptr 1 0,.ptr 2 0]
structure mi(H:ab)(l:List Nd):Prop where
 aej:uA H
 k:H.get 1=some (.z [.vec .ro [.i 6]])
 o:∃te v,H.get 2=some (.c te [v])/\fO H 71 6 aB aw v l
def Ko(H H':ab):Prop:=H.next<=H'.next/\∀i te cs,i≠2->H.get i=some (.c te cs)->H'.get i=some (.c te cs)
def Ko.refl(H:ab):Ko H H:=⟨ν _,λ_ _ _ _ h=>h⟩
def Ko.trans{H H1 H2:ab}(h:Ko H H1)(g:Ko H1 H2):Ko H H2:=⟨atB h.1 g.1,λi te cs hi a=>g.2 i te cs hi (h.2 i te cs hi a)⟩
def Ko.push(H:ab)(y):Ko H (H.push y):=⟨aEg _,λi te cs _ hi=>by
 rw[ab.fL,κ (by have:=ab.ep hi;omega)];exact hi⟩
mutual
def I8(n):dt (aw n) (aw n)=true:=by
 match n with
 | .mk k f t w a ks=>have h:=OD ks;rw[uc,tc];simp[Nd.k,Nd.f,Nd.t,Nd.w,Nd.a,Nd.ks,dt,il,h];cases ks<;>rfl
def OD(l):il (br l) (br l)=true:=by
 match l with
 |[]=>rfl
 |n::r=>show(dt (aw n) (aw n)&&il (br r) (br r))=true;rw[I8 n,OD r];rfl
end
def EX(n):∀x∈aB n,dt x x=true:=by
 rw[tc];intro x a;simp at a;rcases a with rfl|rfl|rfl|rfl|rfl|rfl
 ·exact sX _ _
 ·exact sX _ _
 ·exact sX _ _
 ·exact Fj _
 ·exact sX _ _
 ·simp[dt,OD n.ks];cases n.ks<;>rfl
def WO(l:List Nd):∀x∈l.flatMap aB,dt x x=true:=λx a=>by obtain⟨n,_,h⟩:=List.mem_flatMap.1 a;exact EX n x h
def mi.push{H:ab}{l}(h:mi H l){y}(d:vV y):mi (H.push y) l:=by
 have a:∀i x,H.get i=some x->(H.push y).get i=some x:=λi x hi=>by rw[ab.fL,κ (by have:=ab.ep hi;omega)];exact hi
 obtain⟨te,v,b,c⟩:=h.o;exact⟨h.aej.push d,a _ _ h.k,te,v,a _ _ b,c.cj λi n cs hi=>a _ _ hi⟩
def fO.len{T:Type}{P}{t et s b}{c:T->List AV}{g:T->AV}{ag}(a:GT P t et s b c g ag){H}{v}{l:List T}(h:fO H et s c g v l):gB P #[t] [v]=some (.i l.length):=by rcases h with⟨rfl,rfl⟩|⟨x,rfl,rfl⟩|⟨h1,id,rfl,h3⟩<;>simp[gB,a.app.el]
def aqd(H):dZ prog 69 1 [(0,.agg [.i 0,.i 0,.i 0,.str [],.i 0,.vec .nil []])] H=some (.vec .full [aw dR],H):=vB pS (aw dR) rfl rfl aA H
noncomputable def va:=f84.c.r.l.r.t.o
def ak0{T:Type}(l:List T)(x y:T):(l++[x]).set l.length y=l++[y]:=by rw[aGp _ _ (ν _),aFI];rfl
abbrev avv:Op:=.buildSlice 69 1 #[(0,.const (.agg #[.i 0,.i 0,.i 0,.string ⟨#[]⟩,.i 0,.slice none 0 0]))]
def azv{α}{H H1 H2 TX b}{x9 og oT pF qu xV}
  (s0:bh ek mf (.load 69 (.tmp 2)) (ev α) H=some (x9,H))
  (n:bh ek mf (.load 71 (.tmp 3)) (ev (put α (some 9) x9)) H=some (og,H))
  (m:bh ek mf (.call ⟨.builtin .len,#[.tmp 9],#[69]⟩) (ev (put (put α (some 9) x9) (some 10) og)) H=some (oT,H))
  (j:bh ek mf avv (ev (put (put (put α (some 9) x9) (some 10) og) (some 11) oT)) H=some (pF,H))
  (k:bh ek mf (.call ⟨.builtin .append,#[.tmp 9,.tmp 12],#[69,69]⟩) (ev (put (put (put (put α (some 9) x9) (some 10) og) (some 11) oT) (some 12) pF)) H=some (qu,H1))
  (l:bh ek mf (.indexAddr 69 (.tmp 13) (.tmp 11)) (ev (put (put (put (put (put α (some 9) x9) (some 10) og) (some 11) oT) (some 12) pF) (some 13) qu)) H1=some (xV,H1))
  (h:bh ek mf (.store 71 (.tmp 14) (.tmp 10)) (ev (put (put (put (put (put (put α (some 9) x9) (some 10) og) (some 11) oT) (some 12) pF) (some 13) qu) (some 14) xV)) H1=some (gz,H2))
  (i:bh ek mf (.store 69 (.tmp 2) (.tmp 13)) (ev (put (put (put (put (put (put α (some 9) x9) (some 10) og) (some 11) oT) (some 12) pF) (some 13) qu) (some 14) xV)) H2=some (gz,b))
  (f:bh ek mf (.store 69 (.tmp 2) (.tmp 13)) (ev (put (put (put (put (put (put α (some 9) x9) (some 10) og) (some 11) oT) (some 12) pF) (some 13) qu) (some 14) xV)) H1=some (gz,TX))
  (g:bh ek mf (.store 71 (.tmp 14) (.tmp 10)) (ev (put (put (put (put (put (put α (some 9) x9) (some 10) og) (some 11) oT) (some 12) pF) (some 13) qu) (some 14) xV)) TX=some (gz,b))
  (h9:dt x9 x9=true) (k7:dt og og=true) (mu:dt oT oT=true) (nY:dt pF pF=true) (Mg:dt qu qu=true) (h14:dt xV xV=true) (q:uA b):
  ∃r,aN ek (run ek) aL (.region 2 va.toArray true) α H=some r/\∃p,r=(.normal,p,b):=by
 obtain⟨a,e⟩:∃a,a=put (put (put (put (put (put α (some 9) x9) (some 10) og) (some 11) oT) (some 12) pF) (some 13) qu) (some 14) xV:=⟨_,rfl⟩;have s:gv ek mf va.toArray va.toArray.toList α H=some (a,b):=by show gv ek mf va.toArray (va.toArray.toList.drop 0) α H=_;rw[e];exact(yE 0 _ _ af s0).trans ((yE 1 _ _ af n).trans ((yE 2 _ _ af m).trans ((yE 3 _ _ af j).trans ((yE 4 _ _ af k).trans ((yE 5 _ _ af l).trans ((yE 6 none _ af h).trans ((yE 7 none _ af i).trans (aqc 8 (Nat.le_of_eq af)))))))))
 have o:Cw va.toArray a b a b=true:=by
  have c:∀d∈[9,10,11,12,13,14],dt (a d) (a d)=true:=by intro d c;simp only[Υ,List.not_mem_nil,or_false] at c;rw[e];rcases c with rfl|rfl|rfl|rfl|rfl|rfl<;>simp only[put,Nat.reduceEqDiff,aEl,ap1]<;>assumption
  exact afj (ds:=[some 9,some 10,some 11,some 12,some 13,some 14,none,none]) af (λd hm=>c d (by
   simp only[Υ,List.not_mem_nil,or_false,Ζ,reduceCtorEq] at hm⊢
   exact hm)) q
 have hb:ph ek va.toArray (Cw va.toArray a b) 8 #[false,false,false,false,false,false,false,false] α H=true:=by
  refine yt 0 (some 9) _ af af s0 ?_;refine yt (listed:=#[true,false,false,false,false,false,false,false]) 1 (some 10) _ af af n ?_;refine yt (listed:=#[true,true,false,false,false,false,false,false]) 2 (some 11) _ af af m ?_;refine yt (listed:=#[true,true,true,false,false,false,false,false]) 3 (some 12) _ af af j ?_;refine yt (listed:=#[true,true,true,true,false,false,false,false]) 4 (some 13) _ af af k ?_;refine yt (listed:=#[true,true,true,true,true,false,false,false]) 5 (some 14) _ af af l ?_;refine akZ (listed:=#[true,true,true,true,true,true,false,false]) 6 7 none none _ _ af af af af h f ?_ ?_
  ·refine yt (listed:=#[true,true,true,true,true,true,true,false]) 7 none _ af af i ?_;refine Yo (listed:=#[true,true,true,true,true,true,true,true]) af ?_;rw[<-e];exact o
  ·refine yt (listed:=#[true,true,true,true,true,true,false,true]) 6 none _ af af g ?_;refine Yo (listed:=#[true,true,true,true,true,true,true,true]) af ?_;rw[<-e];exact o
 refine⟨_,?_,a,rfl⟩;rw[afZ 2 rfl af];unfold yp;rw[s];simp only;rw[show va.toArray.size=8 from af,show Array.replicate 8 false=#[false,false,false,false,false,false,false,false] from rfl,hb];rfl
def azw(n:Nd){H:ab}{l:List Nd}(h:mi H l)(hl:l.length<=1000000):∃H',run ek 84 [aw n,.ptr 1 0,.ptr 2 0] H=some (.bool true,H')/\mi H' (l++if n.k=6 then[n] else[])/\Ko H H':=by
 suffices hh:∃q,run ek 84 [aw n,.ptr 1 0,.ptr 2 0] H=some q/\∃H',q=(.bool true,H')/\mi H' (l++if n.k=6 then[n] else[])/\Ko H H' by obtain⟨q,hr,H',rfl,q'⟩:=hh;exact⟨H',hr,q'⟩
 refine fM (c:=.seq _ (.seq (.seq _ (.cond _ (.region 2 va.toArray true) _)) (.seq _ _))) rfl rfl func84 rfl (by rw[ntmps84];simp) ?_;obtain⟨m,L⟩:=H;have u:=h.push (EE (te:=none) (EX n));have Z:=Ko.push ⟨m,L⟩ (.z (aB n));obtain⟨te,v,S,N⟩:=u.o;obtain⟨z1,g1⟩:=ai.1 u.k;obtain⟨z2,g2⟩:=ai.1 S;have m1:¬m=1:=by rintro rfl;have:=ab.ep h.k;exact absurd this (aEu _)
 have R:¬m=2:=by rintro rfl;obtain⟨te,v,q,_⟩:=h.o;have:=ab.ep q;exact absurd this (aEu _)
 have S_:cg L 1=some (.z [.vec .ro [.i 6]]):=by simpa only[ab.push,bo,κ m1] using g1
 have J:cg L 2=some (.c te [v]):=by simpa only[ab.push,bo,κ R] using g2
 have c1:=aC S_;have T:(1<m+1)=True:=ο z1;have y2:(2<m+1)=True:=ο z2;have B:=bf (m<m+1);have n1:(m=1)=False:=aGw m1;have n2:(m=2)=False:=aGw R;by_cases y:n.k=6
 ·have M:=π y;rw[μ y];obtain⟨id,⟨m',b⟩,a1,a2,a3,a4⟩:=WG (m:=λt=>t==69) TW rfl N (Fc TW _ .full [dR]) (.inl ⟨_,_,rfl⟩) ah aP aP;have wk:(l++[dR]).length=l.length+1:=ah;rw[wk] at a1 a2 a4;have uZ:cH (λt=>t==69) prog 69 69 v (.vec .full [aw dR]) ⟨m+1,(m,.z (aB n))::L⟩=some (.sl id 6 0 (l.length+1),⟨m',b⟩):=a1;obtain⟨zi,f⟩:=ai.1 a2;have yi:=ο zi;have K:=Rj (c:=aB) (s:=6) Ke (l:=l++[dR]) (i:=l.length) ah n;rw[ak0] at K;have X:(6*l.length+6<=((l++[dR]).flatMap aB).length)=True:=ο (by rw[wZ Ke,wk];omega);obtain⟨V,a⟩:=ai.1 (a3.cells S);have d:∀{i:Nat} {te:Option TypeId} {cs:List AV},cg b i=some (.c te cs)->¬id=i:=by rintro i te cs hi rfl;rw[f] at hi;cases hi
  have E:(id=2)=False:=aGw (d a);have O:(2=id)=False:=aGw (λe=>d a e.symm);have W:=ο V
  have F:uA ⟨m',b⟩:=λp Te=>by
   rcases a4 p Te with j|j
   ·exact u.aej p j
   ·rw[j];exact Yp (WO _)
  have w:uA ⟨m',aH (aH b id (.row (l.length+1) 71 6 ((l++[n]).flatMap aB))) 2 (.c te [.sl id 6 0 (l.length+1)])⟩:=(F.set id (Yp (WO _))).set 2 (EE (λx A=>by rw[aE8] at A;subst A;simp[dt]))
  have D:dt v v=true:=by
   rcases N with⟨rfl,rfl⟩|⟨x,rfl,rfl⟩|⟨j,id,rfl,h3⟩
   ·rfl
   ·simp[dt,il,I8,yv]
   ·simp[dt]
  have m_:∀H,td prog #[69] [v] H=some (.i l.length,H):=λH=>by rcases N with⟨rfl,rfl⟩|⟨x,rfl,rfl⟩|⟨j,id,rfl,h3⟩<;>simp[td,gB,uo,an]
  have iU:mX (Value.agg #[Value.int IntKind.i64 0,Value.int IntKind.i64 0,Value.int IntKind.i64 0,Value.string {data:=#[]},Value.int IntKind.i64 0,Value.slice none 0 0])=.agg [.i 0,.i 0,.i 0,.str [],.i 0,.vec .nil []]:=rfl;have L8:(AV.sl id 6 0 (l.length+1)).width=some 1:=rfl;have L9:(AV.sl id 6 0 (l.length+1)).cells=[.sl id 6 0 (l.length+1)]:=rfl;have Q:eg [v] 0 [.sl id 6 0 (l.length+1)]=[.sl id 6 0 (l.length+1)]:=rfl;have g:eo [.sl id 6 0 (l.length+1)]=true:=rfl;have C:eF (aH b id (.row (l.length+1) 71 6 ((l++[n]).flatMap aB))) 2=some [v]:=by unfold eF;rw[aR,κ (d a),a]
  have I:eF (aH b 2 (.c te [.sl id 6 0 (l.length+1)])) id=some ((l++[dR]).flatMap aB):=by unfold eF;rw[aR,κ (λe=>d a e.symm),f]
  have G:∀α:az,α 2=.ptr 2 0->α 3=.ptr m 0->∃r,aT ek (.region 2 va.toArray true) α ⟨m+1,(m,.z (aB n))::L⟩=some r/\∃Y,r=(.normal,Y,(⟨m',aH (aH b id (.row (l.length+1) 71 6 ((l++[n]).flatMap aB))) 2 (.c te [.sl id 6 0 (l.length+1)])⟩:ab)):=λα b2 b3=>by
   refine azv (x9:=v) (og:=.agg (aB n)) (oT:=.i l.length) (pF:=.vec .full [aw dR]) (qu:=.sl id 6 0 (l.length+1)) (xV:=.ptr id (6*l.length)) (H1:=⟨m',b⟩) (H2:=⟨m',aH b id (.row (l.length+1) 71 6 ((l++[n]).flatMap aB))⟩) (TX:=⟨m',aH b 2 (.c te [.sl id 6 0 (l.length+1)])⟩) ?_ ?_ ?_ ?_ ?_ ?_ ?_ ?_ ?_ ?_ D (by rw[<-uc];exact I8 n) (sX _ _) (by simp[dt,il,I8,yv]) (by simp[dt]) (by simp[dt]) w
   ·simp only[go_sem,seval,b2,aC J,y2,n2]
   ·simp only[go_sem,seval,b3,B]
   ·simp only[go_sem,seval,m_]
   ·simp only[go_sem,seval,aqd,iU]
   ·simp only[go_sem,seval,cG,uZ]
   ·simp only[go_sem,seval,(FT (P:=prog) uo rO aA (id:=id) (show l.length<l.length+1 by omega))]
   ·simp only[go_sem,seval,vg f,yi,X,K,f,Ap]
   ·simp only[go_sem,seval,b2,C,W,a,E,aR,L8,L9,Q,g]
   ·simp only[go_sem,seval,b2,aC a,W,a,L8,L9,Q,g]
   ·simp only[go_sem,seval,I,yi,X,K,f,Ap,O,aR,WN b (.row (l.length+1) 71 6 ((l++[n]).flatMap aB)) (.c te [.sl id 6 0 (l.length+1)]) (d a)]
  simp only[go_sem,seval,AE,c1,T,B,n1,rZ,aav,M];refine bz (G _ ?_ ?_) ?_
  case refine_3=>
   rintro _ ⟨Y,rfl⟩;simp only[go_sem,seval,results84];obtain⟨zk,U⟩:=ai.1 (a3.cells u.k);refine⟨_,rfl,_,rfl,⟨w,?_,te,.sl id 6 0 (l.length+1),?_,.inr (.inr ⟨ah,id,ah,?_⟩)⟩,Z.trans ⟨a3.1,λi uM cs hi A=> ?_⟩⟩
   ·exact ai.2 ⟨zk,by rw[aR,κ aA,aR,κ (d U)];exact U⟩
   ·exact ai.2 ⟨V,by rw[aR,μ rfl,aR,κ (d a),a];rfl⟩
   ·exact ai.2 ⟨zi,by rw[aR,κ (λe=>d a e.symm),aR,μ rfl,f];simp⟩
   ·obtain⟨zx,gx⟩:=ai.1 (a3.cells A);exact ai.2 ⟨zx,by rw[aR,κ (λe=>hi e.symm),aR,κ (d gx)];exact gx⟩
  all_goals(try simp only[go_sem,seval,])
  all_goals(try rfl)
 ·have M:=ξ y;rw[κ y,Η];simp only[go_sem,seval,AE,c1,T,B,n1,rZ,aav,M,results84];exact⟨_,rfl,_,rfl,u,Z⟩
def aqe(n:Nd){H}{l:List Nd}(h:mi H l)(b:l.length<=1000000):∃H',dD ek (run ek) Hf [aw n] H=some (.bool true,H')/\mi H' (l++if n.k=6 then[n] else[])/\Ko H H':=by
 obtain⟨H',a,c⟩:=azw n h b;refine⟨H',?_,c⟩
 have:dD ek (run ek) Hf [aw n] H=run ek 84 [aw n,.ptr 1 0,.ptr 2 0] H:=by
  simp[dD,target]
  rw[κ (show ¬ek.cl 84=true from λe=>by
   have:ek.cl 84=false:=af
   rw[this] at e;cases e)]
  rfl
 rw[this];exact a
noncomputable def Ms:=f83.c.r.r.r.b.b
def TY(x:Nd):Prop:=∀H l,mi H l->l.length+(eT x).length<=1000000->∃H',run ek 83 [aw x,Hf] H=some (.tup [],H')/\mi H' (l++eT x)/\Ko H H'
def abX{ks:List Nd}{o}(s:ks.length<=900000000000000000)(ih:∀x∈ks,TY x):∀r i l α H,ks.drop i=r->i+r.length=ks.length->mi H l->l.length+(pV r).length<=1000000->α 1=Hf->α 11=.vec o (br ks)->α 12=.i ks.length->α 13=.i i->
  aF (aL (aT ek Ms) α H) λe w H'=>e=.exit 0/\mi H' (l++pV r)/\Ko H H'
 |[],i,l,α,⟨m,L⟩,f,h,c,hb,a1,bY,a12,cq=>by have g:Ms=.seq _ (.seq _ (.seq (.block _ (.seq _ _)) _)):=rfl;have d:=dY (a:=i) (b:=ks.length) (by simp at h;omega);rw[aJ,g];simp only[go_sem,seval,a12,cq,d];exact⟨aI,by rw[ahN,Η];exact c,Ko.refl _⟩
 |x::r,i,l,α,⟨m,L⟩,f,h,c,hb,a1,bY,a12,cq=>by
  have g:Ms=.seq _ (.seq _ (.seq (.block _ (.seq _ _)) _)):=rfl;simp at h;have d:=ec (a:=i) (b:=ks.length) aa;have p:ks[i]? =some x:=by have:=Ι (·[0]?) f;simpa using this
  have u:ks.drop (i+1)=r:=by rw[<-List.drop_drop,f];rfl
  have v:=bf (m<m+1);have t:eg [AV.i 0,.i 0,.i 0,.str [],.i 0,.vec .nil []] 0 (aB x)=aB x:=vA x;rw[B_,τ] at hb;obtain⟨⟨m1,z⟩,n,B,A⟩:=ih x (Δ p) _ l (c.push (EE (te:=some 71) (EX x))) aa;simp[ab.push] at n;have y:=λα=>abX (o:=o) s ih r (i+1) (l++eT x) α ⟨m1,z⟩ u aa B (by rw[τ];omega);rw[aJ,g];simp only[go_sem,seval,a1,bY,a12,cq,d,kD o p,(eN i aa),v,t,aau,n];refine aW (y _ ?_ ?_ ?_ ?_) ?_
  case refine_5=>
   rintro e w H' ⟨rfl,j,q⟩;rw[Λ,<-B_] at j;exact⟨rfl,j,(Ko.push ⟨m,L⟩ (.k 71 (aB x))).trans (A.trans q)⟩
  all_goals simp[go_sem,a1,bY,a12]
def abY:∀n,mx n<=900000000000000000->TY n
 | .mk k f t w a ks,h=>by
  have j:∀x∈ks,TY x:=λx D=>abY x (by
   rw[ew] at h;have:=qC D
   omega)
  rw[ew] at h;intro H l b hb;obtain⟨m,L⟩:=H;suffices hh:∃q,run ek 83 [aw (.mk k f t w a ks),Hf] ⟨m,L⟩=some q/\∃H',q=(.tup [],H')/\mi H' (l++eT (.mk k f t w a ks))/\Ko ⟨m,L⟩ H' by obtain⟨q,u,H',rfl,C⟩:=hh;exact⟨H',u,C⟩
  rw[wR] at hb⊢;rw[τ] at hb;obtain⟨⟨m1,y⟩,e,B,g⟩:=aqe (.mk k f t w a ks) (b.push (EE (te:=none) (EX (.mk k f t w a ks)))) aa;simp[ab.push] at e;have s:¬m=2:=by rintro rfl;obtain⟨te,v,q,_⟩:=b.o;exact absurd (ab.ep q) (aEu _)
  have A:ab.get ⟨m+1,(m,.z (aB (.mk k f t w a ks)))::L⟩ m=some (.z (aB (.mk k f t w a ks))):=ai.2 ⟨aa,by rw[bo,μ rfl]⟩;obtain⟨r,p⟩:=ai.1 (g.2 m none _ s A);have E:=bf (m<m+1);have h5:=oK (.mk k f t w a ks);simp only[Nd.ks] at h5;refine fM (c:=.seq _ (.seq (.seq _ (.cond _ _ _)) (.seq _ (.block 0 (.loop Ms))))) af rfl func83 rfl (by rw[ntmps83];simp) ?_;simp only[go_sem,seval,AE,E,e,ω,aC p,ο r,h5,bL];refine bz (dm (abX (o:=if ks.isEmpty then .nil else .ro) aa j ks 0 _ _ ⟨m1,y⟩ rfl aa B ?_ ?_ ?_ ?_ ?_)) ?_
  case refine_6=>
   rintro _ ⟨ae,H',rfl,d,i⟩;simp only[go_sem,seval,results83];refine⟨_,rfl,_,rfl,?_,(Ko.push ⟨m,L⟩ _).trans (g.trans i)⟩;rw[Λ] at d;exact d
  case refine_1=>
   show(l++if k=6 then[Nd.mk k f t w a ks] else[]).length+(pV ks).length<=1000000;rw[τ];omega
  all_goals simp[go_sem,]
  all_goals rfl
 termination_by n=>SizeOf.sizeOf n
mutual
def aaw(n):∀x∈e_ n,db x<=db n:=by
 match n with
 | .mk k f t w a ks=>
  intro x hx;rw[e_] at hx;rcases Υ.1 hx with rfl|h
  ·exact ν _
  ·have:=Yr ks x h;rw[s9];omega
def Yr(ks):∀x∈jQ ks,db x<=eS ks:=by
 match ks with
 |[]=>intro x hx;rw[jQ] at hx;cases hx
 |n::r=>
  intro x hx;rw[jQ] at hx;rcases aEo.1 hx with h|h
  ·have h1:=aaw n x h;have:=sN (l:=n::r) (n:=n) Ρ;omega
  ·have h1:=Yr r x h;have:eS r<=eS (n::r):=by simp[eS];omega
   omega
end
def abZ(P)(H)(k):∀l:List Nd,(∀x∈l,db x<=60)->dv (cA P H (k+300)) (l.map aw)=some (l.map aw)
 |[],_=>rfl
 |x::l,h=>by show an (cA P H (k+300) (aw x)) (λy=>an (dv (cA P H (k+300)) (l.map aw)) λb=>some (y::b))=_;rw[show k+300=(k+299)+1 from rfl,Ro P H x (k+299) (by have:=h x Ρ;omega),abZ P H k l (λy a=>h y (Κ _ a))];rfl
def azx(n)(hm:mx n<=900000000000000000)(d:db n<=60)(hb:(eT n).length<=4000):aK prog (run ek) 50 [aw n,.vec .ro [.i 6]]=some (.vec (aD (eT n).length) ((eT n).map aw)):=by
 refine ED (c:=.seq _ (.seq _ (.seq _ (.seq _ _)))) rfl rfl func50 rfl (by rw[ntmps50];simp) (bE:=[aw n,.vec .ro [.i 6]]) (by simp[pP];rfl) (by rw[yB];rfl) ?_
 have f:mi ⟨3,[(2,.k 69 [.vec .nil []]),(1,.z [.vec .ro [.i 6]]),(0,.z (aB n))]⟩ []:=⟨λp a=>by
  simp at a;rcases a with rfl|rfl|rfl
  ·rfl
  ·rfl
  ·exact EE (EX n),rfl,_,.vec .nil [],rfl,.inl ⟨rfl,rfl⟩⟩
 obtain⟨⟨m1,L1⟩,j,l,q3⟩:=abY n hm _ [] f aP;obtain⟨te,v,h,b⟩:=l.o;rw[Ο] at b;obtain⟨g,g2⟩:=ai.1 h;have e:∀H,eQ (.vec .ro [.i 6]) H=some (.ptr H.next 0,H.push (.z [.vec .ro [.i 6]])):=λH=>rfl;simp only[go_sem,seval,ab.empty,AE,e,jy,aau,j,aC g2,ο g,results50];refine⟨_,_,rfl,?_⟩;exact aab TW (λk=>abZ prog _ k _ (λx m=>atB (aaw n x (aFt.1 m).1) d)) b
def Rw:List FuncId:=[7,21,22,46,48,49,79,116,80,81,117,82,51,52,23]
def aqf:List FuncId:=[7,19,20,45,47,50,51,52]
noncomputable def aV:Env:={P:=prog,G:=λf=>Rw.contains f,cl:=λf=>aqf.contains f,fq:=λt=>t==28,dyn:=λi=>i==0||i==11,df:=λ_=>false,ext:=bG yQ (bG (aM dG [19,20,45,47]) (aM ek [50]))}
def aCE:okF aV 7=true:=af
def azy:okF aV 21=true:=af
def azz:okF aV 22=true:=af
def azA:okF aV 46=true:=af
def azB:okF aV 48=true:=af
def azC:okF aV 49=true:=af
def azD:okF aV 79=true:=af
def avw:okF aV 116=true:=af
def azE:okF aV 80=true:=af
def azF:okF aV 81=true:=af
def avx:okF aV 117=true:=af
def azG:okF aV 82=true:=af
def azH:okF aV 51=true:=af
def azI:okF aV 52=true:=af
def azJ:okF aV 23=true:=af
def azK:aV.P=prog:=(rfl)
def azL:aV.fq=λt=>t==28:=(rfl)
def aqg:aV.dyn 12=false:=(rfl)
attribute [go_sem] azK azL aqg
def cF{f}(a:aV.cl f=true){args}{v}(h:aK prog (run aV) f args=some v)(H):bu aV f args H=some (v,H):=vo a h H
def wS:=gI aV 46 rfl rfl
def aax:=gI aV 48 rfl rfl
def aay:=gI aV 49 rfl rfl
def aqh:=gI aV 79 rfl rfl
def aqi:=gI aV 81 rfl rfl
def ak1:=gI aV 116 rfl rfl
def ak2:=gI aV 117 rfl rfl
def aqj:=gI aV 21 rfl rfl
def aqk:=gI aV 22 rfl rfl
def aql:=gI aV 23 rfl rfl
def Ys{f}(h:f≠53)(args)(H):yQ f args H=none:=Pw h args H
def FY{f}(h:f≠53)(b:([50]:List FuncId).contains f=false)(args)(H):aV.ext f args H=aM dG [19,20,45,47] f args H:=by show bG yQ (bG (aM dG [19,20,45,47]) (aM ek [50])) f args H=_;rw[lS (λa H=>Ys h a H),za (eZ b)]
def avy(args)(H):aV.ext 50 args H=aM ek [50] 50 args H:=by show bG yQ (bG (aM dG [19,20,45,47]) (aM ek [50])) 50 args H=_;rw[lS (λa H=>Ys aA a H),lS (eZ rfl)]
end Go.Proofs.YtmehamiifalmaaaGreatDoor
namespace Go.Ab
open Go
def Cp{T:Type}{P}{t et}{s b}{c:T->List AV}{g:T->AV}{ag}{m}(f:GT P t et s b c g ag)(hm:m t=true){H H':ab}{v q}{l}{o}{x:T}(h:fO H et s c g v l)(d:cH m P t t v (.vec o [g x]) H=some (q,H')):
  (∃k n,q=.sl H.next k 0 n)/\∀i y,(∀a b c,v≠.sl i a b c)->H.get i=some y->H'.get i=some y:=by
 obtain⟨z,E,C⟩:=f.app.zero;have D:s≠0/\z.length=s:=⟨f.app.s0,C⟩;have w:jK m t v (.vec o [g x])=none:=by rcases h with⟨_,rfl⟩|⟨x,_,rfl⟩|⟨_,id,rfl,_⟩<;>simp[jK,hm]
 have B:nT P H s (.vec o [g x])=some (1,c x):=by have:=Fc f H o [x];simpa using this
 have r:cH m P t t v (.vec o [g x]) H=oV et s b v 1 (c x) H:=by simp only[cH,f.app.el,f.app.sz,f.app.fQ,E];rw[μ ⟨trivial,D⟩,w];simp[vk,B]
 rw[r] at d;have j:∀(p:bB) i y,H.get i=some y->(H.push p).get i=some y:=λp i y hi=>by rw[ab.fL,κ (by have:=ab.ep hi;omega)];exact hi
 rcases h with⟨rfl,rfl⟩|⟨x',rfl,rfl⟩|⟨h1,id,rfl,h3⟩
 ·simp only[oV] at d;rw[κ aA] at d;split at d
  ·cases d;exact⟨⟨_,_,rfl⟩,λi y _ hi=>j _ i y hi⟩
  ·cases d
 ·simp only[oV] at d;rw[κ aA] at d;split at d
  ·cases d;exact⟨⟨_,_,rfl⟩,λi y _ hi=>j _ i y hi⟩
  ·cases d
 ·simp only[oV,h3] at d;rw[κ aA] at d;split at d
  ·cases d;refine⟨⟨_,_,rfl⟩,λi y A hi=> ?_⟩;have u:id≠i:=by rintro rfl;exact A _ _ _ rfl
   have:=ab.ep hi;rw[ab.fL,κ (λe=>by have e':H.next=i:=e;omega),ab.Cx,κ u];exact hi
  ·cases d
end Go.Ab
namespace Go.Proofs.YtmehamiifalmaaaGreatDoor
open Go Go.Ab Go.Proofs.Tryz
set_option maxRecDepth 100000
set_option maxHeartbeats 8000000
def oh(us:List Un)(u:Un)(v:AV):List AV:=.rptr [.vec (aD us.length) (vU us)]::(cU u++[v])
def aCF(us:List Un)(u:Un)(v):(oh us u v)[0]? =some (.rptr [.vec (aD us.length) (vU us)]):=rfl
def aCG(us)(u:Un)(v):(oh us u v)[1]? =some (.str u.nm):=rfl
def aCH(us)(u:Un)(v):(oh us u v)[3]? =some (.vec (aD u.tk.length) (V u.tk)):=rfl
def azM(us)(u:Un)(v):(oh us u v)[10]? =some (.vec (aD u.mp.bs.length) (u.mp.bs.map bg)):=rfl
def azN(us)(u:Un)(v):(oh us u v)[11]? =some (.vec (aD u.mp.ms.length) (u.mp.ms.map ck)):=rfl
def azO(us)(u:Un)(v):(oh us u v)[15]? =some v:=rfl
def avz(us)(u:Un)(v):(oh us u v).length=16:=rfl
def azP(us)(u:Un)(v w):eg (oh us u v) 15 [w]=oh us u w:=rfl
def azQ(us)(u:Un)(v):List.take 3 (List.drop 10 (oh us u v))=[.vec (aD u.mp.bs.length) (u.mp.bs.map bg),.vec (aD u.mp.ms.length) (u.mp.ms.map ck),.vec (aD u.b1.length) (cO u.b1)]:=rfl
def azR(us)(u:Un)(v):List.take 6 (List.drop 4 (oh us u v))=aB u.tr:=by rw[tc];rfl
attribute [go_sem] aCF aCG aCH azM azN azO avz azP azQ azR
def kY(H:ab)(pf:Nat)(us:List Un)(u:Un)(acc:List Fi):Prop:=∃te v,H.get pf=some (.c te (oh us u v))/\fO H 35 3 jv dI v acc/\∀id a b c,v=.sl id a b c->pf<id
def Kx(pf:Nat)(H H':ab):Prop:=(H.next<=H'.next/\∀i x,i<pf->H.get i=some x->H'.get i=some x)/\∀i te cs,i≠pf->H.get i=some (.c te cs)->H'.get i=some (.c te cs)
def Kx.refl(pf)(H):Kx pf H H:=⟨⟨ν _,λ_ _ _ h=>h⟩,λ_ _ _ _ h=>h⟩
def Kx.trans{pf}{H H1 H2}(h:Kx pf H H1)(g:Kx pf H1 H2):Kx pf H H2:=⟨⟨atB h.1.1 g.1.1,λi x hi a=>g.1.2 i x hi (h.1.2 i x hi a)⟩,λi te cs hi a=>g.2 i te cs hi (h.2 i te cs hi a)⟩
def Kx.all{pf}{H H'}(h:eA H H'):Kx pf H H':=⟨⟨h.1,λi x _ a=>h.2 _ _ a⟩,λi te cs _ a=>h.2 _ _ a⟩
def kY.all{H H'}{pf}{us}{u}{acc}(h:kY H pf us u acc)(k:eA H H'):kY H' pf us u acc:=by obtain⟨te,v,a,b,h3⟩:=h;exact⟨te,v,k.2 _ _ a,b.cj λi n cs hi=>k.2 _ _ hi,h3⟩
def avA(x:Fi)(H:ab):dZ prog 28 1 [(0,.agg [.str x.1,.i x.2.1,.i x.2.2])] H=some (.vec .full [.agg [.str x.1,.i x.2.1,.i x.2.2]],H):=vB Z5 (.agg [.str x.1,.i x.2.1,.i x.2.2]) rfl rfl aA H
def azS(a b):eg [.str [],.i 0,.i 0] 0 [a,b]=[a,b,.i 0]:=rfl
noncomputable def TZ:=f46.c.o
def C0{us}{u:Un}{pf}{H}{acc:List Fi}(h:kY H pf us u acc){t:Nat}(O:t<u.tk.length)(k:Nat)(hl:acc.length<=100000000):∃H',run aV 46 [.ptr pf 0,.i t,.i k] H=some (.tup [],H')/\kY H' pf us u (acc++[(u.nm,ee u t,(k:Int))])/\Kx pf H H':=by
 suffices hh:∃q,run aV 46 [.ptr pf 0,.i t,.i k] H=some q/\∃H',q=(.tup [],H')/\kY H' pf us u (acc++[(u.nm,ee u t,(k:Int))])/\Kx pf H H' by obtain⟨q,U,H',rfl,q'⟩:=hh;exact⟨H',U,q'⟩
 obtain⟨n,L⟩:=H;obtain⟨te,v,C,E,o⟩:=h;obtain⟨z,g⟩:=ai.1 C;have c:=aC g;obtain⟨q,y⟩:=fo O;have I:ee u (t:Int)=(q.2.1:Int):=by simp[ee,aE5,y]
 rw[I];obtain⟨f,⟨F,N⟩,a1,a2,a3⟩:=Ox (m:=λt=>t==28) Mh rfl .full (u.nm,(q.2.1:Int),(k:Int)) E aa aa;have S:cH (λt=>t==28) prog 28 28 v (.vec .full [.agg [.str u.nm,.i q.2.1,.i k]]) ⟨n,L⟩=some (f,⟨F,N⟩):=a1;obtain⟨⟨k0,n0,p⟩,V⟩:=Cp (m:=λt=>t==28) Mh rfl E a1;have D:=avA (u.nm,(q.2.1:Int),(k:Int));simp only at D;obtain⟨w,l⟩:=ai.1 (a3.cells C);have J:f.width=some 1/\f.cells=[f]/\eo [f]=true:=by rcases a2 with⟨h,rfl⟩|⟨x,_,rfl⟩|⟨_,id,rfl,_⟩<;>exact⟨rfl,rfl,rfl⟩
 obtain⟨w1,Y,M⟩:=J;obtain⟨B,nB,K,W,G,Q,T,P,R,Z⟩:∃A,A=TZ.toArray/\behind A A.size 23 4=true/\behind A A.size 23 9=true/\behind A A.size 23 14=true/\behind A A.size 23 18=true/\behind A A.size 26 4=true/\behind A A.size 26 9=true/\behind A A.size 26 14=true/\behind A A.size 26 18=true:=⟨_,rfl,af,af,af,af,af,af,af,af⟩;have X:∀α H,aN aV (run aV) aL (.region 0 TZ.toArray true) α H=an (eY aV (run aV) B 0 [_,_,_,_,_,_,_,_,_,_,_,_,_,_,_,_,_,_,_,_,_,_,_,_,_,_,_] [] [] α H) λr=>some (.normal,r.1,r.2):=λα H=>by rw[nG _ _ rfl rfl,nB];exact rfl
 refine fM (c:=.region 0 TZ.toArray true) rfl rfl func46 rfl (by rw[ntmps46];simp) ?_;simp only[go_sem,seval,X,K,W,G,Q,T,P,R,Z,aEO,ο z,c,DE (aD u.tk.length) y,aQ,azS,D,cG,S,ο w,aC l,l,w1,Y,M,results46];refine⟨_,rfl,_,rfl,⟨te,f,ai.2 ⟨w,by rw[aR,μ rfl,l];rfl⟩,a2.cj λi m cs hi=> ?_,λid a b c e=> ?_⟩,⟨⟨a3.1,λi x hi s=> ?_⟩,λi uM cs hi s=> ?_⟩⟩
 ·obtain⟨j,d⟩:=ai.1 hi;exact ai.2 ⟨j,by rw[aR,κ (by rintro rfl;rw[l] at d;cases d)];exact d⟩
 ·rw[p] at e;cases e;exact z
 ·obtain⟨j,d⟩:=ai.1 (V i x (λa b c e=>by have:=o _ _ _ _ e;omega) s);exact ai.2 ⟨j,by rw[aR,bM];exact d⟩
 ·obtain⟨j,d⟩:=ai.1 (a3.cells s);exact ai.2 ⟨j,by rw[aR,κ (λe=>hi e.symm)];exact d⟩
def lK(i:Nat)(x:Me):Bool:=decide (x.to=some i)&& !x.wr
def WQ(b)(x)(H):dD aV (run aV) (.fn (.func 80) [] [.ptr b 0]) [x] H=run aV 80 [x,.ptr b 0] H:=by
 simp[dD,target]
 rw[κ (show ¬aV.cl 80=true from λe=>by
  have:aV.cl 80=false:=af
  rw[this] at e;cases e)]
 rfl
def WR(b)(x)(H):dD aV (run aV) (.fn (.func 82) [] [.ptr b 0]) [x] H=run aV 82 [x,.ptr b 0] H:=by
 simp[dD,target]
 rw[κ (show ¬aV.cl 82=true from λe=>by
  have:aV.cl 82=false:=af
  rw[this] at e;cases e)]
 rfl
def bxM(x:Me)(H:ab):eQ (.agg [.i x.at_,.i (dS x.to),.bool x.wr,.i x.bK]) H=some (.ptr H.next 0,H.push (.z [.i x.at_,.i (dS x.to),.bool x.wr,.i x.bK])):=by simp[eQ,AV.width,AV.cells]
def aek(x:Bi)(H:ab):eQ (.agg [.i x.at_,.i x.k,.str x.w,.i x.item]) H=some (.ptr H.next 0,H.push (.z [.i x.at_,.i x.k,.str x.w,.i x.item])):=by simp[eQ,AV.width,AV.cells]
def azT{b i:Nat}(x:Me){H:ab}{te:Option TypeId}(hb:H.get b=some (.c te [.i i])):∃H',run aV 80 [.agg [.i x.at_,.i (dS x.to),.bool x.wr,.i x.bK],.ptr b 0] H=some (.bool (lK i x),H')/\eA H H':=by
 suffices hh:∃q,run aV 80 [.agg [.i x.at_,.i (dS x.to),.bool x.wr,.i x.bK],.ptr b 0] H=some q/\∃H',q=(.bool (lK i x),H')/\eA H H' by obtain⟨q,j,H',rfl,k⟩:=hh;exact⟨H',j,k⟩
 obtain⟨n,L⟩:=H;obtain⟨z,g⟩:=ai.1 hb;have c:=aC g;have f:=bf (b<n+1);have e:=bf (n<n+1);have h:=dJ (n=b);have a:=Mi x.to i;have kp:=eA.push ⟨n,L⟩ (.z [.i x.at_,.i (dS x.to),.bool x.wr,.i x.bK]);have hm:lK i x=(decide (x.to=some i)&& !x.wr):=rfl;rw[hm];refine fM rfl rfl func80 rfl (by rw[ntmps80];simp) ?_
 cases d:decide (x.to=some i) with
 |false=>rw[d] at a;simp only[go_sem,seval,bxM,f,e,h,c,a,aGi,results80];exact⟨_,rfl,_,rfl,kp⟩
 |true=>rw[d] at a;simp only[go_sem,seval,bxM,f,e,h,c,a,aF6,results80];exact⟨_,rfl,_,rfl,kp⟩
noncomputable def KT:=f116.c.r.l.r.b.b
def aaz{ms:List Me}{o}{b i:Nat}(s:ms.length<=1000000){H0:ab}:∀r j α H,ms.drop j=r->j+r.length=ms.length->eA H0 H->(∃te,H.get b=some (.c te [.i i]))->α 0=.vec o (ms.map ck)->α 1=.fn (.func 80) [] [.ptr b 0]->α 7=.i ms.length->α 8=.i j->
  aF (aL (aT aV KT) α H) λe v H'=>eA H0 H'/\((e=.exit 0/\r.any (lK i)=false)\/(e=.ret/\r.any (lK i)=true/\∃k:Nat,v 4=.i k))
 |[],j,α,⟨n,L⟩,h,p,f,⟨te,hb⟩,a0,a1,a7,a8=>by have l:KT=.seq _ (.seq _ (.seq (.block _ (.seq _ (.seq _ _))) _)):=rfl;have d:=dY (a:=j) (b:=ms.length) (by simp at p;omega);rw[aJ,l];simp only[go_sem,seval,a7,a8,d];exact⟨f,ah⟩
 |x::r,j,α,⟨n,L⟩,h,p,f,⟨te,hb⟩,a0,a1,a7,a8=>by
  have l:KT=.seq _ (.seq _ (.seq (.block _ (.seq _ (.seq _ _))) _)):=rfl;simp at p;have d:=ec (a:=j) (b:=ms.length) aa;have y:ms[j]? =some x:=by have:=Ι (·[0]?) h;simpa using this
  have u:ms.drop (j+1)=r:=by rw[<-List.drop_drop,h];rfl
  have q:=aef o y;obtain⟨⟨n1,w⟩,g,m⟩:=azT (i:=i) x hb;have t:(x::r).any (lK i)=(lK i x||r.any (lK i)):=rfl;rw[aJ,l,t]
  cases hd:lK i x with
  |true=>rw[hd] at g;simp only[go_sem,seval,a0,a1,a7,a8,d,q,WQ,g];exact⟨f.trans m,.inr ⟨aI,ah,j,by simp[go_sem]⟩⟩
  |false=>
   rw[hd] at g;simp only[aFr];simp only[go_sem,seval,a0,a1,a7,a8,d,q,WQ,g,(eN j aa)];refine(λα=>aaz (o:=o) (i:=i) s (H0:=H0) r (j+1) α ⟨n1,w⟩ u aa (f.trans m) ⟨te,m.2 _ _ hb⟩) _ ?_ ?_ ?_ ?_;all_goals simp[go_sem,a0,a1,a7]
def avB{ms:List Me}{o}{b i:Nat}(d:ms.length<=1000000){H:ab}{te:Option TypeId}(hb:H.get b=some (.c te [.i i])):∃(H':ab) (z:Int),run aV 116 [.vec o (ms.map ck),.fn (.func 80) [] [.ptr b 0]] H=some (.i z,H')/\decide (z≥0)=ms.any (lK i)/\eA H H':=by
 suffices hh:∃q,run aV 116 [.vec o (ms.map ck),.fn (.func 80) [] [.ptr b 0]] H=some q/\∃(H':ab) (z:Int),q=(.i z,H')/\decide (z≥0)=ms.any (lK i)/\eA H H' by obtain⟨q,g,H',z,rfl,h⟩:=hh;exact⟨H',z,g,h⟩
 have j:(ms.map ck).length=ms.length:=Θ ..;refine fM (c:=.seq _ (.seq (.seq _ (.block 0 (.loop KT))) _)) rfl rfl func116 rfl (by rw[ntmps116];simp) ?_;simp only[go_sem,seval,j];simp only[bW];refine bz (oW (aaz (o:=o) (b:=b) (i:=i) d (H0:=H) ms 0 _ H rfl ah (eA.refl _) ⟨te,hb⟩ ?_ ?_ ?_ ?_)) ?_
 case refine_5=>
  rintro _ ⟨e,ae,H',rfl,k1,⟨rfl,a⟩|⟨rfl,a,k,f⟩⟩
  ·simp only[go_sem,seval,results116];exact⟨_,rfl,_, -1,rfl,by rw[a];rfl,k1⟩
  ·simp only[go_sem,seval,f,results116];exact⟨_,rfl,_,k,rfl,by rw[a];exact bH _,k1⟩
 all_goals simp[go_sem,]
 all_goals(try rfl)
def avC{us}{u:Un}{pf}{H}{acc:List Fi}(h:kY H pf us u acc)(hg:jb u)(i:Nat):∃H',run aV 48 [.ptr pf 0,.i i] H=some (.bool (u.mp.ms.any (lK i)),H')/\eA H H':=by
 suffices hh:∃q,run aV 48 [.ptr pf 0,.i i] H=some q/\∃H',q=(.bool (u.mp.ms.any (lK i)),H')/\eA H H' by obtain⟨q,d,H',rfl,j⟩:=hh;exact⟨H',d,j⟩
 obtain⟨n,L⟩:=H;obtain⟨te,v,c,hv⟩:=h;obtain⟨z,g⟩:=ai.1 c;have y:=bf (pf<n+1);have np:=dJ (n=pf);have hb:ab.get ⟨n+1,(n,.z [.i i])::L⟩ n=some (.z [.i i]):=ai.2 ⟨aa,by rw[bo,μ rfl]⟩;obtain⟨H1,z1,b,f,e⟩:=avB (ms:=u.mp.ms) (o:=aD u.mp.ms.length) (by have:=hg.fT;omega) hb;have a:run aV 79 [.vec (aD u.mp.ms.length) (u.mp.ms.map ck),.fn (.func 80) [] [.ptr n 0]] ⟨n+1,(n,.z [.i i])::L⟩=some (.bool (u.mp.ms.any (lK i)),H1):=by refine ow rfl rfl func79 rfl (by rw[ntmps79];simp) ?_;simp[go_sem,ak1,b,f,results79]
 refine fM rfl rfl func48 rfl (by rw[ntmps48];simp) ?_;simp only[go_sem,seval,y,np,aC g,aqh,a,results48];exact⟨_,rfl,_,rfl,(eA.push ⟨n,L⟩ (.z [.i i])).trans e⟩
def nD(w:List UInt8)(x:Bi):Bool:=decide (x.k<=2)&&(x.w==w)
def azU{b}{w}(x:Bi){H:ab}{te}(hb:H.get b=some (.c te [.str w])):∃H',run aV 82 [.agg [.i x.at_,.i x.k,.str x.w,.i x.item],.ptr b 0] H=some (.bool (nD w x),H')/\eA H H':=by
 suffices hh:∃q,run aV 82 [.agg [.i x.at_,.i x.k,.str x.w,.i x.item],.ptr b 0] H=some q/\∃H',q=(.bool (nD w x),H')/\eA H H' by obtain⟨q,f,H',rfl,j⟩:=hh;exact⟨H',f,j⟩
 obtain⟨n,L⟩:=H;obtain⟨z,g⟩:=ai.1 hb;have l:=bf (b<n+1);have e:=bf (n<n+1);have m:=dJ (n=b)
 have a:decide ((x.k:Int)<=2)=decide (x.k<=2):=by
  by_cases h:x.k<=2
  ·rw[π h];exact bH _
  ·rw[ξ h];exact bU _
 have kp:=eA.push ⟨n,L⟩ (.z [.i x.at_,.i x.k,.str x.w,.i x.item]);have hm:nD w x=(decide (x.k<=2)&&(x.w==w)):=rfl;rw[hm];refine fM rfl rfl func82 rfl (by rw[ntmps82];simp) ?_
 cases d:decide (x.k<=2) with
 |false=>rw[d] at a;simp only[go_sem,seval,aek,e,a,aGi,results82];exact⟨_,rfl,_,rfl,kp⟩
 |true=>rw[d] at a;simp only[go_sem,seval,aek,l,e,m,aC g,a,aF6,results82];exact⟨_,rfl,_,rfl,kp⟩
noncomputable def KU:=f117.c.r.l.r.b.b
def aaA{bs:List Bi}{o}{b}{w}(s:bs.length<=1000000){H0}:∀r j α H,bs.drop j=r->j+r.length=bs.length->eA H0 H->(∃te,H.get b=some (.c te [.str w]))->α 0=.vec o (bs.map bg)->α 1=.fn (.func 82) [] [.ptr b 0]->α 7=.i bs.length->α 8=.i j->
  aF (aL (aT aV KU) α H) λe v H'=>eA H0 H'/\((e=.exit 0/\r.any (nD w)=false)\/(e=.ret/\r.any (nD w)=true/\∃k:Nat,v 4=.i k))
 |[],j,α,⟨n,L⟩,h,p,f,⟨te,hb⟩,a0,a1,a7,a8=>by have l:KU=.seq _ (.seq _ (.seq (.block _ (.seq _ (.seq _ _))) _)):=rfl;have d:=dY (a:=j) (b:=bs.length) (by simp at p;omega);rw[aJ,l];simp only[go_sem,seval,a7,a8,d];exact⟨f,ah⟩
 |x::r,j,α,⟨n,L⟩,h,p,f,⟨te,hb⟩,a0,a1,a7,a8=>by
  have l:KU=.seq _ (.seq _ (.seq (.block _ (.seq _ (.seq _ _))) _)):=rfl;simp at p;have d:=ec (a:=j) (b:=bs.length) aa;have z:bs[j]? =some x:=by have:=Ι (·[0]?) h;simpa using this
  have u:bs.drop (j+1)=r:=by rw[<-List.drop_drop,h];rfl
  have q:=Di o z;obtain⟨⟨n1,y⟩,g,m⟩:=azU x hb;have t:(x::r).any (nD w)=(nD w x||r.any (nD w)):=rfl;rw[aJ,l,t]
  cases hd:nD w x with
  |true=>rw[hd] at g;simp only[go_sem,seval,a0,a1,a7,a8,d,q,WR,g];exact⟨f.trans m,.inr ⟨aI,ah,j,by simp[go_sem]⟩⟩
  |false=>
   rw[hd] at g;simp only[aFr];simp only[go_sem,seval,a0,a1,a7,a8,d,q,WR,g,(eN j aa)];refine(λα=>aaA (o:=o) (w:=w) s (H0:=H0) r (j+1) α ⟨n1,y⟩ u aa (f.trans m) ⟨te,m.2 _ _ hb⟩) _ ?_ ?_ ?_ ?_;all_goals simp[go_sem,a0,a1,a7]
def avD{bs:List Bi}{o}{b}{w}(d:bs.length<=1000000){H:ab}{te}(hb:H.get b=some (.c te [.str w])):∃(H':ab) (z:Int),run aV 117 [.vec o (bs.map bg),.fn (.func 82) [] [.ptr b 0]] H=some (.i z,H')/\decide (z≥0)=bs.any (nD w)/\eA H H':=by
 suffices hh:∃q,run aV 117 [.vec o (bs.map bg),.fn (.func 82) [] [.ptr b 0]] H=some q/\∃(H':ab) (z:Int),q=(.i z,H')/\decide (z≥0)=bs.any (nD w)/\eA H H' by obtain⟨q,h,H',z,rfl,j⟩:=hh;exact⟨H',z,h,j⟩
 have g:(bs.map bg).length=bs.length:=Θ ..;refine fM (c:=.seq _ (.seq (.seq _ (.block 0 (.loop KU))) _)) rfl rfl func117 rfl (by rw[ntmps117];simp) ?_;simp only[go_sem,seval,g];simp only[bW];refine bz (oW (aaA (o:=o) (b:=b) (w:=w) d (H0:=H) bs 0 _ H rfl ah (eA.refl _) ⟨te,hb⟩ ?_ ?_ ?_ ?_)) ?_
 case refine_5=>
  rintro _ ⟨e,ae,H',rfl,k1,⟨rfl,a⟩|⟨rfl,a,k,f⟩⟩
  ·simp only[go_sem,seval,results117];exact⟨_,rfl,_, -1,rfl,by rw[a];rfl,k1⟩
  ·simp only[go_sem,seval,f,results117];exact⟨_,rfl,_,k,rfl,by rw[a];exact bH _,k1⟩
 all_goals simp[go_sem,]
 all_goals(try rfl)
def aqm{us}{u:Un}{pf}{H}{acc}(h:kY H pf us u acc)(hg:jb u){i:Nat}{b:Bi}(hi:u.mp.bs[i]? =some b):∃H',run aV 49 [.ptr pf 0,.i i] H=some (.bool (u.mp.bs.any (nD b.w)),H')/\eA H H':=by
 suffices hh:∃q,run aV 49 [.ptr pf 0,.i i] H=some q/\∃H',q=(.bool (u.mp.bs.any (nD b.w)),H')/\eA H H' by obtain⟨q,d,H',rfl,p⟩:=hh;exact⟨H',d,p⟩
 obtain⟨n,L⟩:=H;obtain⟨te,v,f,hv⟩:=h;obtain⟨z,g⟩:=ai.1 f;have c:(pf<n)=True:=ο z;have y:=bf (pf<n+1);have j:=bf (n<n+1);have np:=dJ (n=pf);have hb:ab.get ⟨n+1,(n,.k 9 [.str b.w])::L⟩ n=some (.k 9 [.str b.w]):=ai.2 ⟨aa,by rw[bo,μ rfl]⟩;obtain⟨H1,z1,e,m,l⟩:=avD (bs:=u.mp.bs) (o:=aD u.mp.bs.length) (by have:=hg.fT;omega) hb;have a:run aV 81 [.vec (aD u.mp.bs.length) (u.mp.bs.map bg),.fn (.func 82) [] [.ptr n 0]] ⟨n+1,(n,.k 9 [.str b.w])::L⟩=some (.bool (u.mp.bs.any (nD b.w)),H1):=by refine ow rfl rfl func81 rfl (by rw[ntmps81];simp) ?_;simp[go_sem,ak2,e,m,results81]
 refine fM rfl rfl func49 rfl (by rw[ntmps49];simp) ?_;simp only[go_sem,seval,c,y,j,np,aC g,Di (aD u.mp.bs.length) hi,aqi,a,results49];exact⟨_,rfl,_,rfl,(eA.push ⟨n,L⟩ (.k 9 [.str b.w])).trans l⟩
end Go.Proofs.YtmehamiifalmaaaGreatDoor
namespace Go.Ab
open Go
end Go.Ab
namespace Go.Proofs.YtmehamiifalmaaaGreatDoor
open Go Go.Ab Go.Proofs.Tryz
set_option maxRecDepth 100000
set_option maxHeartbeats 8000000
def gQ:List UInt8:=[109,97,105,110]
def r9(u:Un)(i:Nat):Bool:=decide ((kl u.mp i).length>1)
def mo(us:List Un)(u:Un)(i:Nat)(b:Bi):List Fi:=
 if b.k=2 then(if(nC us (u.nm,b.at_) us).length=1/\¬(u.nm=gQ/\b.w=gQ) then[(u.nm,ee u (b.at_:Int),2)] else[])
 else if r9 u i=true then[] else[(u.nm,ee u (b.at_:Int),(b.k:Int))]
def mV(u:Un)(i:Nat)(b:Bi):List Fi:=if r9 u i=true/\3<=b.k/\u.mp.ms.any (lK i)=false then[(u.nm,ee u (b.at_:Int),5)] else[]
def qS(u:Un)(b:Bi):List Fi:=if 3<=b.k/\u.mp.bs.any (nD b.w)=true then[(u.nm,ee u (b.at_:Int),8)] else[]
noncomputable def vb:=f21.c.r.b.b
noncomputable def Gn:=vb.r.r.l.b.r.r.l
noncomputable def KW:=vb.r.r.l.b.r.r.r.l
noncomputable def KX:=vb.r.r.l.b.r.r.r.r
noncomputable def T0:=Gn.r.b.r.e.r.t.l.o
structure DG(us:List Un)(u:Un)(pf p3 i:Nat)(b:Bi)(acc:List Fi)(α:az)(H:ab):Prop where
 a0:α 0=.ptr pf 0
 a2:α 2=.i i
 a3:α 3=.ptr p3 0
 a4:α 4=.bool (r9 u i)
 bY:α 11=.vec (aD u.mp.bs.length) (u.mp.bs.map bg)
 a12:α 12=.i u.mp.bs.length
 cq:α 13=.i i
 fd:kY H pf us u acc
 h3:H.get p3=some (.k 102 [.i b.at_,.i b.k,.str b.w,.i b.item])
 ne:p3≠pf
section
variable {us:List Un} {u:Un} {pf p3 i:Nat} {b:Bi} {acc:List Fi}
def aqn(a:gl us)(w)(t:Nat)(H:ab):bu aV 47 [.rptr [.vec (aD us.length) (vU us)],.agg [.str w,.i t]] H=some (.vec (aD (nC us (w,t) us).length) ((zw (nC us (w,t) us)).map iW),H):=
 ja (fs:=[19,20,45,47]) rfl rfl (FY aA rfl) rfl (akV a (w,t)) (by simp[AV.erase,AV.bare,oq]) (jO (go_sp _)) H
def Kf(hg:jb u)(hb:u.mp.bs[i]? =some b):b.at_<u.tk.length:=hg.lt _ (aFx _ (aEI.2 ⟨b,Δ hb,rfl⟩))
def aCI(hg:jb u)(hb:u.mp.bs[i]? =some b)(hl:acc.length<=10000000){α}{H}(h:DG us u pf p3 i b acc α H):aF (aT aV KW α H) λe s H'=>e=.normal/\DG us u pf p3 i b (acc++mV u i b) s H'/\Kx pf H H':=by
 have v:KW=.seq _ (.cond _ _ _):=rfl;obtain⟨a0,a2,a3,a4,bY,a12,cq,fd,h3,ne⟩:=h;obtain⟨n,L⟩:=H;obtain⟨w,g3⟩:=ai.1 h3;have g:=aC g3;have f:=ο w
 have a:decide ((b.k:Int)≥3)=decide (3<=b.k):=by
  by_cases h:3<=b.k
  ·rw[π h];exact bH _
  ·rw[ξ h];exact bU _
 rw[v]
 cases hu:r9 u i with
 |false=>
  rw[hu] at a4;have hf:mV u i b=[]:=by unfold mV;rw[κ (by rw[hu];simp)]
  rw[hf,Η];simp only[go_sem,seval,a4];refine⟨aI,⟨?_,?_,?_,?_,?_,?_,?_,fd,h3,ne⟩,Kx.refl _ _⟩;all_goals simp[go_sem,a0,a2,a3,a4,bY,a12,cq,hu]
 |true=>
  rw[hu] at a4
  cases hk:decide (3<=b.k) with
  |false=>
   rw[hk] at a;have hf:mV u i b=[]:=by unfold mV;rw[κ (λh=>by rw[aFD] at hk;exact hk h.2.1)]
   rw[hf,Η];simp only[go_sem,seval,a3,a4,g,f,a];refine⟨aI,⟨?_,?_,?_,?_,?_,?_,?_,fd,h3,ne⟩,Kx.refl _ _⟩;all_goals simp[go_sem,a0,a2,a3,a4,bY,a12,cq,hu]
  |true=>
   rw[hk] at a;obtain⟨⟨n1,t⟩,c,d⟩:=avC fd hg i;have m:=fd.all d;have j:=d.2 _ _ h3;obtain⟨z4,o⟩:=ai.1 j
   cases hr:u.mp.ms.any (lK i) with
   |true=>
    rw[hr] at c;have hf:mV u i b=[]:=by unfold mV;rw[κ (λh=>by rw[hr] at h;exact absurd h.2.2 ah)]
    rw[hf,Η];simp only[go_sem,seval,a0,a2,a3,a4,g,f,a,aax,c,ω];refine⟨aI,⟨?_,?_,?_,?_,?_,?_,?_,m,j,ne⟩,Kx.all d⟩;all_goals simp[go_sem,a0,a2,a3,a4,bY,a12,cq,hu]
   |false=>
    rw[hr] at c;have hf:mV u i b=[(u.nm,ee u (b.at_:Int),5)]:=by unfold mV;rw[μ ⟨hu,by simpa using hk,hr⟩]
    rw[hf];obtain⟨⟨n2,r⟩,q,p,l⟩:=C0 m (Kf hg hb) 5 aa;have x:run aV 46 [.ptr pf 0,.i b.at_,.i 5] ⟨n1,t⟩=some (.tup [],⟨n2,r⟩):=q;simp only[go_sem,seval,a0,a2,a3,a4,g,f,a,aax,c,χ,aC o,ο z4,wS,x];refine⟨aI,⟨?_,?_,?_,?_,?_,?_,?_,p,l.2 _ _ _ ne j,ne⟩,(Kx.all d).trans l⟩;all_goals simp[go_sem,a0,a2,a3,a4,bY,a12,cq,hu]
def aCJ(hg:jb u)(hb:u.mp.bs[i]? =some b)(hl:acc.length<=10000000){α}{H}(h:DG us u pf p3 i b acc α H):aF (aT aV KX α H) λe s H'=>e=.normal/\DG us u pf p3 i b (acc++qS u b) s H'/\Kx pf H H':=by
 have v:KX=.seq _ (.cond _ _ _):=rfl;obtain⟨a0,a2,a3,a4,bY,a12,cq,fd,h3,ne⟩:=h;obtain⟨n,L⟩:=H;obtain⟨x,g3⟩:=ai.1 h3;have g:=aC g3;have f:=ο x
 have a:decide ((b.k:Int)≥3)=decide (3<=b.k):=by
  by_cases h:3<=b.k
  ·rw[π h];exact bH _
  ·rw[ξ h];exact bU _
 rw[v]
 cases hk:decide (3<=b.k) with
 |false=>
  rw[hk] at a;have hf:qS u b=[]:=by unfold qS;rw[κ (λh=>by rw[aFD] at hk;exact hk h.1)]
  rw[hf,Η];simp only[go_sem,seval,a3,g,f,a];refine⟨aI,⟨?_,?_,?_,?_,?_,?_,?_,fd,h3,ne⟩,Kx.refl _ _⟩;all_goals simp[go_sem,a0,a2,a3,a4,bY,a12,cq]
 |true=>
  rw[hk] at a;obtain⟨⟨n1,t⟩,c,d⟩:=aqm fd hg hb;have m:=fd.all d;have j:=d.2 _ _ h3;obtain⟨z4,o⟩:=ai.1 j
  cases hr:u.mp.bs.any (nD b.w) with
  |false=>
   rw[hr] at c;have hf:qS u b=[]:=by unfold qS;rw[κ (λh=>by rw[hr] at h;exact absurd h.2 ah)]
   rw[hf,Η];simp only[go_sem,seval,a0,a2,a3,g,f,a,aay,c];refine⟨aI,⟨?_,?_,?_,?_,?_,?_,?_,m,j,ne⟩,Kx.all d⟩;all_goals simp[go_sem,a0,a2,a3,a4,bY,a12,cq]
  |true=>
   rw[hr] at c;have hf:qS u b=[(u.nm,ee u (b.at_:Int),8)]:=by unfold qS;rw[μ ⟨by simpa using hk,hr⟩]
   rw[hf];obtain⟨⟨n2,r⟩,q,p,l⟩:=C0 m (Kf hg hb) 8 aa;have y:run aV 46 [.ptr pf 0,.i b.at_,.i 8] ⟨n1,t⟩=some (.tup [],⟨n2,r⟩):=q;simp only[go_sem,seval,a0,a2,a3,g,f,a,aay,c,aC o,ο z4,wS,y];refine⟨aI,⟨?_,?_,?_,?_,?_,?_,?_,p,l.2 _ _ _ ne j,ne⟩,(Kx.all d).trans l⟩;all_goals simp[go_sem,a0,a2,a3,a4,bY,a12,cq]
end
set_option maxRecDepth 100000
set_option maxHeartbeats 16000000
section
variable {us:List Un} {u:Un} {pf p3 i:Nat} {b:Bi} {acc:List Fi}
def azV(n:Nat):((n:Int)==1)=decide (n=1):=dF n 1
def aCK(W:gl us)(hg:jb u)(hb:u.mp.bs[i]? =some b)(hl:acc.length<=10000000){α}{H:ab}(h:DG us u pf p3 i b acc α H):aF (aN aV (run aV) aL Gn α H) λe V H'=>e=.normal/\DG us u pf p3 i b (acc++mo us u i b) V H'/\Kx pf H H':=by
 have U:Gn=.seq _ (.block 2 (.seq _ (.cond _ (.seq _ (.cond _ _ _)) (.seq _ (.cond _ (.seq (.region 11 T0.toArray true) (.seq _ (.cond _ _ _))) (.seq _ (.cond _ (.seq _ (.cond _ _ _)) (.seq _ (.cond _ _ _))))))))):=rfl;obtain⟨a0,a2,a3,a4,bY,a12,cq,fd,h3,ne⟩:=h;obtain⟨n,L⟩:=H;obtain⟨Y,g3⟩:=ai.1 h3;have j:=aC g3;have g:=ο Y;obtain⟨te,v,s,Hg⟩:=id fd;obtain⟨X,gf⟩:=ai.1 s;have cf:=aC gf;have z:=ο X;have T:=Kf hg hb;have hkr:=hg.kind b (Δ hb);have d:∀k:Nat,∃H',run aV 46 [.ptr pf 0,.i b.at_,.i k] ⟨n,L⟩=some (.tup [],H')/\kY H' pf us u (acc++[(u.nm,ee u (b.at_:Int),(k:Int))])/\Kx pf ⟨n,L⟩ H':=λk=>C0 fd T k aa;rw[U];clear U;by_cases S:b.k=1
 ·have f:((b.k:Int)==1)=true:=by rw[S];rfl
  cases hu:r9 u i with
  |true=>
   rw[hu] at a4;have hf:mo us u i b=[]:=by unfold mo;rw[bM,μ hu]
   rw[hf,Η];simp only[go_sem,seval,a3,a4,j,g,f,ω];refine⟨aI,⟨?_,?_,?_,?_,?_,?_,?_,fd,h3,ne⟩,Kx.refl _ _⟩;all_goals simp only[go_sem,seval,a0,a2,a3,a4,bY,a12,cq,hu]
  |false=>
   rw[hu] at a4;have hf:mo us u i b=[(u.nm,ee u (b.at_:Int),1)]:=by unfold mo;rw[bM,κ (by rw[hu];simp),S];rfl
   rw[hf];obtain⟨⟨n2,q⟩,p,m,a⟩:=d 1;have o:run aV 46 [.ptr pf 0,.i b.at_,.i 1] ⟨n,L⟩=some (.tup [],⟨n2,q⟩):=p;simp only[go_sem,seval,a0,a3,a4,j,g,f,χ,wS,o];refine⟨aI,⟨?_,?_,?_,?_,?_,?_,?_,m,a.2 _ _ _ ne h3,ne⟩,a⟩;all_goals simp only[go_sem,seval,a0,a2,a3,a4,bY,a12,cq,hu]
 have f:((b.k:Int)==1)=false:=by rw[aEp];omega
 by_cases t:b.k=2
 ·have l:((b.k:Int)==2)=true:=by rw[t];rfl
  have F:=bf (n<n+1);have D:=bf (p3<n+1);have I:=bf (pf<n+1);have O:=dJ (n=pf);have G:=dJ (n=p3);have C:=aqn W u.nm b.at_;have J:((zw (nC us (u.nm,b.at_) us)).map iW).length=(nC us (u.nm,b.at_) us).length:=by rw[Θ,(NQ _).length_eq]
  have c:=azV (nC us (u.nm,b.at_) us).length;have kp:=eA.push ⟨n,L⟩ (.k 44 [.str u.nm,.i b.at_]);have P:=fd.all kp;have N:=kp.2 _ _ h3;obtain⟨B,Z,E,K⟩:∃A,A=T0.toArray/\behind A A.size 9 4=true/\behind A A.size 9 6=true:=⟨_,rfl,af,af⟩;have M:∀α H,aN aV (run aV) aL (.region 11 T0.toArray true) α H=an (eY aV (run aV) B 0 [_,_,_,_,_,_,_,_,_,_] [] [] α H) λr=>some (.normal,r.1,r.2):=λα H=>by rw[nG _ _ rfl rfl,Z];exact rfl
  have aEb:∀{Q:Prop},Q->Q:=λh=>h
  cases d3:decide ((nC us (u.nm,b.at_) us).length=1) with
  |false=>
   rw[d3] at c;have hf:mo us u i b=[]:=by unfold mo;rw[μ t,κ (λh=>by rw[aFD] at d3;exact d3 h.1)]
   rw[hf,Η];simp only[go_sem,seval,a0,a3,j,g,f,l,M,E,K,EU,EC,aF0,z,cf,aQ,F,D,I,O,G,C,J,c];refine⟨aI,⟨?_,?_,?_,?_,?_,?_,?_,P,N,ne⟩,Kx.all kp⟩;all_goals simp only[go_sem,seval,a0,a2,a3,a4,bY,a12,cq]
  |true=>
   rw[d3] at c;by_cases hm:u.nm=gQ/\b.w=gQ
   ·have x:(u.nm==[109,97,105,110])=true:=by rw[hm.1];rfl
    have y:(b.w==[109,97,105,110])=true:=by rw[hm.2];rfl
    have hf:mo us u i b=[]:=by unfold mo;rw[μ t,κ (λh=>h.2 hm)]
    rw[hf,Η];simp only[go_sem,seval,a0,a3,j,g,f,l,M,E,K,EU,EC,aF0,z,cf,aQ,F,D,I,O,G,C,J,c,x,y,ω];refine⟨aI,⟨?_,?_,?_,?_,?_,?_,?_,P,N,ne⟩,Kx.all kp⟩;all_goals simp only[go_sem,seval,a0,a2,a3,a4,bY,a12,cq]
   ·have hf:mo us u i b=[(u.nm,ee u (b.at_:Int),2)]:=by unfold mo;rw[μ t,μ ⟨(aEr d3),hm⟩]
    rw[hf];obtain⟨⟨n2,q⟩,p,m,a⟩:=C0 P T 2 aa;have o:run aV 46 [.ptr pf 0,.i b.at_,.i 2] ⟨n+1,(n,.k 44 [.str u.nm,.i b.at_])::L⟩=some (.tup [],⟨n2,q⟩):=p
    cases x:(u.nm==[109,97,105,110]) with
    |false=>
     simp only[go_sem,seval,a0,a3,j,g,f,l,M,E,K,EU,EC,aF0,z,cf,aQ,F,D,I,O,G,C,J,c,x,χ,wS,o];refine⟨aI,⟨?_,?_,?_,?_,?_,?_,?_,m,a.2 _ _ _ ne N,ne⟩,(Kx.all kp).trans a⟩;all_goals simp only[go_sem,seval,a0,a2,a3,a4,bY,a12,cq]
    |true=>
     have y:(b.w==[109,97,105,110])=false:=by
      cases y:(b.w==[109,97,105,110]) with
      |false=>rfl
      |true=>exact(hm ⟨eq_of_beq x,eq_of_beq y⟩).elim
     simp only[go_sem,seval,a0,a3,j,g,f,l,M,E,K,EU,EC,aF0,z,cf,aQ,F,D,I,O,G,C,J,c,x,y,χ,wS,o];refine⟨aI,⟨?_,?_,?_,?_,?_,?_,?_,m,a.2 _ _ _ ne N,ne⟩,(Kx.all kp).trans a⟩;all_goals simp only[go_sem,seval,a0,a2,a3,a4,bY,a12,cq]
 have l:((b.k:Int)==2)=false:=by rw[aEp];omega
 have s:mo us u i b=if r9 u i=true then[] else[(u.nm,ee u (b.at_:Int),(b.k:Int))]:=by unfold mo;rw[κ t]
 by_cases R:b.k=3
 ·have c:((b.k:Int)==3)=true:=by rw[R];rfl
  cases hu:r9 u i with
  |true=>
   rw[hu] at a4;rw[s,μ hu,Η];simp only[go_sem,seval,a3,a4,j,g,f,l,c,ω];refine⟨aI,⟨?_,?_,?_,?_,?_,?_,?_,fd,h3,ne⟩,Kx.refl _ _⟩;all_goals simp only[go_sem,seval,a0,a2,a3,a4,bY,a12,cq,hu]
  |false=>
   rw[hu] at a4;rw[s,κ (by rw[hu];simp),R];obtain⟨⟨n2,q⟩,p,m,a⟩:=d 3;have o:run aV 46 [.ptr pf 0,.i b.at_,.i 3] ⟨n,L⟩=some (.tup [],⟨n2,q⟩):=p;simp only[go_sem,seval,a0,a3,a4,j,g,f,l,c,χ,wS,o];refine⟨aI,⟨?_,?_,?_,?_,?_,?_,?_,m,a.2 _ _ _ ne h3,ne⟩,a⟩;all_goals simp only[go_sem,seval,a0,a2,a3,a4,bY,a12,cq,hu]
 ·have c:((b.k:Int)==3)=false:=by rw[aEp];omega
  have h5:b.k=4:=aa
  cases hu:r9 u i with
  |true=>
   rw[hu] at a4;rw[s,μ hu,Η];simp only[go_sem,seval,a3,a4,j,g,f,l,c,ω];refine⟨aI,⟨?_,?_,?_,?_,?_,?_,?_,fd,h3,ne⟩,Kx.refl _ _⟩;all_goals simp only[go_sem,seval,a0,a2,a3,a4,bY,a12,cq,hu]
  |false=>
   rw[hu] at a4;rw[s,κ (by rw[hu];simp),h5];obtain⟨⟨n2,q⟩,p,m,a⟩:=d 4;have o:run aV 46 [.ptr pf 0,.i b.at_,.i 4] ⟨n,L⟩=some (.tup [],⟨n2,q⟩):=p;simp only[go_sem,seval,a0,a3,a4,j,g,f,l,c,χ,wS,o];refine⟨aI,⟨?_,?_,?_,?_,?_,?_,?_,m,a.2 _ _ _ ne h3,ne⟩,a⟩;all_goals simp only[go_sem,seval,a0,a2,a3,a4,bY,a12,cq,hu]
end
set_option maxRecDepth 100000
set_option maxHeartbeats 8000000
def ss(us:List Un)(u:Un):Nat->List Bi->List Fi
 |_,[]=>[]
 |i,b::r=>(mo us u i b++mV u i b++qS u b)++ss us u (i+1) r
def Yt(us)(u)(i)(b):(mo us u i b).length<=1:=by
 unfold mo;split
 ·split<;>simp
 ·split<;>simp
def Yu(u)(i)(b):(mV u i b).length<=1:=by unfold mV;split<;>simp
def IA(u)(b):(qS u b).length<=1:=by unfold qS;split<;>simp
def OE(us)(u:Un):∀r i,(ss us u i r).length<=3*r.length
 |[],i=>by simp[ss]
 |b::r,i=>by have h1:=Yt us u i b;have h2:=Yu u i b;have h3:=IA u b;have:=OE us u r (i+1);simp[ss];omega
section
variable {us:List Un} {u:Un} {pf:Nat}
def aqo(hg:jb u){i}(hi:i<u.mp.bs.length)(H):bu aV 45 [.agg [.vec (aD u.mp.bs.length) (u.mp.bs.map bg),.vec (aD u.mp.ms.length) (u.mp.ms.map ck),.vec (aD u.b1.length) (cO u.b1)],.i i] H=some (.vec .ro ((mU (kl u.mp i)).map iA),H):=
 ja (fs:=[19,20,45,47]) rfl rfl (FY aA rfl) rfl (abT u.mp u.b1 i hi hg.fT) rfl (by
  have:∀l:List Int,AV.aq.go (l.map iA)=true:=λl=>by
   induction l with
   |nil=>rfl
   |cons x l ih=>show((iA x).aq&&AV.aq.go (l.map iA))=true;rw[ih];rfl
  simp[AV.aq,this]) H
def ab0(d:gl us)(o:u∈us):∀r i acc α H,u.mp.bs.drop i=r->i+r.length=u.mp.bs.length->acc.length+3*r.length<=1000000->kY H pf us u acc->α 0=.ptr pf 0->α 11=.vec (aD u.mp.bs.length) (u.mp.bs.map bg)->α 12=.i u.mp.bs.length->α 13=.i i->
  aF (aL (aT aV vb) α H) λe A H'=>e=.exit 0/\kY H' pf us u (acc++ss us u i r)/\Kx pf H H'
 |[],i,acc,α,⟨n,L⟩,f,g,m,fd,a0,bY,a12,cq=>by have l:vb=.seq _ (.seq _ (.seq (.block _ (.seq _ (.seq _ (.seq Gn (.seq KW KX))))) _)):=rfl;have j:=dY (a:=i) (b:=u.mp.bs.length) (by simp at g;omega);rw[aJ,l];simp only[go_sem,seval,a12,cq,j];refine⟨aI,?_,Kx.refl _ _⟩;simp[ss];exact fd
 |b::r,i,acc,α,⟨n,L⟩,f,g,m,fd,a0,bY,a12,cq=>by
  have l:vb=.seq _ (.seq _ (.seq (.block 1 (.seq _ (.seq _ (.seq Gn (.seq KW KX))))) _)):=rfl;have hg:=d.kW u o;simp at g m;have hi:i<u.mp.bs.length:=aa;have j:=ec hi;have hb:u.mp.bs[i]? =some b:=by have:=Ι (·[0]?) f;simpa using this
  have F:u.mp.bs.drop (i+1)=r:=by rw[<-List.drop_drop,f];rfl
  have w1:=eN i (by have:=hg.fT;omega);have kp:=eA.push ⟨n,L⟩ (.k 102 [.i b.at_,.i b.k,.str b.w,.i b.item]);obtain⟨te,v,G,Hg⟩:=id fd;obtain⟨zf,gf⟩:=ai.1 G;have y:=bf (pf<n+1);have q:=bf (n<n+1);have J:=dJ (n=pf);have s:n≠pf:=aa;have K:ab.get ⟨n+1,(n,.k 102 [.i b.at_,.i b.k,.str b.w,.i b.item])::L⟩ n=some (.k 102 [.i b.at_,.i b.k,.str b.w,.i b.item]):=ai.2 ⟨aa,by rw[bo,μ rfl]⟩;have D:((mU (kl u.mp i)).map iA).length=(kl u.mp i).length:=by rw[Θ,(Ck _).length_eq]
  have C:decide (((kl u.mp i).length:Int)>1)=r9 u i:=by
   unfold r9;by_cases h:(kl u.mp i).length>1
   ·rw[π h];exact bH _
   ·rw[ξ h];exact bU _
  have l1:=Yt us u i b;have l2:=Yu u i b;have l3:=IA u b;rw[aJ,l,ss];simp only[go_sem,seval,a0,bY,a12,cq,j,Di (aD u.mp.bs.length) hb,y,q,J,aC gf,aqo hg hi,D,C];simp[bW];refine bz (yN (aCK (p3:=n) (i:=i) (acc:=acc) d hg hb aa ⟨?_,?_,?_,?_,?_,?_,?_,fd.all kp,K,s⟩)) ?_
  case refine_8=>
   rintro _ ⟨e,cT,H1,rfl,rfl,E,k1⟩;simp[go_sem,];try simp[bW]
   refine bz (yN (aCI hg hb (by rw[τ];omega) E)) ?_;rintro _ ⟨e,fS,H2,rfl,rfl,p,k2⟩;simp[go_sem,];try simp[bW]
   refine bz (yN (aCJ hg hb (by rw[τ,τ];omega) p)) ?_;rintro _ ⟨e,uV,⟨t,x⟩,rfl,rfl,c,z⟩;have ih:=λα=>ab0 d o r (i+1) (acc++mo us u i b++mV u i b++qS u b) α ⟨t,x⟩ F aa aP c.fd;simp[go_sem,c.cq,w1];refine aW (ih _ ?_ ?_ ?_ ?_) ?_
   case refine_5=>
    rintro e A H' ⟨rfl,B,I⟩;refine⟨rfl,?_,(Kx.all kp).trans (k1.trans (k2.trans (z.trans I)))⟩;simpa[Λ] using B
   all_goals simp[go_sem,c.a0,c.bY,c.a12]
  all_goals simp[go_sem,a0,bY,a12,cq]
  all_goals(try rfl)
def agQ(a:gl us)(b:u∈us){acc:List Fi}(hl:acc.length<=100000){H}(fd:kY H pf us u acc):∃H',run aV 21 [.ptr pf 0] H=some (.tup [],H')/\kY H' pf us u (acc++ss us u 0 u.mp.bs)/\Kx pf H H':=by
 suffices hh:∃q,run aV 21 [.ptr pf 0] H=some q/\∃H',q=(.tup [],H')/\kY H' pf us u (acc++ss us u 0 u.mp.bs)/\Kx pf H H' by obtain⟨q,f,H',rfl,i⟩:=hh;exact⟨H',f,i⟩
 obtain⟨n,L⟩:=H;obtain⟨te,v,e,Hg⟩:=id fd;obtain⟨d,gf⟩:=ai.1 e;have tB:=(a.kW u b).fT;have g:(u.mp.bs.map bg).length=u.mp.bs.length:=Θ ..;refine fM (c:=.seq _ (.block 0 (.loop vb))) rfl rfl func21 rfl (by rw[ntmps21];simp) ?_;simp only[go_sem,seval,ο d,aC gf,g];refine bz (dm (ab0 (pf:=pf) a b u.mp.bs 0 acc _ ⟨n,L⟩ rfl aa aa fd ?_ ?_ ?_ ?_)) ?_
 case refine_5=>
  rintro _ ⟨ae,H',rfl,h,j⟩;simp only[go_sem,seval,results21];exact⟨_,rfl,_,rfl,h,j⟩
 all_goals simp[go_sem,]
 all_goals(try rfl)
end
end Go.Proofs.YtmehamiifalmaaaGreatDoor
