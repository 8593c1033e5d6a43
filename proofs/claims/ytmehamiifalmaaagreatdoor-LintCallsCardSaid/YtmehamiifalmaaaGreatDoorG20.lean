/- LintCalls: part 21 of its proof. -/
import Derived.Test.YtmehamiifalmaaaGreatDoorG19
import Derived.Test.YtmehamiifalmaaaGreatDoorG18
set_option linter.all false
namespace Go.Proofs.YtmehamiifalmaaaGreatDoor
open Go Go.Ab Go.Proofs.Tryz
set_option maxRecDepth 100000
set_option maxHeartbeats 8000000
def QT:List FuncId:=[19,20,43,44,88,45,60,47,78]
def ao2:List FuncId:=[19,20,43,44,88,45,60,47,33,135]
noncomputable def fh:Env:={P:=prog,G:=λf=>QT.contains f,cl:=λf=>ao2.contains f,eX:=λt=>t==103||t==98,dyn:=λ_=>false,df:=λ_=>false,ext:=bQ vd (bQ uZ (bQ Cx (bf fg [33])))}
def axG:okF fh 19=true:=af
def axH:okF fh 20=true:=af
def axI:okF fh 43=true:=af
def axJ:okF fh 44=true:=af
def axK:okF fh 88=true:=af
def axL:okF fh 45=true:=af
def axM:okF fh 60=true:=af
def axN:okF fh 47=true:=af
def axO:okF fh 78=true:=af
def axP:fh.P=prog:=(rfl)
def axQ:fh.eX=λt=>t==103||t==98:=(rfl)
def axR(i):fh.dyn i=false:=(rfl)
attribute [go_sem] axP axQ axR
def cI{f}(a:fh.cl f=true){args}{v}(h:aI prog (run fh) f args=some v)(H):bt fh f args H=some (v,H):=xQ a h H
def OJ{T:Type}{f0}{rest}{s}{dec}{enc:T->List AV}{gJ}{f}(h:f≠f0)(args)(H):t_ f0 rest s dec enc gJ f args H=none:=by unfold t_;rw[κ h]
def akg{f}(h:f≠135)(args)(H):vd f args H=none:=by unfold vd;rw[κ h]
def XN{f}(h:f≠57)(args)(H):uZ f args H=none:=OJ h args H
def akh{f}(h:f≠114)(args)(H):Cx f args H=none:=OJ h args H
def aur(args)(H):fh.ext 33 args H=bf fg [33] 33 args H:=by show bQ vd (bQ uZ (bQ Cx (bf fg [33]))) 33 args H=_;rw[gT (λa H=>akg aA a H),gT (λa H=>XN aA a H),gT (λa H=>akh aA a H)]
def ao3(a b)(H):bt fh 33 [.str a,.str b] H=some (.i (qc a b),H):=ji (fs:=[33]) rfl rfl aur rfl (acr a b) rfl rfl H
attribute [go_sem] ao3
def XO:∀bs:List Bi,xb (bs.map a_)=some bs
 |[]=>rfl
 |b::bs=>by simp only[aDm,a_,xb];rw[ν ⟨aa,aa,aa⟩,XO bs];simp[an]
def ao4(u:Un)(w)(h:u.mp.bs.length<=1000000)(H):dX fh (run fh) (.fn (.func 135) [] []) [.agg (cU u),.str w] H=some (.i (dQ (nR u.mp.bs w)),H):=by
 have c:fh.ext 135 [.agg (cU u),.str w] .empty=some (.i (dQ (nR u.mp.bs w)),.empty):=by
  show bQ vd (bQ uZ (bQ Cx (bf fg [33]))) 135 _ _=_;unfold bQ;have:vd 135 [.agg (cU u),.str w] .empty=some (.i (dQ (nR u.mp.bs w)),.empty):=by unfold vd cU oW;rw[ν rfl];simp only[φ];rw[ν ⟨aa,by cases u.mp.bs<;>rfl⟩,XO];rfl
  rw[this]
 have a:(AV.agg (cU u)).erase=.agg (cU u):=qB _ _;have b:AV.aq.go [.agg (cU u),.str w]=true:=by show((AV.agg (cU u)).aq&&true)=true;rw[show(AV.agg (cU u)).aq=true from rA _ _];rfl
 rw[sf rfl];have:=xK rfl (args:=[.agg (cU u),.str w]) (v:=.i (dQ (nR u.mp.bs w))) (H:=.empty) (by simp[a];exact b) (by simp[a];exact c) rfl;rw[show fh.P=prog from rfl] at this⊢;rw[this];rfl
def tM(us):(dD us).aq=true:=by have:=iE (n:=us.length) (Fq us);simp only[dD,AV.aq,AV.aq.go] at this⊢;rw[this];rfl
def ao5(cs):BJ (.rptr cs)=some (.rptr cs):=(rfl)
def ao6(cs):ew prog .eql 23 (.rptr cs) (.val (.pointer none))=some (.bool false):=af
attribute [go_sem] ao5 ao6
def Jt(o){us}{i:Nat}{u:Un}(h:us[i]? =some u):dC prog 118 (.vec o (vU us)) (.i i)=some (.rptr (cU u)):=oC tE uX gU o h rfl
def axS(u):eD [.str [],.str [],.vec .nil [],.i 0,.i 0,.i 0,.str [],.i 0,.vec .nil [],.vec .nil [],.vec .nil [],.vec .nil [],.i 0,.i 0] 0 (cU u)=cU u:=rfl
def axT(u):eE (cU u)=true:=rfl
def axU(u):List.take 14 (cU u)=cU u:=rfl
attribute [go_sem] axU axS axT pa
def xC:Un:=⟨[],[],[],eG,⟨[],[],[]⟩,[],[],0,0⟩
def mo(us:List Un):List (List UInt8):=us.map (·.nm)
def QU:∀l:List (List UInt8),AV.aq.go (SA l)=true
 |[]=>rfl
 |x::l=>by show(true&&AV.aq.go (SA l))=true;rw[QU l];rfl
def ao7(w)(H):dS prog 66 1 [(0,.str w)] H=some (.vec .full [.str w],H):=tL YN (.str w) rfl rfl aA H
noncomputable def zz:=f19.c.r.r.r.l.r.b.b
def abd{us:List Un}(y:us.length<=8):∀r pre o3 α H,us=pre++r->bY H 9 o3 (mo pre).length->α 3=.vec o3 (SA (mo pre))->α 11=.vec (au us.length) (vU us)->α 12=.i us.length->α 13=.i pre.length->
  aD (aJ (aO fh zz) α H) λe v H'=>e=.exit 0/\∃b,bY H' 9 b (mo us).length/\v 3=.vec b (SA (mo us))
 |[],pre,o3,α,⟨n,L⟩,a,hg,f,o,c,d=>by have l:zz=.seq _ (.seq _ (.seq (.block _ (.seq _ _)) _)):=rfl;rw[aDi] at a;subst a;have h:=d_ (aDF us.length);rw[aG,l];simp only[go_sem,seval,c,d,h];exact⟨aK,o3,hg,by simp[go_sem,f]⟩
 |u::r,pre,o3,α,⟨n,L⟩,a,hg,f,o,c,d=>by
  have l:zz=.seq _ (.seq _ (.seq (.block _ (.seq _ _)) _)):=rfl;have D:pre.length<us.length:=by rw[a];simp
  have h:=dM D;have z:us[pre.length]? =some u:=by rw[a];exact As _ _ _
  have w:=aY (n<n+1);have gP:(mo pre).length=pre.length:=by simp[mo]
  have x:bY ⟨n+1,(n,.k 78 (cU u))::L⟩ 9 o3 (mo pre).length:=hg.bU λj m B=>(Kt.push 3 ⟨n,L⟩ (.k 78 (cU u))).2 _ _ ai B;obtain⟨b,⟨p,q⟩,a1,a2,a3⟩:=wA (m:=λt=>t==103||t==98) YN rfl (g:=AV.str) (λ_=>rfl) .full u.nm x aa aa;have s:cj (λt=>t==103||t==98) prog 66 66 (.vec o3 (SA (mo pre))) (.vec .full [.str u.nm]) ⟨n+1,(n,.k 78 (cU u))::L⟩=some (.vec b (SA (mo pre++[u.nm])),⟨p,q⟩):=a1;have A:us=(pre++[u])++r:=by rw[a];simp
  have hm:mo (pre++[u])=mo pre++[u.nm]:=by simp[mo]
  have C:(((pre++[u]).length:Nat):Int)=((pre.length+1:Nat):Int):=ai;have ih:=λα=>abd y r (pre++[u]) b α ⟨p,q⟩ A (by rw[hm];exact a2);rw[hm,C] at ih;rw[aG,l];simp only[go_sem,seval,f,o,c,d,h,Jt (au us.length) z,(fD pre.length aa),w,ao7,cQ,s,vz];refine ih _ ?_ ?_ ?_ ?_;all_goals simp[go_sem,o,c]
def ao8(us:List Un)(a:us.length<=8):aI prog (run fh) 19 [dD us]=some (.vec (au us.length) (SA (mo us))):=by
 refine fk (c:=.seq _ (.seq (.seq _ (.cond _ _ _)) (.seq _ (.seq (.seq _ (.block 0 (.loop zz))) _)))) rfl rfl func19 rfl (by rw[ntmps19];simp) (bW:=[dD us]) rfl (by show((dD us).aq&&true)=true;rw[tM];rfl) ?_ (iE (QU _));have d:(mo us).length=us.length:=by simp[mo]
 simp[go_sem,ab.empty,dD,tK,kZ,E3];simp[cg];refine bL (dE (abd a us [] .nil _ _ rfl (.inl ⟨rfl,rfl⟩) ?_ ?_ ?_ ?_)) ?_
 case refine_5=>
  rintro _ ⟨ae,H',rfl,o',g,b⟩;have hb:=g.bare;rw[d] at hb;simp only[go_sem,seval,b,results19];refine⟨_,rfl,?_⟩;simp[AV.erase,AV.bare,hb,au]
 all_goals simp[go_sem,]
 all_goals(try rfl)
def axV(u:Un)(w):aI prog (run fh) 44 [.agg (cU u),.str w]=some (.i (qc u.nm w)):=by
 have a:(AV.agg (cU u)).erase=.agg (cU u):=qB _ _;refine tc (c:=.seq _ (.seq _ _)) rfl rfl func44 rfl (by rw[ntmps44];simp) (bW:=[.agg (cU u),.str w]) (by simp[a];rfl) ?_ ?_ rfl rfl
 ·show((AV.agg (cU u)).aq&&true)=true;rw[show(AV.agg (cU u)).aq=true from rA _ _];rfl
 have b:∀u H,fY (.agg (cU u)) H=some (.ptr H.next 0,H.push (.z (cU u))):=λu H=>by simp[fY,AV.width,AV.cells]
 simp[go_sem,ab.empty,b,vz,results44]
def ao9(u:Un)(w)(H):bt fh 44 [.agg (cU u),.str w] H=some (.i (qc u.nm w),H):=cI rfl (axV u w) H
attribute [go_sem] ao9
def aus(a)(h:0<=a):ew prog .shr 147 (.int .u64 a) (.int .u64 1)=some (.int .u64 (a/2)):=by have:a.fdiv 2=a/2:=Int.fdiv_eq_ediv_of_nonneg a aa;simp[ew,pN,Im,IntKind.bits,this]
def XP(n):rB prog 3 147 (.i n)=some (.int .u64 (IntKind.u64.wrap n)):=af
def XQ(n):rB prog 147 3 (.int .u64 n)=some (.i (IntKind.i64.wrap n)):=af
noncomputable def Ty:=f43.c.r.r.r.l.b.b
def PJ{us:List Un}{w:List UInt8}(o:us.Pairwise xB)(D:us.length<=8):∀d i j α H,j-i<=d->i<=j->j<=us.length->(∀q x,us[q]? =some x->(q<i->bl x.nm w=true)/\(j<=q->bl x.nm w=false))->
  α 0=.vec (au us.length) (vU us)->α 1=.str w->α 2=.fn (.func 44) [] []->α 8=.i us.length->α 9=.i i->α 10=.i j->
  aD (aJ (aO fh Ty) α H) λe k H'=>e=.exit 0/\k 0=.vec (au us.length) (vU us)/\k 1=.str w/\k 2=.fn (.func 44) [] []/\k 8=.i us.length/\∃i:Nat,i<=us.length/\k 9=.i i/\∀q x,us[q]? =some x->(q<i->bl x.nm w=true)/\(i<=q->bl x.nm w=false)
 |d,i,j,α,⟨n,L⟩,hd,r9,E,v,g,a,c,z,r,t=>by
  have F:Ty=.seq (.seq _ _) (.block _ (.seq _ (.seq _ _))):=rfl;by_cases J:i<j
  ·cases d with
   |zero=>omega
   |succ d=>
    have s:=dM J;obtain⟨m,hm⟩:∃m,(i+j)/2=m:=⟨_,rfl⟩;obtain⟨x,p⟩:=fG (show m<us.length by omega);have G:=Jt (au us.length) p;have w1:IntKind.i64.wrap ((i:Int)+(j:Int))=(i:Int)+j:=SE _;have I:IntKind.u64.wrap ((i:Int)+(j:Int))=(i:Int)+j:=IntWalk.u64_in _ aa;have A:IntKind.i64.wrap (m:Int)=m:=SE _;have K:=f_ (m+1) (m+1:Nat);have u:=aus ((i:Int)+j) aa;rw[show((i:Int)+j)/2=(m:Int) by omega] at u;have l:=XH x.nm w;have f:∀q y,us[q]? =some y->(q<m->bl y.nm x.nm=true)/\(m<q->bl x.nm y.nm=true):=λq y b=>by obtain⟨C,rfl⟩:=ο.1 b;obtain⟨B,rfl⟩:=ο.1 p;exact⟨λh=>aEe.1 o q m C B h,λh=>aEe.1 o m q B C h⟩
    rw[aG,F]
    cases hc:Op.bytesLess x.nm w with
    |true=>
     rw[hc] at l
     have ih:=λα=>PJ (w:=w) o D d (m+1) j α ⟨n,L⟩ aa aa E (λq y b=>⟨λh=>by
      rcases aEo q m with a|a
      ·exact zR ((f q y b).1 a) hc
      ·have:q=m:=aa;subst this
       rw[p] at b;cases b;exact hc,(v q y b).2⟩)
     simp only[go_sem,seval,g,a,c,r,t,s,w1,I,A,K,u,G,XP,XQ,l];refine ih _ ?_ ?_ ?_ ?_ ?_ ?_;all_goals simp[go_sem,g,a,c,z,t]
    |false=>
     rw[hc] at l
     have ih:=λα=>PJ (w:=w) o D d i m α ⟨n,L⟩ aa aa aa (λq y b=>⟨(v q y b).1,λh=>by
      rcases aEo m q with a|a
      ·cases hk:bl y.nm w with
       |false=>rfl
       |true=>have:=zR ((f q y b).2 a) hk;rw[show bl x.nm w=false from hc] at this;cases this
      ·have:q=m:=aa;subst this
       rw[p] at b;cases b;exact hc⟩)
     simp only[go_sem,seval,g,a,c,r,t,s,w1,I,A,u,G,XP,XQ,l];refine ih _ ?_ ?_ ?_ ?_ ?_ ?_;all_goals simp[go_sem,g,a,c,z,r]
  ·have s:=d_ J;have:i=j:=aa;subst this;rw[aG,F];simp only[go_sem,seval,r,t,s];refine⟨aK,?_,?_,?_,?_,i,E,?_,v⟩;all_goals simp[go_sem,g,a,c,z]
def Wm(a b):((qc a b==0)=true)↔a=b:=by
 unfold qc;by_cases c:a=b
 ·subst c;have:Op.bytesLess a a=false:=uN a;simp[this]
 ·grind
def aBl(us:List Un)(w:List UInt8)(p:us.Pairwise xB)(t:us.length<=8):∃(i:Nat) (b:Bool),aI prog (run fh) 43 [.vec (au us.length) (vU us),.str w,.fn (.func 44) [] []]=some (.tup [.i i,.bool b])/\(b=true->∃u,us[i]? =some u/\u.nm=w)/\(b=false->eO us w=none):=by
 suffices hh:∃v,aI prog (run fh) 43 [.vec (au us.length) (vU us),.str w,.fn (.func 44) [] []]=some v/\∃(i:Nat) (b:Bool),v=.tup [.i i,.bool b]/\(b=true->∃u,us[i]? =some u/\u.nm=w)/\(b=false->eO us w=none) by obtain⟨v,a,i,b,rfl,e,j⟩:=hh;exact⟨i,b,a,e,j⟩
 refine uO (c:=.seq _ (.seq _ (.seq _ (.seq (.block 0 (.loop Ty)) _)))) rfl rfl func43 rfl (by rw[ntmps43];simp) (bW:=[.vec (au us.length) (vU us),.str w,.fn (.func 44) [] []]) (by simp[AV.erase,AV.bare,kF]) ?_ ?_
 ·show((AV.vec (au us.length) (vU us)).aq&&_)=true;rw[iE (Fq us)];rfl
 simp only[go_sem,seval,ab.empty,E3];simp only[cg];refine bL (dE (PJ (w:=w) p t us.length 0 us.length _ _ aa (aDT _) (μ _) (λq x d=>⟨λh=>aa,λh=>(by have:=(ο.1 d).1;omega)⟩) ?_ ?_ ?_ ?_ ?_ ?_)) ?_
 case refine_7=>
  rintro _ ⟨ae,⟨n,L⟩,rfl,a0,a1,a2,a8,i,hi,k,g⟩;by_cases m:i<us.length
  ·have f:=dM m;obtain⟨x,d⟩:=fG m;have o:=Jt (au us.length) d
   cases hz:(qc x.nm w==0) with
   |true=>simp only[go_sem,seval,a0,a1,a2,a8,k,f,o,hz,results43];exact⟨_,_,_,rfl,rfl,i,true,rfl,λ_=>⟨x,d,(Wm _ _).1 hz⟩,λh=>by cases h⟩
   |false=>
    simp only[go_sem,seval,a0,a1,a2,a8,k,f,o,hz,results43];refine⟨_,_,_,rfl,rfl,i,false,rfl,λh=>(by cases h),λ_=> ?_⟩
    cases hf:eO us w with
    |none=>rfl
    |some v=>
     obtain⟨hm,rfl⟩:=uP hf;obtain⟨q,a⟩:=aDD hm;have e:=(g q v a)
     have r:i<=q:=by
      rcases aEo q i with h|h
      ·have:=e.1 h;rw[uN] at this;cases this
      ·exact h
     rcases Nat.lt_or_eq_of_le r with h|h
     ·have j:=(g i x d).2 (μ _);obtain⟨s,rfl⟩:=ο.1 a;obtain⟨y,rfl⟩:=ο.1 d;have l:=aEe.1 p i q y s h;unfold xB at l;rw[show Op.bytesLess us[i].nm us[q].nm=false from j] at l;cases l
     ·subst h;rw[d] at a;cases a;have:=(Wm x.nm x.nm).2 rfl;rw[this] at hz;cases hz
  ·have f:=d_ m;simp only[go_sem,seval,a8,k,f,results43];refine⟨_,_,_,rfl,rfl,i,false,rfl,λh=>(by cases h),λ_=> ?_⟩
   cases hf:eO us w with
   |none=>rfl
   |some v=>obtain⟨hm,rfl⟩:=uP hf;obtain⟨q,a⟩:=aDD hm;have e:=(g q v a).1 (by have:=(ο.1 a).1;omega);rw[uN] at e;cases e
 all_goals simp[go_sem,]
 all_goals(try rfl)
def PK{us:List Un}(e:us.Pairwise xB)(h:us.length<=8)(w:List UInt8):aI prog (run fh) 20 [dD us,.str w]=some (.tup [.agg (cU ((eO us w).getD xC)),.bool (eO us w).isSome]):=by
 obtain⟨i,b,l,k,j⟩:=aBl us w e h;have a:=cI rfl l;have g:∀u b,(AV.tup [.agg (cU u),.bool b]).aq=true:=λu b=>by show((AV.agg (cU u)).aq&&_)=true;rw[show(AV.agg (cU u)).aq=true from rA _ _];rfl
 have f:∀u b,(AV.tup [.agg (cU u),.bool b]).erase=.tup [.agg (cU u),.bool b]:=λu b=>by have:(AV.agg (cU u)).erase=.agg (cU u):=qB _ _;simp[AV.erase] at this⊢;simp[AV.bare,this]
 refine fk (c:=.seq _ (.seq (.seq _ (.cond _ _ _)) (.seq _ (.seq (.seq _ (.cond _ _ _)) (.seq _ _))))) rfl rfl func20 rfl (by rw[ntmps20];simp) (bW:=[dD us,.str w]) rfl (by show((dD us).aq&&true)=true;rw[tM];rfl) ?_ (g _ _)
 cases b with
 |true=>obtain⟨u,d,rfl⟩:=k rfl;rw[XL e (Β d)];simp only[go_sem,seval,ab.empty,dD,tK,a,Jt (au us.length) d,ω,results20];exact⟨_,rfl,f u true⟩
 |false=>rw[j rfl];simp only[go_sem,seval,ab.empty,dD,tK,a,Α,aZ,results20];exact⟨_,rfl,f xC false⟩
def CQ(u:Un)(b:Bi):Option (List UInt8):=if b.k=1 then match u.tr.ks[b.item]? with|some n=>(match n.ks with|[y]=>some y.w|_=>none)|none=>none else none
def fI(us:List Un)(u:Un)(b:Bi):List UInt8×Option Nat:=match CQ u b with|some w=>(w,(eO us w).bind λm=>nR m.mp.bs b.w)|none=>([],none)
def Ly(m:Un)(j:Nat):Nat:=match m.mp.bs[j]? with|some c=>c.at_|none=>0
def stands(us:List Un)(u:Un)(b:Bi):List UInt8×Nat:=match(fI us u b).2 with|some j=>((fI us u b).1,Ly ((eO us (fI us u b).1).getD xC) j)|none=>(u.nm,b.at_)
def yB(u:Un)(b:Bi):Prop:=b.k=1->∃n y,u.tr.ks[b.item]? =some n/\n.ks=[y]
def GoodU.acA{u:Un}(h:GoodU u){b:Bi}(hb:b∈u.mp.bs):yB u b:=h.use b hb
def HD{u:Un}{b:Bi}(c:b.k=1){n y:Nd}(a:u.tr.ks[b.item]? =some n)(d:n.ks=[y]):CQ u b=some y.w:=by simp[CQ,c,a,d]
def HE{u}{b:Bi}(a:b.k≠1):CQ u b=none:=by simp[CQ,a]
def R9(u:Un):(cU u)[8]? =some (.vec (if u.tr.ks.isEmpty then .nil else .ro) (bA u.tr.ks)):=rfl
def I3(n:Nd):cr prog 71 3 (.rptr (aC n))=some (.rptr [.str n.w,.i n.a,.vec (if n.ks.isEmpty then .nil else .ro) (bA n.ks)]):=by rw[Aq];exact YK _ _ _ _ _ _
def Ic(n:Nd):cr prog 71 5 (.rptr (aC n))=some (.rptr [.vec (if n.ks.isEmpty then .nil else .ro) (bA n.ks)]):=by rw[Aq];exact N_ _ _ _ _ _ _
def Bt(u)(H:ab):fY (.agg (cU u)) H=some (.ptr H.next 0,H.push (.z (cU u))):=by simp[fY,AV.width,AV.cells]
def Bu(b:Bi)(H:ab):fY (a_ b) H=some (.ptr H.next 0,H.push (.z [.i b.at_,.i b.k,.str b.w,.i b.item])):=by simp[fY,a_,AV.width,AV.cells]
def QV(u):(AV.agg (cU u)).erase=.agg (cU u):=qB _ _
def QW(u):(AV.agg (cU u)).aq=true:=rA _ _
section
variable {us:List Un}
def ZM(a:Proj us)(w)(H):bt fh 20 [.rptr [.vec (au us.length) (vU us)],.str w] H=some (.tup [.agg (cU ((eO us w).getD xC)),.bool (eO us w).isSome],H):=cI rfl (PK a.gJ a.iJ w) H
def aki(l:Proj us)(u)(b)(hb:yB u b):aI prog (run fh) 88 [dD us,.agg (cU u),a_ b]=some (.agg [.str (fI us u b).1,.i (dQ (fI us u b).2)]):=by
 refine fk (c:=.seq _ (.seq (.seq _ (.cond _ _ _)) (.seq _ (.seq (.seq _ (.seq _ (.cond _ _ _))) (.seq _ _))))) rfl rfl func88 rfl (by rw[ntmps88];simp) (bW:=[dD us,.agg (cU u),a_ b]) (by simp only[aDm,aEr,QV];rfl) ?_ ?_ rfl
 ·show((dD us).aq&&((AV.agg (cU u)).aq&&_))=true;rw[tM,QW];rfl
 by_cases a:b.k=1
 ·obtain⟨n,y,g,f⟩:=hb a;have j:=HD a g f;have aN:b.item<u.tr.ks.length:=(ο.1 g).1;have d:((b.k:Int) != 1)=false:=by rw[a];rfl
  have p:=bP ((b.item:Int)≥(u.tr.ks.length:Int));have o:((n.ks.length:Int) != 1)=false:=by rw[f];rfl
  have q:=mB (if u.tr.ks.isEmpty then .nil else .ro) g;have r:dC prog 69 (.vec (if n.ks.isEmpty then .nil else .ro) (bA n.ks)) (.i 0)=some (.rptr (aC y)):=mB (i:=0) _ (by rw[f];rfl);have e:=ZM l y.w
  cases hf:eO us y.w with
  |none=>
   have hi:fI us u b=(y.w,none):=by simp[fI,j,hf]
   rw[hf] at e;rw[hi];simp only[go_sem,seval,ab.empty,dD,Bt,Bu,R9,cz,d,p,o,q,r,I3,Ic,aZ,e,aFO,Ε,dQ,results88];exact⟨_,rfl,rfl⟩
  |some m=>
   have hi:fI us u b=(y.w,nR m.mp.bs b.w):=by simp[fI,j,hf]
   have h:=ao4 m b.w (by have:=(l.pZ m (uP hf).1).iJ;omega);rw[hf] at e;rw[hi];simp only[go_sem,seval,ab.empty,dD,Bt,Bu,R9,cz,d,p,o,q,r,I3,Ic,aZ,e,h,aDR,aDg,results88];exact⟨_,rfl,rfl⟩
 ·have d:((b.k:Int) != 1)=true:=by have:=rO b.k 1;rw[ξ a] at this;exact this
  have hi:fI us u b=([],none):=by simp[fI,HE a]
  rw[hi];simp only[go_sem,seval,ab.empty,dD,Bt,Bu,d,aZ,dQ,results88];exact⟨_,rfl,rfl⟩
def apa(a:Proj us)(u)(b:Bi)(hb:yB u b)(H):bt fh 88 [.rptr [.vec (au us.length) (vU us)],.agg (cU u),.agg [.i b.at_,.i b.k,.str b.w,.i b.item]] H=some (.agg [.str (fI us u b).1,.i (dQ (fI us u b).2)],H):=cI rfl (aki a u b hb) H
def MJ{bs:List Bi}{w}{j}(h:nR bs w=some j):j<bs.length:=by unfold nR at h;have:=aD3 h;simpa using this
def yC(o){bs:List Bi}{i:Nat}{x:Bi}(h:bs[i]? =some x):dC prog 72 (.vec o (bs.map a_)) (.i i)=some (.rptr [.i x.at_,.i x.k,.str x.w,.i x.item]):=adq o h
def FN(u:Un):(cU u)[9]? =some (.vec (au u.mp.bs.length) (u.mp.bs.map a_)):=rfl
def aBn(q:Proj us)(u)(b:Bi)(hb:yB u b):aI prog (run fh) 60 [dD us,.agg (cU u),a_ b]=some (.agg [.str (stands us u b).1,.i ((stands us u b).2:Int)]):=by
 refine fk (c:=.seq _ (.seq (.seq _ (.cond _ (.seq _ (.seq _ (.seq _ (.cond _ (.seq _ _) _)))) _)) (.seq _ _))) rfl rfl func60 rfl (by rw[ntmps60];simp) (bW:=[dD us,.agg (cU u),a_ b]) (by simp only[aDm,aEr,QV];rfl) ?_ ?_ rfl
 ·show((dD us).aq&&((AV.agg (cU u)).aq&&_))=true;rw[tM,QW];rfl
 by_cases g:b.k=1
 ·have d:((b.k:Int)==1)=true:=by rw[g];rfl
  have e:=apa q u b hb;have a:=ZM q (fI us u b).1
  cases hj:(fI us u b).2 with
  |none=>
   have f:stands us u b=(u.nm,b.at_):=by simp[stands,hj]
   have o:decide (dQ none≥0)=false:=rfl;rw[hj] at e;rw[f]
   cases hf:eO us (fI us u b).1 with
   |none=>rw[hf] at a;simp only[go_sem,seval,ab.empty,dD,Bt,Bu,d,e,a,aZ,vz,aFO,Ε,results60];exact⟨_,rfl,rfl⟩
   |some m=>rw[hf] at a;simp only[go_sem,seval,ab.empty,dD,Bt,Bu,d,e,a,o,aZ,vz,aDR,aDg,results60];exact⟨_,rfl,rfl⟩
  |some j=>
   obtain⟨n,y,t,s⟩:=hb g;have p:=HD g t s;have l:(fI us u b).1=y.w:=by simp[fI,p]
   have h:(fI us u b).2=(eO us y.w).bind λm=>nR m.mp.bs b.w:=by simp[fI,p]
   rw[h] at hj
   cases hf:eO us y.w with
   |none=>rw[hf] at hj;cases hj
   |some m=>
    rw[hf] at hj;simp at hj;obtain⟨c,r⟩:=fG (MJ hj)
    have f:stands us u b=(y.w,c.at_):=by
     have:(fI us u b).2=some j:=by rw[h,hf];exact hj
     simp[stands,this,l,hf,Ly,r]
    have o:=bJ (((j:Nat):Int)≥0);have v:(fI us u b).2=some j:=by rw[h,hf];exact hj
    rw[l,v] at e;rw[l,hf] at a;rw[f];simp only[go_sem,seval,ab.empty,dD,Bt,Bu,d,e,a,o,aZ,FN,yC (au m.mp.bs.length) r,dQ,aDR,aDg,results60];exact⟨_,rfl,rfl⟩
 ·have d:((b.k:Int)==1)=false:=by rw[aDL];omega
  have f:stands us u b=(u.nm,b.at_):=by simp[stands,fI,HE g]
  rw[f];simp only[go_sem,seval,ab.empty,dD,Bt,Bu,d,aZ,vz,results60];exact⟨_,rfl,rfl⟩
end
set_option maxRecDepth 100000
set_option maxHeartbeats 8000000
def iA(n:Int):AV:=.i n
def iC(n:Int):List AV:=[.i n]
def b_(x:Sp):AV:=.agg (qU x)
def fiA(x:Fi):AV:=.agg (fiC x)
def J4:GT prog 103 3 1 8 iC iA false:=⟨NI,λ_=>rfl,λ_=>rfl,λ_=>rfl,Pe,.inr rfl,λl=>by
 induction l with
 |nil=>rfl
 |cons x l ih=>rw[aDm,<-ih];rfl,λ_=>rfl⟩
def ZN:∀l:List Int,wO (l.flatMap iC)=some l
 |[]=>rfl
 |x::l=>by rw[ap1];show an (wO (l.flatMap iC)) (λr=>some (x::r))=_;rw[ZN l];rfl
def abe:∀l:List Sp,ub (l.flatMap qU)=some l
 |[]=>rfl
 |x::l=>by rw[ap1];show an (ub (l.flatMap qU)) (λr=>some ((x.1,x.2)::r))=_;rw[abe l];rfl
def XR{T:Type}{f0}{rest}{et s}{dec}{c:T->List AV}{g:T->AV}{gJ}{H}{v}{l:List T}{r}(h:ej H et s c g v l)(a:rest r=true)(j:dec (l.flatMap c)=some l)(d:(gJ l).Perm l)(m:l.length<=1099511627776):
  ∃H',t_ f0 rest s dec c gJ f0 (v::r) H=some (.tup [],H')/\ej H' et s c g v (gJ l)/\Kw et s H H':=by
 rcases h with⟨rfl,rfl⟩|⟨x,rfl,rfl⟩|⟨h1,id,rfl,b⟩
 ·refine⟨H,?_,.inl ⟨d.eq_nil,rfl⟩,Kw.refl _ _ _⟩;simp[t_,a]
 ·have:gJ [x]=[x]:=List.perm_singleton.1 d;refine⟨H,?_,.inr (.inl ⟨x,this,rfl⟩),Kw.refl _ _ _⟩;simp[t_,a]
 ·have f:=d.length_eq;refine⟨H.set id (.row l.length et s ((gJ l).flatMap c)),?_,.inr (.inr ⟨λe=> ?_,id,by rw[f],by rw[ab.ec,ν rfl,b,f];rfl⟩),μ _,λi x k hi=> ?_⟩
  ·unfold t_;rw[ν rfl];simp only[b];rw[ν ⟨aK,aK,a,m⟩,ν ⟨aK,aK⟩,j];simp only[an];simp
  ·grind
  ·rw[ab.ec,κ (by rintro rfl;rw[b] at hi;cases hi;exact k _ _ rfl)];exact hi
def Hh(l:List Int):(vA l).Perm l:=List.mergeSort_perm _ _
def Eh(l:List Sp):(rU l).Perm l:=List.mergeSort_perm _ _
def eqI(o)(i:Nat):(dQ o==(i:Int))=decide (o=some i):=by
 cases o with
 |none=>simp only[dQ,reduceCtorEq,decide_false,aDL];omega
 |some j=>have:=ez j i;simp[dQ];exact this
def aBo(o){ms:List Me}{i:Nat}{x:Me}(h:ms[i]? =some x):dC prog 73 (.vec o (ms.map cv)) (.i i)=some (.rptr [.i x.at_,.i (dQ x.to),.bool x.wr,.i x.bD]):=oC IG EC cv o h rfl
def ZO(n)(H):dS prog 103 1 [(0,.i n)] H=some (.vec .full [.i n],H):=tL NI (.i n) rfl rfl aA H
def adE(a b c)(H:ab):fY (.agg [a,b,c]) H=some (.ptr H.next 0,H.push (.z [a,b,c])):=by simp[fY,AV.width,AV.cells]
def yL(u:Un)(t:Int):Int:=match u.tk[t.toNat]? with|some k=>(k.2.1:Int)|none=>0
def R_(o){l:List Tok}{i:Nat}{x:Tok}(h:l[i]? =some x):dC prog 68 (.vec o (V l)) (.i i)=some (.rptr [.i x.1,.i x.2.1,.str x.2.2.1,.str x.2.2.2]):=oC Pf IC mj o h rfl
def acB(o){l:List Int}{i:Nat}{x:Int}(h:l[i]? =some x):dC prog 103 (.vec o (l.map iA)) (.i i)=some (.rptr [.i x]):=oC OE fo iA o h rfl
def adF(u:Un):(cU u)[2]? =some (.vec (au u.tk.length) (V u.tk)):=rfl
def QX:sR prog 4 44=some [.str,.int]:=af
def acC(u:Un):List.take 3 (List.drop 9 (cU u))=[.vec (au u.mp.bs.length) (u.mp.bs.map a_),.vec (au u.mp.ms.length) (u.mp.ms.map cv),.vec (au u.b1.length) (cw u.b1)]:=rfl
def Ju:List FuncId:=[37,99,66,36,24]
noncomputable def lj:Env:={P:=prog,G:=λf=>Ju.contains f,cl:=λf=>Ju.contains f,eX:=λ_=>false,dyn:=λi=>i==20,df:=λ_=>false,ext:=λ_ _ _=>none}
def axW:okF lj 37=true:=af
def axX:okF lj 99=true:=af
def axY:okF lj 66=true:=af
def axZ:okF lj 36=true:=af
def ax0:okF lj 24=true:=af
def ax1:lj.P=prog:=(rfl)
def aut:lj.dyn 7=false:=(rfl)
attribute [go_sem] ax1 aut
def cJ{f}(a:lj.cl f=true){args}{v}(h:aI prog (run lj) f args=some v)(H:ab):bt lj f args H=some (v,H):=xQ a h H
def dU2(u:Un):List AV:=(dU u).drop 2
def DF(u:Un):List AV:=(dU u).drop 9
def aBp(u:Un):List AV:=(dU u).drop 10
def auu(u:Un):cr prog 91 2 (.rptr (dU u))=some (.rptr (dU2 u)):=(B5 uY 2 _ rfl Ct).trans (ν (show 2<=14 by decide))
def auv(u:Un):cr prog 91 4 (.rptr (dU u))=some (.rptr (DF u)):=(B5 uY 4 _ rfl IK).trans (ν (show 9<=14 by decide))
def auw(u:Un):cr prog 89 0 (.rptr (DF u))=some (.rptr (DF u)):=(B5 IU 0 _ rfl Px).trans (ν (show 0<=5 by decide))
def ax2(u:Un):(dU2 u)[0]? =some (.vec (au u.tk.length) (V u.tk)):=rfl
def ax3(u:Un):(DF u)[0]? =some (.vec (au u.mp.bs.length) (u.mp.bs.map a_)):=rfl
def auy(u:Un):(aBp u)[0]? =some (.vec (au u.mp.ms.length) (u.mp.ms.map cv)):=rfl
def adG(u:Un):(dU u)[8]? =some (.vec (if u.tr.ks.isEmpty then .nil else .ro) (bA u.tr.ks)):=rfl
def J5(u:Un):(dU u)[9]? =some (.vec (au u.mp.bs.length) (u.mp.bs.map a_)):=rfl
def ax4(u):List.take 14 (dU u)=dU u:=rfl
def auz(u):(dU u).length=14:=rfl
def ax5(u):eE (dU u)=true:=rfl
def DG(u)(H:ab):fY (.agg (dU u)) H=some (.ptr H.next 0,H.push (.z (dU u))):=by simp[fY,AV.width,AV.cells]
def QY(u):(AV.agg (dU u)).aq=true:=rA _ _
attribute [go_sem] auu auv auw ax2 ax3 auy ax4 auz ax5
def fu(us:List Un):AV:=.vec (au us.length) (wU us)
def Cy(us):(fu us).aq=true:=iE (QS us)
def E5(us):(fu us).erase=fu us:=by simp[fu,AV.erase,AV.bare,kF]
noncomputable def Lz:=f37.c.r.l.r.b.b
def abf{us:List Un}{w}(t:us.length<=8):∀r i α H,us.drop i=r->i+r.length=us.length->α 0=.vec (au us.length) (wU us)->α 1=.str w->α 5=.i i->
  aD (aJ (aO lj Lz) α H) λe o H'=>(e=.exit 0/\eO r w=none)\/(e=.ret/\∃(u:Un) (j:Nat),eO r w=some u/\us[j]? =some u/\o 4=.i j)
 |[],i,α,⟨n,L⟩,h,m,a0,a1,a5=>by have k:Lz=.seq (.seq _ _) (.seq (.block _ (.seq _ _)) _):=rfl;have d:=d_ (a:=i) (b:=us.length) (by simp at m;omega);have f:(wU us).length=us.length:=E4 us;rw[aG,k];simp only[go_sem,seval,a0,a5,f,d];exact .inl ⟨aK,rfl⟩
 |u::r,i,α,⟨n,L⟩,h,m,a0,a1,a5=>by
  have k:Lz=.seq (.seq _ _) (.seq (.block _ (.seq _ _)) _):=rfl;simp at m;have d:=dM (a:=i) (b:=us.length) aa;have f:(wU us).length=us.length:=E4 us;have p:us[i]? =some u:=by have:=Λ (·[0]?) h;simpa using this
  have s:us.drop (i+1)=r:=by rw[<-List.drop_drop,h];rfl
  have q:=rS (au us.length) p;have c:eO (u::r) w=if(u.nm==w)=true then some u else eO r w:=by unfold eO;rw[aD1];cases(u.nm==w)<;>rfl
  rw[aG,k]
  cases hq:(u.nm==w) with
  |true=>rw[hq,ν rfl] at c;simp only[go_sem,seval,a0,a1,a5,f,d,q,rT,hq];exact .inr ⟨aK,u,i,c,p,by simp[go_sem]⟩
  |false=>
   rw[hq,κ ai] at c;simp only[go_sem,seval,a0,a1,a5,f,d,q,rT,hq,(fD i aa)];refine aT ((λα=>abf (w:=w) t r (i+1) α ⟨n,L⟩ s aa) _ ?_ ?_ ?_) ?_
   case refine_4=>
    rintro e o H' (⟨g,l⟩|⟨g,x,j,l,v⟩)
    ·exact .inl ⟨g,by rw[c];exact l⟩
    ·exact .inr ⟨g,x,j,by rw[c];exact l,v⟩
   all_goals simp[go_sem,a0,a1]
def abg(us:List Un)(w)(f:us.length<=8):(eO us w=none/\aI prog (run lj) 37 [fu us,.str w]=some (.i (-1)))\/∃(u:Un) (j:Nat),eO us w=some u/\us[j]? =some u/\aI prog (run lj) 37 [fu us,.str w]=some (.i j):=by
 suffices hh:∃v,aI prog (run lj) 37 [fu us,.str w]=some v/\((eO us w=none/\v=.i (-1))\/∃(u:Un) (j:Nat),eO us w=some u/\us[j]? =some u/\v=.i j) by
  obtain⟨v,d,⟨a,rfl⟩|⟨u,j,a,b,rfl⟩⟩:=hh
  ·exact .inl ⟨a,d⟩
  ·exact .inr ⟨u,j,a,b,d⟩
 refine uO (c:=.seq _ (.seq (.seq _ (.block 0 (.loop Lz))) _)) rfl rfl func37 rfl (by rw[ntmps37];simp) (bW:=[fu us,.str w]) (by simp[E5];rfl) ?_ ?_
 ·show((fu us).aq&&_)=true;rw[Cy];rfl
 simp only[go_sem,seval,ab.empty,fu];simp only[cg];refine bL (mG (abf (w:=w) f us 0 _ _ rfl ai ?_ ?_ ?_)) ?_
 case refine_4=>
  rintro _ ⟨e,ae,H',rfl,⟨rfl,a⟩|⟨rfl,u,j,a,b,g⟩⟩
  ·simp only[go_sem,seval,results37];exact⟨_,_,_,rfl,rfl,.inl ⟨a,rfl⟩⟩
  ·simp only[go_sem,seval,g,results37];exact⟨_,_,_,rfl,rfl,.inr ⟨u,j,a,b,rfl⟩⟩
 all_goals simp[go_sem,]
 all_goals(try rfl)
def FO(bs:List Bi)(w:List UInt8)(i:Nat):Bool:=match bs[i]? with|some b=>decide (b.k=2)&&(b.w==w)|none=>false
def E6(bs:List Bi)(w:List UInt8)(n:Nat):Option Nat:=(List.range n).reverse.find? (FO bs w)
def agc(bs:List Bi)(w:List UInt8):nR bs w=E6 bs w bs.length:=rfl
def afj(bs)(w)(n:Nat):E6 bs w (n+1)=if FO bs w n=true then some n else E6 bs w n:=by unfold E6;rw[List.range_succ,List.reverse_append,List.reverse_singleton,aFk,aD1];cases FO bs w n<;>rfl
noncomputable def LA:=f99.c.r.r.l.r.b.b
def abh{u:Un}{w:List UInt8}(l:u.mp.bs.length<=1000000):∀d i α,i+d=u.mp.bs.length->α 1=.str w->α 2=.ptr 0 0->α 5=.i (dQ (E6 u.mp.bs w i))->α 6=.i i->
  aD (aJ (aO lj LA) α ⟨1,[(0,.z (dU u))]⟩) λe n H'=>e=.exit 0/\n 5=.i (dQ (nR u.mp.bs w))
 |0,i,α,j,a1,a2,a5,a6=>by have g:LA=.seq (.seq _ _) (.seq (.block _ (.seq _ _)) _):=rfl;have hi:i=u.mp.bs.length:=aa;subst hi;have c:=d_ (aDF u.mp.bs.length);have f:(u.mp.bs.map a_).length=u.mp.bs.length:=φ ..;rw[aG,g];simp only[go_sem,seval,a2,a6,J5,f,c];refine⟨aK,?_⟩;rw[agc];simp[go_sem,a5]
 |d+1,i,α,j,a1,a2,a5,a6=>by
  have g:LA=.seq (.seq _ _) (.seq (.block _ (.seq _ _)) _):=rfl;have hi:i<u.mp.bs.length:=aa;have c:=dM hi;have f:(u.mp.bs.map a_).length=u.mp.bs.length:=φ ..;obtain⟨b,hb⟩:=fG hi;have h:=w_ (au u.mp.bs.length) hb;have w1:=fD i aa;have m:FO u.mp.bs w i=(decide (b.k=2)&&(b.w==w)):=by simp only[FO,hb]
  have a:((b.k:Int)==2)=decide (b.k=2):=ez b.k 2;have ih:=λα=>abh (u:=u) (w:=w) l d (i+1) α aa;rw[afj,m] at ih;rw[aG,g]
  cases hk:decide (b.k=2) with
  |false=>
   rw[hk] at a ih;simp only[Bool.false_and,τ,aDf] at ih;simp only[go_sem,seval,a2,a6,J5,f,c,h,w1,a];refine ih _ ?_ ?_ ?_ ?_;all_goals simp[go_sem,a1,a2,a5]
  |true=>
   cases hq:(b.w==w) with
   |false=>
    rw[hk] at a ih;rw[hq] at ih;simp only[Bool.and_false,τ,aDf] at ih;simp only[go_sem,seval,a1,a2,a6,J5,f,c,h,w1,a,hq];refine ih _ ?_ ?_ ?_ ?_;all_goals simp[go_sem,a1,a2,a5]
   |true=>
    rw[hk] at a ih;rw[hq] at ih;simp only[aEa,aDp,dQ] at ih;simp only[go_sem,seval,a1,a2,a6,J5,f,c,h,w1,a,hq];refine ih _ ?_ ?_ ?_ ?_;all_goals simp[go_sem,a1,a2]
def auA(u:Un)(w:List UInt8)(b:u.mp.bs.length<=1000000):aI prog (run lj) 99 [.agg (dU u),.str w]=some (.i (dQ (nR u.mp.bs w))):=by
 refine fk (c:=.seq _ (.seq _ (.seq (.seq _ (.block 0 (.loop LA))) _))) rfl rfl func99 rfl (by rw[ntmps99];simp) (bW:=[.agg (dU u),.str w]) (by simp[CP];rfl) ?_ ?_ rfl
 ·show((AV.agg (dU u)).aq&&true)=true;rw[QY];rfl
 simp[go_sem,ab.empty,DG];simp[cg];refine bL (dE (abh (u:=u) (w:=w) b u.mp.bs.length 0 _ aa ?_ ?_ ?_ ?_)) ?_
 case refine_5=>
  rintro _ ⟨ae,H',rfl,a⟩;simp only[go_sem,seval,a,results99];exact⟨_,rfl,rfl⟩
 all_goals simp[go_sem,]
 all_goals(try rfl)
section
variable {us:List Un}
def ZP(c:Proj us)(w):(eO us w=none/\∀H,bt lj 37 [.vec (au us.length) (wU us),.str w] H=some (.i (-1),H))\/∃(u:Un) (j:Nat),eO us w=some u/\us[j]? =some u/\∀H,bt lj 37 [.vec (au us.length) (wU us),.str w] H=some (.i j,H):=by
 rcases abg us w c.iJ with⟨a,b⟩|⟨u,j,a,b,d⟩
 ·exact .inl ⟨a,λH=>cJ rfl b H⟩
 ·exact .inr ⟨u,j,a,b,λH=>cJ rfl d H⟩
def Gv(b:Bi)(H:ab):fY (a_ b) H=some (.ptr H.next 0,H.push (.z [.i b.at_,.i b.k,.str b.w,.i b.item])):=by simp[fY,a_,AV.width,AV.cells]
def akj(l:Proj us)(u)(b)(hb:yB u b):aI prog (run lj) 66 [fu us,.agg (dU u),a_ b]=some (.tup [.str (fI us u b).1,.i (dQ (fI us u b).2)]):=by
 refine fk (c:=.seq _ (.seq (.seq _ (.cond _ _ _)) (.seq _ (.seq _ (.seq (.seq _ (.cond _ _ _)) (.seq _ _)))))) rfl rfl func66 rfl (by rw[ntmps66];simp) (bW:=[fu us,.agg (dU u),a_ b]) (by simp[CP,E5];rfl) ?_ ?_ rfl
 ·show((fu us).aq&&((AV.agg (dU u)).aq&&_))=true;rw[Cy,QY];rfl
 by_cases a:b.k=1
 ·obtain⟨n,y,p,o⟩:=hb a;have h:=HD a p o;have e:((b.k:Int) != 1)=false:=by rw[a];rfl
  have r:=mB (if u.tr.ks.isEmpty then .nil else .ro) p;have s:dC prog 69 (.vec (if n.ks.isEmpty then .nil else .ro) (bA n.ks)) (.i 0)=some (.rptr (aC y)):=mB (i:=0) _ (by rw[o];rfl);rcases ZP l y.w with⟨d,g⟩|⟨m,j,d,t,g⟩
  ·have hi:fI us u b=(y.w,none):=by simp[fI,h,d]
   have q:decide ((-1:Int)<0)=true:=rfl;rw[hi];simp only[go_sem,seval,ab.empty,fu,DG,Gv,adG,e,r,s,I3,Ic,g,dQ,results66];exact⟨_,rfl,rfl⟩
  ·have hi:fI us u b=(y.w,nR m.mp.bs b.w):=by simp[fI,h,d]
   have f:=λH=>cJ rfl (auA m b.w (by have:=(l.pZ m (uP d).1).iJ;omega)) H;have q:=bP ((j:Int)<0);rw[hi];simp only[go_sem,seval,ab.empty,fu,DG,Gv,adG,e,r,s,rS (au us.length) t,I3,Ic,g,f,q,results66];exact⟨_,rfl,rfl⟩
 ·have e:((b.k:Int) != 1)=true:=by have:=rO b.k 1;rw[ξ a] at this;exact this
  have hi:fI us u b=([],none):=by simp[fI,HE a]
  rw[hi];simp only[go_sem,seval,ab.empty,fu,DG,Gv,e,dQ,results66];exact⟨_,rfl,rfl⟩
def akk(l:Proj us)(u)(b)(hb:yB u b):aI prog (run lj) 36 [fu us,.agg (dU u),a_ b]=some (.agg [.str (stands us u b).1,.i ((stands us u b).2:Int)]):=by
 refine fk (c:=.seq _ (.seq _ (.seq (.seq _ (.cond _ (.seq _ _) _)) (.seq _ _)))) rfl rfl func36 rfl (by rw[ntmps36];simp) (bW:=[fu us,.agg (dU u),a_ b]) (by simp[CP,E5];rfl) ?_ ?_ rfl
 ·show((fu us).aq&&((AV.agg (dU u)).aq&&_))=true;rw[Cy,QY];rfl
 have d:=λH=>cJ rfl (akj l u b hb) H;simp[fu,a_] at d
 cases hj:(fI us u b).2 with
 |none=>
  have g:stands us u b=(u.nm,b.at_):=by simp[stands,hj]
  have f:decide (dQ none≥0)=false:=rfl;rw[hj] at d;rw[g];simp only[go_sem,seval,ab.empty,fu,DG,Gv,d,f,aZ,rT,results36];exact⟨_,rfl,rfl⟩
 |some j=>
  have a:b.k=1:=by
   by_cases a:b.k=1
   ·exact a
   ·have hi:fI us u b=([],none):=by simp[fI,HE a]
    rw[hi] at hj;cases hj
  obtain⟨n,y,z,x⟩:=hb a;have h:=HD a z x;have p:(fI us u b).1=y.w:=by simp[fI,h]
  have t:(fI us u b).2=(eO us y.w).bind λm=>nR m.mp.bs b.w:=by simp[fI,h]
  have r:=hj;rw[t] at hj;rcases ZP l y.w with⟨e,o⟩|⟨m,q,e,v,o⟩
  ·rw[e] at hj;cases hj
  ·rw[e] at hj;simp at hj;obtain⟨c,s⟩:=fG (MJ hj);have g:stands us u b=(y.w,c.at_):=by simp[stands,r,p,e,Ly,s]
   have f:=bJ (((j:Nat):Int)≥0);rw[p,r] at d;rw[g];simp only[go_sem,seval,ab.empty,fu,DG,Gv,d,o,f,aZ,w_ (au m.mp.bs.length) s,rS (au us.length) v,dQ,results36];exact⟨_,rfl,rfl⟩
end
set_option maxRecDepth 100000
set_option maxHeartbeats 8000000
def eS(H H':ab):Prop:=H.next<=H'.next/\∀i x,H.get i=some x->H'.get i=some x
def eS.refl(H:ab):eS H H:=⟨μ _,λ_ _ h=>h⟩
def eS.trans{H a b:ab}(h:eS H a)(g:eS a b):eS H b:=⟨aDj h.1 g.1,λi x hi=>g.2 i x (h.2 i x hi)⟩
def eS.push(H:ab)(y):eS H (H.push y):=⟨awF _,λi x hi=>by
 rw[ab.dT,κ (by have:=ab.eg hi;omega)];exact hi⟩
def eS.grow{H H'}(h:eS H H'){et}{o}{n}(g:bY H et o n):bY H' et o n:=g.bU λj m a=>h.2 _ _ a
def acD:sR prog 4 49=some [.str,.int]:=af
def aBq(o){ms:List Me}{i:Nat}{x:Me}(h:ms[i]? =some x):dC prog 86 (.vec o (ms.map cv)) (.i i)=some (.rptr [.i x.at_,.i (dQ x.to),.bool x.wr,.i x.bD]):=oC IM E1 cv o h rfl
section
variable {us:List Un} {u:Un} {i:Nat}
end
set_option maxRecDepth 100000
set_option maxHeartbeats 8000000
section
variable {us:List Un} {u:Un} {i:Nat}
end
def go_sp:∀l:List Sp,AV.aq.go (l.map b_)=true
 |[]=>rfl
 |x::l=>by show((b_ x).aq&&AV.aq.go (l.map b_))=true;rw[go_sp l];rfl
end Go.Proofs.YtmehamiifalmaaaGreatDoor
namespace Go.Ab
open Go
section
variable {E:Env} {call:ck} {ops:Array Oper} {yN:az->ab->Bool} {fuel:Nat} {listed:Array Bool} {α:az} {H:ab}
end
def J6(x:bH):Prop:=xY x x=true
def AG(H:ab):Prop:=∀p∈H.jx,J6 p.2
def XS:∀{l:List (Nat×bH)} {i:Nat} {y:bH} {p:Nat×bH},p∈aH l i y->p∈l\/p.2=y
 |[],i,y,p,h=>by cases h
 |(k,x)::r,i,y,p,h=>by
  simp[aH] at h;split at h
  ·rcases Ν.1 h with rfl|h
   ·exact .inr rfl
   ·exact .inl (Η _ h)
  ·rcases Ν.1 h with rfl|h
   ·exact .inl as1
   ·exact(XS h).imp_left (Η _)
def AG.set{n}{L}(h:AG ⟨n,L⟩)(i){y}(c:J6 y):AG ⟨n,aH L i y⟩:=λp b=>by
 rcases XS b with a|a
 ·exact h p a
 ·rw[a];exact c
def AG.push{H:ab}(h:AG H){y}(c:J6 y):AG (H.push y):=λp b=>by
 rcases Ν.1 b with rfl|a
 ·exact c
 ·exact h p a
end Go.Ab
namespace Go.Proofs.YtmehamiifalmaaaGreatDoor
open Go Go.Ab Go.Proofs.Tryz
set_option maxRecDepth 100000
set_option maxHeartbeats 8000000
def aBr:Array Oper->Bool:=λops=>ops.size==8&&(match ops[7]? with|some o=>(match o.op with| .store 69 _ _=>true|_=>false)|none=>false)
structure wP(H:ab)(l:List Nd):Prop where
 aBs:AG H
 k:H.get 1=some (.z [.vec .ro [.i 6]])
 o:∃te v,H.get 2=some (.c te [v])/\ej H 71 6 aC aB v l
def Ko(H H':ab):Prop:=H.next<=H'.next/\∀i te cs,i≠2->H.get i=some (.c te cs)->H'.get i=some (.c te cs)
def Ko.refl(H:ab):Ko H H:=⟨μ _,λ_ _ _ _ h=>h⟩
def Ko.trans{H a b:ab}(h:Ko H a)(g:Ko a b):Ko H b:=⟨aDj h.1 g.1,λi te cs hi c=>g.2 i te cs hi (h.2 i te cs hi c)⟩
def Ko.push(H:ab)(y):Ko H (H.push y):=⟨awF _,λi te cs _ hi=>by
 rw[ab.dT,κ (by have:=ab.eg hi;omega)];exact hi⟩
def wP.push{H:ab}{l}(h:wP H l){y}(d:J6 y):wP (H.push y) l:=by
 have a:∀i x,H.get i=some x->(H.push y).get i=some x:=λi x hi=>by rw[ab.dT,κ (by have:=ab.eg hi;omega)];exact hi
 obtain⟨te,v,b,c⟩:=h.o;exact⟨h.aBs.push d,a _ _ h.k,te,v,a _ _ b,c.bU λi n cs hi=>a _ _ hi⟩
def ej.len{T:Type}{P}{t et s b}{c:T->List AV}{g:T->AV}{ag}(a:GT P t et s b c g ag){H}{v}{l:List T}(h:ej H et s c g v l):gD P #[t] [v]=some (.i l.length):=by rcases h with⟨rfl,rfl⟩|⟨x,rfl,rfl⟩|⟨h1,id,rfl,h3⟩<;>simp[gD,a.app.el]
end Go.Proofs.YtmehamiifalmaaaGreatDoor
