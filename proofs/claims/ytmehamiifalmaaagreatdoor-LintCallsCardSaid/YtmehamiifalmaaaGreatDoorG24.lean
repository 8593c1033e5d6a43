/- LintCalls: part 25 of its proof. -/
import Derived.Test.YtmehamiifalmaaaGreatDoorG23
set_option linter.all false
namespace Go.Proofs.YtmehamiifalmaaaGreatDoor
open Go Go.Ab Go.Proofs.Tryz
set_option maxRecDepth 100000
set_option maxHeartbeats 8000000
def ayH:fZ.cl 29=false:=af
attribute [go_sem] ayH
variable {us:List Un} {u:Un}
def apM(b:Proj us)(w)(H):bt fZ 20 [.rptr [.vec (au us.length) (vU us)],.str w] H=some (.tup [.agg (cU ((eO us w).getD xC)),.bool (eO us w).isSome],H):=
 ji (E:=fh) (fs:=[20]) rfl rfl (λa H=>by
  show bQ Au (bQ (bf dv [9]) (bf fh [20])) 20 a H=_
  rw[gT (λa H=>XX aA a H),gT (ep rfl)]) rfl (PK b.gJ b.iJ w) (ZU _ _) (ZV _ _) H
def Av{n:Nat}(l:List AV):(AV.vec (au n) l).erase=.vec (au n) l:=by simp[AV.erase,AV.bare,kF]
def auW(b:jV us)(H):bt fZ 9 [.rptr [.vec (au us.length) (vU us)]] H=some (.vec (au (eu us).length) ((eu us).map fj),H):=
 ji (E:=dv) (fs:=[9]) rfl rfl (λa H=>by
  show bQ Au (bQ (bf dv [9]) (bf fh [20])) 9 a H=_
  rw[gT (λa H=>XX aA a H),rH (ep rfl)]) rfl (PO b) (Av _) (iE (go_ca _)) H
def XY(x:Sy)(H:ab):dS prog 40 1 [(0,.agg [.str x.1,.i x.2])] H=some (.vec .full [.agg [.str x.1,.i x.2]],H):=tL Aa (cL x) rfl rfl aA H
def Jw{H:ab}{y v}{l:List Sy}(h:ej H 44 2 lA cL v l):ej (H.push y) 44 2 lA cL v l:=h.bU λk m cs a=>(eS.push H _).2 _ _ a
noncomputable def GA:=f10.c.r.r.r.l.r.b.b
def OS{bs:List Bi}{o}(C:bs.length<=4000){fin:List Sy}:∀r k acc v α H,bs.drop k=r->fin=acc++nM r->acc.length<=k->ej H 44 2 lA cL v acc->
  α 0=.rptr [.vec (au us.length) (vU us)]->α 5=v->α 19=.vec o (bs.map a_)->α 20=.i bs.length->α 21=.i k->
  aD (aJ (aO fZ GA) α H) λe j H'=>e=.exit 0/\∃d,ej H' 44 2 lA cL d fin/\j 5=d/\j 0=.rptr [.vec (au us.length) (vU us)]
 |[],k,acc,v,α,⟨n,L⟩,x,p,R,y,a0,a5,g,a20,c=>by have z:GA=.seq _ (.seq _ (.seq (.block _ (.seq _ (.seq _ _))) _)):=rfl;have h:bs.length<=k:=Κ.1 x;have q:=d_ (a:=k) (b:=bs.length) (by omega);simp[nM] at p;subst p;rw[aG,z];simp only[go_sem,seval,a20,c,q];exact⟨aK,v,y,by simp[go_sem,a5],by simp[put,a0]⟩
 |b::r,k,acc,v,α,⟨n,L⟩,x,p,R,y,a0,a5,g,a20,c=>by
  have z:GA=.seq _ (.seq _ (.seq (.block 1 (.seq _ (.seq _ _))) _)):=rfl;obtain⟨hb,hi,D⟩:=mD x;have q:=dM hi;have A:=yC o hb;have w1:=fD k aa;have s:=aY (n<n+1);have B:ej ⟨n+1,(n,.k 102 [.i b.at_,.i b.k,.str b.w,.i b.item])::L⟩ 44 2 lA cL v acc:=Jw y;have l:((b.k:Int)==2)=decide (b.k=2):=ez b.k 2;rw[aG,z]
  have skip:(decide (b.k=2)&&(b.w==ed))=false->∀f:az,f 0=.rptr [.vec (au us.length) (vU us)]->f 5=v->f 19=.vec o (bs.map a_)->f 20=.i bs.length->f 21=.i (k+1:Nat)->
    aD (aJ (aO fZ GA) f ⟨n+1,(n,.k 102 [.i b.at_,.i b.k,.str b.w,.i b.item])::L⟩) λe j H'=>e=.exit 0/\∃d,ej H' 44 2 lA cL d fin/\j 5=d/\j 0=.rptr [.vec (au us.length) (vU us)]:=λP f J I N M u=>
   OS (o:=o) C r (k+1) acc v f ⟨n+1,(n,.k 102 [.i b.at_,.i b.k,.str b.w,.i b.item])::L⟩ D (by rw[p,nM,aEI,P];rfl) (by omega) B J I N M u
  by_cases h:b.k=2
  ·rw[π h] at l
   cases hw:b.w==ed with
   |true=>
    have Q:fin=acc++[(ed,b.at_)]++nM r:=by rw[p,nM,aEI,ν (by rw[hw];simp[h])];simp[nM]
    obtain⟨d,⟨n2,F⟩,K,S,q3⟩:=NL (m:=λt=>t==40) DN rfl .full (ed,b.at_) B aa aa;have E:cj (λt=>t==40) prog 40 40 v (.vec .full [.agg [.str ed,.i b.at_]]) ⟨n+1,(n,.k 102 [.i b.at_,.i b.k,.str b.w,.i b.item])::L⟩=some (d,⟨n2,F⟩):=K;have G:=XY (ed,b.at_);unfold ed at hw G E;simp only[go_sem,seval,a0,a5,g,a20,c,q,A,s,l,hw,w1,aZ,G,cQ,E];refine OS (o:=o) C r (k+1) (acc++[(ed,b.at_)]) d _ ⟨n2,F⟩ D Q aX S ?_ ?_ ?_ ?_ ?_;all_goals simp[go_sem,a0,g,a20]
   |false=>
    have O:=hw;unfold ed at hw;simp only[go_sem,seval,a0,a5,g,a20,c,q,A,s,l,hw,w1];refine skip (by rw[O];simp) _ ?_ ?_ ?_ ?_ ?_;all_goals simp[go_sem,a0,a5,g,a20]
  ·rw[ξ h] at l;simp only[go_sem,seval,a0,a5,g,a20,c,q,A,s,l,w1];refine skip (by simp[h]) _ ?_ ?_ ?_ ?_ ?_;all_goals simp[go_sem,a0,a5,g,a20]
structure InvR(cs:List Ca)(l out:List Sy):Prop where
 sa:out.Nodup
 qs:∀s∈out,s∈l\/gA cs l s
def InvR.len{cs l out}(h:InvR cs l out):out.length<=l.length+cs.length:=by have:=Hi (m:=l++cs.map (·.2)) h.sa λs a=>(h.qs s a).elim (aDo _) λh=>aEg _ h.to;simpa using this
noncomputable def J9:=f10.c.r.r.r.r.r.l.r.b.b
noncomputable def DO:=J9.r.l.b.r.b.b
noncomputable def TG:=DO.r.r.l.b.r.l.o
def aBF(o){l:List Ca}{i:Nat}{x:Ca}(h:l[i]? =some x):dC prog 38 (.vec o (l.map fj)) (.i i)=some (.rptr [.str x.1.1,.i x.1.2,.str x.2.1,.i x.2.2]):=oC I1 E2 fj o h rfl
section
variable {cs:List Ca} {l:List Sy} {o8:Ab.Own}
def OT(hc:cs.length<=128000000)(hl:l.length<=4000){i:Nat}{x:Sy}:∀r k out v α H,cs.drop k=r->InvR cs l out->out[i]? =some x->ej H 44 2 lA cL v out->
  α 5=v->α 8=.vec o8 (cs.map fj)->α 9=.i i->α 48=.vec o8 (cs.map fj)->α 49=.i cs.length->α 50=.i k->
  aD (aJ (aO fZ DO) α H) λe y H'=>e=.exit 4/\∃u w,InvR cs l (out++u)/\ej H' 44 2 lA cL w (out++u)/\y 5=w/\(∀c∈r,c.1=x->c.2∈out++u)/\y 8=.vec o8 (cs.map fj)/\y 9=.i i
 |[],k,out,v,α,⟨n,L⟩,T,C,D,hv,a5,a8,B,g,f,j=>by have hB:DO=.seq _ (.seq _ (.seq (.block _ (.seq _ (.seq _ (.cond _ _ _)))) _)):=rfl;have hk:cs.length<=k:=Κ.1 T;have I:=d_ (a:=k) (b:=cs.length) (by omega);rw[aG,hB];simp only[go_sem,seval,f,j,I];refine⟨aK,[],v,by rw[aDi];exact C,by rw[aDi];exact hv,by simp[go_sem,a5],λc h=>(by cases h),?_⟩;simp[put,a8,B]
 |c::r,k,out,v,α,⟨n,L⟩,T,C,D,hv,a5,a8,B,g,f,j=>by
  have hB:DO=.seq _ (.seq _ (.seq (.block 5 (.seq _ (.seq (.region 16 TG.toArray true) (.cond _ _ _)))) _)):=rfl;obtain⟨hx,hi,bq⟩:=mD T;have hm:=Β hx;have oe:=C.len;have I:=dM hi;have x1:=aBF o8 hx;have w1:=fD k aa;have Q:=aY (n<n+1);have K:ej ⟨n+1,(n,.k 48 [.str c.1.1,.i c.1.2,.str c.2.1,.i c.2.2])::L⟩ 44 2 lA cL v out:=Jw hv;obtain⟨p,X,M⟩:=K.ix DN D;rw[show cL x=.agg [.str x.1,.i x.2] from rfl] at M;have F:=λb=>acK b c.1.1 x.1 c.1.2 x.2;obtain⟨Z,hZ,b1,b2,b3,U⟩:∃A,A=TG.toArray/\behind A A.size 11 1=true/\behind A A.size 11 5=true/\behind A A.size 11 10=true/\yl A 7=some 61:=⟨_,rfl,af,af,af,af⟩;have hR:∀α H,aP fZ (run fZ) aJ (.region 16 TG.toArray true) α H=an (eP fZ (run fZ) Z 0 [_,_,_,_,_,_,_,_,_,_,_,_,_,_] [] [] α H) λr=>some (.normal,r.1,r.2):=λα H=>by rw[m_ _ _ rfl rfl,hZ];exact rfl
  have skip:(c.1=x->c.2∈out)->∀(q:az) (N:ab),ej N 44 2 lA cL v out->q 5=v->q 8=.vec o8 (cs.map fj)->q 9=.i i->q 48=.vec o8 (cs.map fj)->q 49=.i cs.length->q 50=.i (k+1:Nat)->
    aD (aJ (aO fZ DO) q N) λe y H'=>e=.exit 4/\∃u w,InvR cs l (out++u)/\ej H' 44 2 lA cL w (out++u)/\y 5=w/\(∀d∈c::r,d.1=x->d.2∈out++u)/\y 8=.vec o8 (cs.map fj)/\y 9=.i i:=λW q N g1 d5 d8 d9 S V P=>by
   refine aT (OT hc hl r (k+1) out v q N bq C D g1 d5 d8 d9 S V P) ?_;rintro e y H' ⟨rfl,u,w,R,q2,q3,q4,q5⟩;refine⟨rfl,u,w,R,q2,q3,λd o O=> ?_,q5⟩;rcases Ν.1 o with rfl|o
   ·exact aDo _ (W O)
   ·exact q4 d o O
  rw[aG,hB];by_cases E:c.1=x
  ·have o:decide ((c.1.1,c.1.2)=(x.1,x.2))=true:=π E;rw[o] at F;have BA:x∈l\/gA cs l x:=C.qs x (Β D);have R1:gA cs l c.2:=BA.elim (λh=>.one hm (E▸h)) λh=>.more hm (E▸h);have J:=agf K (by omega) c.2;have G:ej ((ab.push ⟨n+1,(n,.k 48 [.str c.1.1,.i c.1.2,.str c.2.1,.i c.2.2])::L⟩ (.z [.str c.2.1,.i c.2.2])).push (.z [.str c.2.1,.i c.2.2])) 44 2 lA cL v out:=Jw (Jw K);have y3:=aY (n<n+1+1+1);have y4:=dw (n+1+1=n);have y5:=dw (n+1=n)
   cases eZ:out.contains c.2 with
   |true=>
    rw[eZ] at J;simp only[go_sem,seval,a5,a8,B,g,f,j,I,x1,Q,hR,X,M,F,Z5,J,b1,b2,b3,U,aDG,aEa,ω,w1];refine skip (λ_=>Θ.1 eZ) _ _ G ?_ ?_ ?_ ?_ ?_ ?_;all_goals simp[go_sem,a5,a8,B,g,f]
   |false=>
    rw[eZ] at J;simp only[go_sem,seval,a5,a8,B,g,f,j,I,x1,Q,hR,X,M,F,Z5,J,b1,b2,b3,U,aDG,aEa,Α,w1];have Y:¬c.2∈out:=by simpa using eZ
    have uw:InvR cs l (out++[c.2]):=⟨MK C.sa Y,λs W=>(Ω.1 W).elim (C.qs s) λh=>by rw[Μ.1 h];exact .inr R1⟩;obtain⟨w,⟨n2,L2⟩,R,q2,q3⟩:=NL (m:=λt=>t==40) DN rfl .full c.2 G aa aa;have j9:cj (λt=>t==40) prog 40 40 v (.vec .full [.agg [.str c.2.1,.i c.2.2]]) ⟨n+1+1+1,(n+1+1,.z [.str c.2.1,.i c.2.2])::(n+1,.z [.str c.2.1,.i c.2.2])::(n,.k 48 [.str c.1.1,.i c.1.2,.str c.2.1,.i c.2.2])::L⟩=some (w,⟨n2,L2⟩):=R;simp only[y3,y4,y5,go_sem,seval,a5,j,w1,XY c.2,cQ,j9];refine aT ((λq=>OT hc hl r (k+1) (out++[c.2]) w q ⟨n2,L2⟩ bq uw (by rw[Ξ (ο.1 D).1];exact D) q2) _ ?_ ?_ ?_ ?_ ?_ ?_) ?_
    case refine_7=>
     rintro e y H' ⟨rfl,u,a',p1,p2,p3,p4,p5⟩;rw[adv] at p1 p2 p4;refine⟨rfl,[c.2]++u,a',p1,p2,p3,λd o O=> ?_,p5⟩;rcases Ν.1 o with rfl|o
     ·exact aEg _ (aDo _ (Μ.2 rfl))
     ·exact p4 d o O
    all_goals simp[go_sem,a5,a8,B,g,f]
  ·have o:decide ((c.1.1,c.1.2)=(x.1,x.2))=false:=ξ E;rw[o] at F;simp only[go_sem,seval,a5,a8,B,g,f,j,I,x1,Q,hR,X,M,F,U,w1];refine skip (λh=>(E h).elim) _ _ K ?_ ?_ ?_ ?_ ?_ ?_;all_goals simp[go_sem,a5,a8,B,g,f]
structure Ih(cs:List Ca)(l out:List Sy):Prop extends InvR cs l out where
 ini:∀s∈l,s∈out
 all:∀s,gA cs l s->s∈out
def ahl{out:List Sy}(d:∀s∈l,s∈out)(h:∀s∈out,∀c∈cs,c.1=s->c.2∈out):∀s,gA cs l s->s∈out:=λs e=>by
 induction e with
 |one a b=>exact h _ (d _ b) _ a rfl
 |more a _ ih=>exact h _ ih _ a rfl
def Z6(A:cs.length<=128000000)(y:l.length<=4000):∀d i out v α H,l.length+cs.length+1<=d+i->i<=out.length->InvR cs l out->(∀s∈l,s∈out)->(∀k s,k<i->out[k]? =some s->∀c∈cs,c.1=s->c.2∈out)->ej H 44 2 lA cL v out->
  α 5=v->α 8=.vec o8 (cs.map fj)->α 9=.i i->
  aD (aJ (aO fZ J9) α H) λe u H'=>e=.exit 2/\∃w f,Ih cs l w/\ej H' 44 2 lA cL f w/\u 5=f
 |d,i,out,v,α,⟨n,L⟩,B,gX,m,j,t,r,a5,a8,p=>by
  have O:J9=.seq (.seq _ (.cond _ _ _)) (.seq (.block 3 (.seq _ (.block 4 (.loop DO)))) _):=rfl;have oe:=m.len;have a:=r.Sa DN;have M:(cs.map fj).length=cs.length:=φ ..;rw[aG,O];by_cases hi:i<out.length
  ·have q:=dM hi;obtain⟨x,z⟩:=fG hi;have w1:=fD i aa;simp only[go_sem,seval,a5,a8,p,a,M,q];simp only[cg];refine bL (dE (OT A y (o8:=o8) (i:=i) (x:=x) cs 0 out v _ _ rfl m z r ?_ ?_ ?_ ?_ ?_ ?_)) ?_
   case refine_7=>
    rintro _ ⟨u,⟨C,E⟩,rfl,J,f,F,P,I,K,N,D⟩
    match d with
    |0=>exact absurd B (by omega)
    |d+1=>
     simp only[go_sem,seval,D,w1];refine Z6 A y d (i+1) (out++J) f _ ⟨C,E⟩ (by omega) (by rw[χ];omega) F (λs b=>aDo _ (j s b)) (λk s o b c h g=> ?_) P ?_ ?_ ?_
     ·rw[Ξ (by omega)] at b;by_cases G:k<i
      ·exact aDo _ (t k s G b c h g)
      ·have:k=i:=by omega
       subst this;rw[z] at b;cases b;exact K c h g
     all_goals simp[go_sem,I,N]
   all_goals simp[go_sem,a5,a8,p]
   all_goals(try rfl)
  ·have q:=d_ hi;have hie:i=out.length:=by omega
   simp only[go_sem,seval,a5,p,a,q];refine⟨aK,out,v,⟨m,j,ahl j λs b c h g=> ?_⟩,r,by simp[go_sem,a5]⟩;obtain⟨k,o⟩:=aDD b;exact t k s (by have:=(ο.1 o).1;omega) o c h g
end
def apN{H}{v}{l:List Sp}(h:ej H 44 2 qU b_ v l)(c:l.length<=1099511627776):∃H',dX fZ (run fZ) (.fn (.func 30) [] []) [v,.fn (.func 31) [] []] H=some (.tup [],H')/\ej H' 44 2 qU b_ v (rU l):=by obtain⟨H',a,b,h3⟩:=XR (f0:=30) (rest:=yK 31) (dec:=ub) (gJ:=rU) (r:=[.fn (.func 31) [] []]) h rfl (abe l) (Eh l) c;refine⟨H',?_,b⟩;rw[tg rfl rfl,zS rfl];show bQ Au (bQ (bf dv [9]) (bf fh [20])) 30 _ H=_;unfold bQ;have:Au 30 [v,.fn (.func 31) [] []] H=some (.tup [],H'):=a;rw[this]
def ayI{H:ab}{v}{l:List Sy}(h:ej H 44 2 lA cL v l):ej H 44 2 qU b_ v (l.map fP):=by
 rcases h with⟨rfl,rfl⟩|⟨x,rfl,rfl⟩|⟨a,id,rfl,b⟩
 ·exact .inl ⟨rfl,rfl⟩
 ·exact .inr (.inl ⟨fP x,rfl,rfl⟩)
 ·refine .inr (.inr ⟨by simpa using a,id,by rw[φ],?_⟩);rw[b,φ,List.flatMap_map];rfl
def ayJ:GT prog 40 44 2 24 qU b_ true:=⟨Aa,λ_=>rfl,λ_=>rfl,λ_=>rfl,Ce,.inl rfl,λl=>Js (c:=qU) (s:=2) (λ_=>rfl) l,λ_=>rfl⟩
def ahm{bs:List Bi}(h:(bs.map (·.at_)).Nodup):(nM bs).Nodup:=by unfold nM;have d:bs.Pairwise λa b=>a.at_≠b.at_:=aED.1 h;exact aED.2 ((d.filter _).imp λc e=>c (Λ Prod.snd e))
def ahn(us:List Un):fy us=nM ((eO us ed).getD xC).mp.bs:=by unfold fy;cases eO us ed<;>rfl
def afk(a:Proj us):(fy us).Nodup:=by
 unfold fy
 cases h:eO us ed with
 |none=>exact .nil
 |some u=>exact ahm (aFg.1 (a.pZ u (uP h).1).sa).1
def auX(a:Proj us)(w):((eO us w).getD xC).mp.bs.length<=4000:=by
 cases h:eO us w with
 |none=>exact aDT _
 |some u=>have:=(a.pZ u (uP h).1).iJ;simp only[aDR];omega
def apO(a:jV us):∃out,Ih (eu us) (fy us) out/\aI prog (run fZ) 10 [dD us]=some (.vec (au out.length) ((rU (out.map fP)).map b_)):=by
 suffices hh:∃v,aI prog (run fZ) 10 [dD us]=some v/\∃out,Ih (eu us) (fy us) out/\v=.vec (au out.length) ((rU (out.map fP)).map b_) by obtain⟨v,h,out,q,rfl⟩:=hh;exact⟨out,q,h⟩
 refine uO (c:=.seq _ (.seq _ (.seq _ (.seq (.seq _ (.block 0 (.loop GA))) (.seq _ (.seq (.seq _ (.block 2 (.loop J9))) (.seq _ (.seq _ _)))))))) rfl rfl func10 rfl (by rw[ntmps10];simp) (bW:=[dD us]) rfl ?_ ?_
 ·show((dD us).aq&&_)=true;rw[tM];rfl
 have d:=apM a.toProj ed;have e:=auX a.toProj ed;have y:=M7 a.toProj;have t:=D6 a;have b:=ahn us;generalize(eO us ed).getD xC=u at d e b;have w:(u.mp.bs.map a_).length=u.mp.bs.length:=φ ..;unfold ed at d;simp only[go_sem,seval,ab.empty,dD,kZ,d,FN,w];simp only[cg];refine bL (dE (OS (us:=us) (bs:=u.mp.bs) (o:=au u.mp.bs.length) e (fin:=fy us) u.mp.bs 0 [] (.vec .nil []) _ _ rfl (by rw[b];rfl) (μ _) (.inl ⟨rfl,rfl⟩) ?_ ?_ ?_ ?_ ?_)) ?_
 case refine_6=>
  rintro _ ⟨ae,⟨f,r⟩,rfl,m,p,n,i⟩;simp only[go_sem,seval,i,auW a];simp only[cg];refine bL (dE (Z6 (cs:=eu us) (l:=fy us) (o8:=au (eu us).length) t y ((fy us).length+(eu us).length+1) 0 (fy us) m _ ⟨f,r⟩ (μ _) (aDT _) ⟨afk a.toProj,λs h=>.inl h⟩ (λs h=>h) (λk s g=>absurd g (Nat.not_lt_zero _)) p ?_ ?_ ?_)) ?_
  case refine_4=>
   rintro _ ⟨gH,H2,rfl,out,v2,p1,p2,p5⟩;have oe:=p1.toInvR.len;obtain⟨H3,x,j⟩:=apN (ayI p2) (by rw[φ];omega);simp only[go_sem,seval,p5,x,results10];refine⟨_,_,.vec (au out.length) ((rU (out.map fP)).map b_),rfl,?_,out,p1,rfl⟩;have:=aa7 ayJ (λ_ _ _=>rfl) j;rw[(Eh _).length_eq,φ] at this;exact this
  all_goals(try simp[go_sem,n])
  all_goals(try rfl)
 all_goals(try simp[go_sem])
 all_goals(try rfl)
variable {us:List Un} {u:Un}
def Ad(x y:Sp):kE x y=true↔bl x.1 y.1=true\/(x.1=y.1/\x.2<y.2):=by unfold kE;rw[aD7,ap2];simp
def abw(x y:Sp)(h:kE x y=false)(k:kE y x=false):x=y:=by
 have b:¬(bl x.1 y.1=true\/(x.1=y.1/\x.2<y.2)):=λe=>by rw[<-Ad,h] at e;cases e
 have c:¬(bl y.1 x.1=true\/(y.1=x.1/\y.2<x.2)):=λe=>by rw[<-Ad,k] at e;cases e
 have a:x.1=y.1:=EU (by simpa using λe=>b (.inl e)) (by simpa using λe=>c (.inl e));have h3:¬x.2<y.2:=λe=>b (.inr ⟨a,e⟩);have h4:¬y.2<x.2:=λe=>c (.inr ⟨a.symm,e⟩);exact aFM a (by omega)
def PT{x y:Sp}(h:kE x y=true):kE y x=false:=by
 cases hk:kE y x with
 |false=>rfl
 |true=>
  rcases(Ad x y).1 h with a|⟨a,h2⟩<;>rcases(Ad y x).1 hk with k1|⟨k1,k2⟩
  ·rw[Nv a] at k1;cases k1
  ·rw[k1,uN] at a;cases a
  ·rw[a,uN] at k1;cases k1
  ·omega
def auY{x y z:Sp}(h:kE x y=true)(k:kE y z=true):kE x z=true:=by
 rw[Ad] at*
 rcases h with a|⟨a,h2⟩<;>rcases k with k1|⟨k1,k2⟩
 ·exact .inl (zR a k1)
 ·exact .inl (k1▸a)
 ·exact .inl (a▸k1)
 ·exact .inr ⟨a.trans k1,by omega⟩
def afl(l:List Sp):(rU l).Pairwise λx y=>kE y x=false:=by
 have:=List.pairwise_mergeSort (le:=λx y:Sp=> !kE y x) (λa b c d f=>by
  simp at*
  cases e:kE c a with
  |false=>rfl
  |true=>
   cases hb:kE b c with
   |true=>rw[auY hb e] at d;cases d
   |false=>
    have:=abw b c hb f;subst this
    rw[e] at d;cases d) (λa b=>by
  cases h:kE b a with
  |false=>simp
  |true=>simp[PT h]) l
 exact this.imp λh=>by simpa using h
def AH(us:List Un)(s:Sy):Prop:=∃u∈us,s.1=u.nm/\s.2<u.tk.length
def aho(a:Proj us)(e:u∈us){b:Bi}(hb:b∈u.mp.bs):AH us (stands us u b):=by
 unfold stands
 cases hj:(fI us u b).2 with
 |none=>exact⟨u,e,rfl,(a.pZ u e).lt _ (E7 hb)⟩
 |some j=>
  simp only;unfold fI at hj⊢
  cases hw:CQ u b with
  |none=>rw[hw] at hj;cases hj
  |some w=>
   rw[hw] at hj;simp only at hj⊢
   cases hf:eO us w with
   |none=>rw[hf] at hj;cases hj
   |some m=>rw[hf] at hj;have f:nR m.mp.bs b.w=some j:=hj;obtain⟨c,d⟩:=fG (MJ f);have hm:=uP hf;refine⟨m,hm.1,hm.2.symm,?_⟩;simp only[aDR,Ly,d];exact(a.pZ m hm.1).lt _ (E7 (Β d))
def XZ(f:jV us){c:Ca}(a:c∈eu us):AH us c.2:=by
 obtain⟨u,h,a⟩:=aFq.1 a;obtain⟨b,hb,a⟩:=aFq.1 a;unfold qp at a;split at a
 ·split at a
  ·obtain⟨g,hg,rfl⟩:=aDt.1 a;obtain⟨j,rfl,d,e,_⟩:=NS hg;have:DI us u (j:Int)=stands us u d:=by simp[DI,e]
   show AH us (DI us u (j:Int));rw[this];exact aho f.toProj h (Β e)
  ·cases a
 ·cases a
def akq(d:Proj us){s:Sy}(a:s∈fy us):AH us s:=by
 unfold fy at a
 cases h:eO us ed with
 |none=>rw[h] at a;cases a
 |some u=>rw[h] at a;obtain⟨b,hb,rfl⟩:=aDt.1 a;have c:=uP h;exact⟨u,c.1,c.2.symm,(d.pZ u c.1).lt _ (E7 (List.mem_filter.1 hb).1)⟩
def auZ(b:jV us){l:List Sy}{s}(h:gA (eu us) l s):AH us s:=by
 cases h with
 |one a _=>exact XZ b a
 |more a _=>exact XZ b a
def Z7{P:Sy->Bool}{us:List Un}{s:Sy}:s∈kR P us↔P s=true/\AH us s:=by
 unfold kR sd AH;simp only[aFq,aDt,List.mem_filter,List.mem_range'_1,aDT,aEB,aDz];constructor
 ·rintro⟨u,b,t,⟨e,a⟩,rfl⟩;exact⟨a,u,b,rfl,e⟩
 ·rintro⟨a,u,b,c,d⟩;exact⟨u,b,s.2,⟨d,by rw[<-c];exact a⟩,by rw[<-c]⟩
def VC{P:Sy->Bool}:∀{us:List Un},us.Pairwise xB->((kR P us).map fP).Pairwise λx y=>kE x y=true
 |[],h=>.nil
 |u::us,h=>by
  obtain⟨g,e⟩:=aDZ.1 h;rw[kR,ap1,aEw,aEC];refine⟨?_,VC e,λa d b hb=> ?_⟩
  ·unfold sd;rw[aED,aED];refine(List.pairwise_lt_range' (s:=0) (n:=u.tk.length) (step:=1)).filter _ |>.imp λ{a b} xr=> ?_
   exact(Ad _ _).2 (.inr ⟨rfl,by show(a:Int)<(b:Int);omega⟩)
  ·obtain⟨x,i,rfl⟩:=aDt.1 d;obtain⟨y,f,rfl⟩:=aDt.1 hb;obtain⟨t,_,rfl⟩:=aDt.1 i;obtain⟨v,c,k1,k2⟩:=(Z7.1 f).2;exact(Ad _ _).2 (.inl (by show bl u.nm y.1=true;rw[k1];exact g v c))
def akr(f:jV us){o1 o2:List Sy}(c:Ih (eu us) (fy us) o1)(d:wG (eu us) (fy us) o2):rU (o1.map fP)=(kR (jD (fy us) o2) us).map fP:=by
 have i:=VC (P:=jD (fy us) o2) f.gJ;have inj:∀{a b:Sy},fP a=fP b->a=b:=λ{a b} e=>by have k:a.1=b.1:=Λ (λx:Sp=>x.1) e;have e2:(a.2:Int)=(b.2:Int):=Λ (λx:Sp=>x.2) e;exact aFM k (by omega)
 have l:(o1.map fP).Nodup:=aED.2 (c.sa.imp λj e=>j (inj e));have m:((kR (jD (fy us) o2) us).map fP).Nodup:=i.imp λ{a b} h e=>by subst e;have:=PT h;rw[h] at this;cases this
 have hm:∀s:Sy,s∈o1↔s∈kR (jD (fy us) o2) us:=λs=>by
  rw[Z7];unfold jD;rw[aD7,Θ,Θ];constructor
  ·intro h;rcases c.qs s h with h|h
   ·exact⟨.inl h,akq f.toProj h⟩
   ·exact⟨.inr (d.all s h),auZ f h⟩
  ·rintro⟨h|h,_⟩
   ·exact c.ini s h
   ·exact c.all s (d.qs s h)
 have g:(o1.map fP).Perm ((kR (jD (fy us) o2) us).map fP):=by rw[List.perm_ext_iff_of_nodup l m];intro a;simp only[aDt];exact⟨λ⟨s,h,e⟩=>⟨s,(hm s).1 h,e⟩,λ⟨s,h,e⟩=>⟨s,(hm s).2 h,e⟩⟩
 exact List.Perm.eq_of_pairwise (le:=λx y=>kE y x=false) (λa b _ _ c d=>abw a b d c) (afl _) (i.imp λh=>PT h) ((Eh _).trans g)
end Go.Proofs.YtmehamiifalmaaaGreatDoor
namespace Go.Ab
open Go
def aks{P}{t et}{s b:Nat}(a:iZ P t et s b):strOf P t=s:=by simp[strOf,a.el,a.sz]
def s9(H:ab)(et:TypeId)(s:Nat)(o:Own)(n:Nat):Prop:=o=.full\/(∃k,o=.own k/\H.get k=some (.bB n et))\/(∃k j,o=.cut true k j s/\H.get k=some (.bB (j+n) et))\/∃k j,o=.cut false k j s/\H.get k=some (.mf (j+n) et)
def KQ(H H':ab):Prop:=H.next<=H'.next/\(∀i te cs,H.get i=some (.c te cs)->H'.get i=some (.c te cs))/\∀i es c,H.get i=some (.map es c)->H'.get i=some (.map es c)
def s9.bU{H H':ab}{et s o n}(h:s9 H et s o n)(a:∀i m t,H.get i=some (.bB m t)->H'.get i=some (.bB m t))(b:∀i m t,H.get i=some (.mf m t)->H'.get i=some (.mf m t)):s9 H' et s o n:=by
 rcases h with h|⟨k,h,g⟩|⟨k,j,h,g⟩|⟨k,j,h,g⟩
 ·exact .inl h
 ·exact .inr (.inl ⟨k,h,a _ _ _ g⟩)
 ·exact .inr (.inr (.inl ⟨k,j,h,a _ _ _ g⟩))
 ·exact .inr (.inr (.inr ⟨k,j,h,b _ _ _ g⟩))
def s9.cut{H:ab}{et s o n}(h:s9 H et s o (n+1)):s9 H et s (o6 o none s 1) n:=by
 rcases h with rfl|⟨k,rfl,g⟩|⟨k,j,rfl,g⟩|⟨k,j,rfl,g⟩
 ·exact .inl rfl
 ·exact .inr (.inr (.inl ⟨k,1,rfl,by rw[aD6];exact g⟩))
 ·exact .inr (.inr (.inl ⟨k,j+1,by simp[o6],by rw[aD9,aD6 1];exact g⟩))
 ·exact .inr (.inr (.inr ⟨k,j+1,by simp[o6],by rw[aD9,aD6 1];exact g⟩))
def s9.app{m}{P}{t et}{s b:Nat}(a:iZ P t et s b)(hm:m t=false){H:ab}{o o2:Own}{es:List AV}{x:AV}(h:s9 H et s o es.length)(q:cB s es)(v:x.width=some s)(hb:(es.length+1)*b<=140737488355328)(l:es.length+1<=9223372036854775807):
  ∃p H',cj m P t t (.vec o es) (.vec o2 [x]) H=some (.vec p (es++[x]),H')/\s9 H' et s p (es.length+1)/\KQ H H':=by
 have f:=q.jU a;have d:=(show cB s [x] from λe r=>by rw[Μ.1 r];exact v).jU a;obtain⟨z,n,u⟩:=a.zero;have c:s≠0/\z.length=s:=⟨a.s0,u⟩;rcases h with rfl|⟨k,rfl,g⟩|⟨k,j,rfl,g⟩|⟨k,j,rfl,g⟩
 ·refine⟨.own H.next,H.push (.bB (es.length+1) et),?_,.inr (.inl ⟨H.next,rfl,by rw[ab.dT,ν rfl]⟩),awF _,λi te cs hi=> ?_,λi te cs hi=> ?_⟩
  ·simp only[cj,a.el,a.sz,a.fq,n,aEB,ν c,jt,hm,τ,aDf,lC,f,d];rw[ν ⟨hb,l⟩];simp
  ·rw[ab.dT,κ (by have:=ab.eg hi;omega)];exact hi
  ·rw[ab.dT,κ (by have:=ab.eg hi;omega)];exact hi
 ·refine⟨.own k,H.set k (.bB (es.length+1) et),?_,.inr (.inl ⟨k,rfl,by rw[ab.ec,ν rfl,g];rfl⟩),μ _,λi te cs hi=> ?_,λi te cs hi=> ?_⟩
  ·simp only[cj,a.el,a.sz,a.fq,n,aEB,ν c,jt,lC,f,d,g];rw[ν ⟨hb,l⟩];simp
  ·rw[ab.ec,κ (by rintro rfl;rw[g] at hi;cases hi)];exact hi
  ·rw[ab.ec,κ (by rintro rfl;rw[g] at hi;cases hi)];exact hi
 ·refine⟨.cut false H.next 0 s,(H.del k).push (.mf (es.length+1) et),?_,.inr (.inr (.inr ⟨H.next,0,rfl,by rw[ab.dT];simp[ab.del]⟩)),awF _,λi te cs hi=> ?_,λi te cs hi=> ?_⟩
  ·simp only[cj,a.el,a.sz,a.fq,n,aEB,ν c,jt,lC,f,d,g];rw[ν ⟨hb,l⟩];simp
  ·rw[ab.dT,κ (by have:=ab.eg hi;simp[ab.del];omega),ab.tz,κ (by rintro rfl;rw[g] at hi;cases hi)];exact hi
  ·rw[ab.dT,κ (by have:=ab.eg hi;simp[ab.del];omega),ab.tz,κ (by rintro rfl;rw[g] at hi;cases hi)];exact hi
 ·refine⟨.cut false H.next 0 s,(H.del k).push (.mf (es.length+1) et),?_,.inr (.inr (.inr ⟨H.next,0,rfl,by rw[ab.dT];simp[ab.del]⟩)),awF _,λi te cs hi=> ?_,λi te cs hi=> ?_⟩
  ·simp only[cj,a.el,a.sz,a.fq,n,aEB,ν c,jt,lC,f,d,g];rw[ν ⟨hb,l⟩];simp
  ·rw[ab.dT,κ (by have:=ab.eg hi;simp[ab.del];omega),ab.tz,κ (by rintro rfl;rw[g] at hi;cases hi)];exact hi
  ·rw[ab.dT,κ (by have:=ab.eg hi;simp[ab.del];omega),ab.tz,κ (by rintro rfl;rw[g] at hi;cases hi)];exact hi
end Go.Ab
namespace Go.Proofs.YtmehamiifalmaaaGreatDoor
open Go Go.Ab Go.Proofs.Tryz
set_option maxRecDepth 100000
set_option maxHeartbeats 8000000
def encS(l:List (Sp×Nat)):List (AV×AV×Nat):=l.map λp=>(.agg [.str p.1.1,.i p.1.2],.bool true,p.2)
def keq(a b:List UInt8)(x y:Int):sA (.agg [.str a,.i x]) (.agg [.str b,.i y])=some (decide ((a,x)=(b,y))):=by simp[sA];rw[show(x==y)=decide (x=y) from rfl];by_cases h:a=b<;>by_cases k:x=y<;>simp[h,k]
def PU(s:Sp):∀l i,(mL (.agg [.str s.1,.i s.2]) (encS l) i=some none/\¬s∈l.map (·.1))\/(s∈l.map (·.1)/\∃j,mL (.agg [.str s.1,.i s.2]) (encS l) i=some (some (j,.bool true)))
 |[],i=>.inl ⟨rfl,by simp⟩
 |p::l,i=>by
  by_cases h:s=p.1
  ·refine .inr ⟨by simp[h],i,?_⟩;have a:decide ((s.1,s.2)=(p.1.1,p.1.2))=true:=π h;rw[encS,aDm,mL,keq,a]
  ·have a:decide ((s.1,s.2)=(p.1.1,p.1.2))=false:=ξ h;have e:mL (.agg [.str s.1,.i s.2]) (encS (p::l)) i=mL (.agg [.str s.1,.i s.2]) (encS l) (i+1):=by rw[encS,aDm,mL,keq,a];rfl
   rw[e];rcases PU s l (i+1) with⟨c,b⟩|⟨c,j,b⟩
   ·exact .inl ⟨c,by rw[aDm,Ν];exact λq=>q.elim h b⟩
   ·exact .inr ⟨Η _ c,j,b⟩
def acL(a)(x:Int):yj prog 44 (.agg [.str a,.i x])=true:=af
def ayL:zeroV prog 4=some (.bool false):=af
def xc(H:ab)(id:Nat)(seen:List Sp):Prop:=∃l c,H.get id=some (.map (encS l) c)/\l.map (·.1)=seen
def xc.look{H id seen}(h:xc H id seen)(s:Sp):wo prog H 117 (.map id) (.agg [.str s.1,.i s.2]) false=some (.bool (decide (s∈seen))):=by
 obtain⟨l,c,h,rfl⟩:=h;simp only[wo,h,ZS,acL,aDp];rcases PU s l 0 with⟨a,b⟩|⟨a,j,b⟩
 ·rw[a,ξ b];simp[ayL]
 ·rw[b,π a];simp
def xc.K1{H id seen}(h:xc H id seen)(s:Sp)(f:¬s∈seen):∃H',uG prog 117 (.map id) (.agg [.str s.1,.i s.2]) (.bool true) H=some (hM,H')/\xc H' id (seen++[s])/\H'.next=H.next/\∀i x,i≠id->H.get i=some x->H'.get i=some x:=by
 obtain⟨l,c,h,rfl⟩:=h;rcases PU s l 0 with⟨a,b⟩|⟨a,j,b⟩
 ·refine⟨H.set id (.map (encS l++[(.agg [.str s.1,.i s.2],.bool true,c)]) (c+1)),?_,⟨l++[(s,c)],c+1,?_,by simp⟩,rfl,λi x hi d=> ?_⟩
  ·simp only[uG,h,ZS,acL,a];rw[ν ⟨trivial,af,by simp[AV.width]⟩]
  ·rw[ab.ec,ν rfl,h];simp[encS]
  ·rw[ab.ec,κ (λe=>hi e.symm)];exact d
 ·exact absurd a f
def xc.bU{H H':ab}{id seen}(h:xc H id seen)(k:∀i es c,H.get i=some (.map es c)->H'.get i=some (.map es c)):xc H' id seen:=by obtain⟨l,c,h,e⟩:=h;exact⟨l,c,k _ _ _ h,e⟩
def ayM(c)(a b)(x y:Int):lN prog .eql 44 c (.agg [.str a,.i x]) (.agg [.str b,.i y])=some (.bool (decide ((a,x)=(b,y)))):=by rw[tA rfl];simp[ew,Ce,QX,lY,sw,wH];rw[show(x==y)=decide (x=y) from rfl];by_cases h:a=b<;>by_cases k:x=y<;>simp[h,k]
def ayN(c)(a b)(x y:Int):lN prog .neq 44 c (.agg [.str a,.i x]) (.agg [.str b,.i y])=some (.bool (!decide ((a,x)=(b,y)))):=by rw[tA rfl];simp[ew,Ce,QX,lY,sw,wH];rw[show(x==y)=decide (x=y) from rfl];by_cases h:a=b<;>by_cases k:x=y<;>simp[h,k]
def PV:List FuncId:=[15]
def akt:List FuncId:=[15,9]
noncomputable def oK:Env:={P:=prog,G:=λf=>PV.contains f,cl:=λf=>akt.contains f,eX:=λ_=>false,dyn:=λ_=>false,df:=λ_=>false,ext:=bf dv [9]}
def ayO:okF oK 15=true:=af
def ayP:oK.P=prog:=(rfl)
def ayQ:oK.eX=λ_=>false:=(rfl)
attribute [go_sem] ayP ayQ
structure AJ(cs:List Cp)(s:Sp)(seen:List Sp):Prop where
 sa:seen.Nodup
 qs:∀p∈seen,gA cs [s] p
 ne:¬s∈seen
def AJ.len{cs s seen}(h:AJ cs s seen):seen.length<=cs.length:=by have:=Hi h.sa λp a=>(h.qs p a).to;simpa using this
def acM(o){l:List Cp}{i:Nat}{x:Cp}(h:l[i]? =some x):dC prog 38 (.vec o (l.map fw)) (.i i)=some (.rptr [.str x.1.1,.i x.1.2,.str x.2.1,.i x.2.2]):=oC I1 E2 fw o h rfl
def Q1(o){l:List Sp}{i:Nat}{x:Sp}(h:l[i]? =some x):dC prog 40 (.vec o (l.map b_)) (.i i)=some (.rptr [.str x.1,.i x.2]):=oC PF Cw b_ o h rfl
def X0(x:Sp)(H:ab):dS prog 40 1 [(0,.agg [.str x.1,.i x.2])] H=some (.vec .full [.agg [.str x.1,.i x.2]],H):=tL Aa (b_ x) rfl rfl aA H
def spW(l:List Sp):cB 2 (l.map b_):=xV (λ_=>rfl) l
def A_{H:ab}{p}{x:Sp}(h:∃te,H.get p=some (.c te [.str x.1,.i x.2])):kH prog H 44 (.ptr p 0)=some (.agg [.str x.1,.i x.2]):=by obtain⟨te,h⟩:=h;simp only[kH,h];rw[I0];rfl
noncomputable def xG:=f15.c.r.r.r.r.l.b.b
noncomputable def DQ:=xG.r.b.r.r.r.b.b
section
variable {cs:List Cp} {s:Sp} {o5:Ab.Own} {p3 mp:Nat}
structure QI(H:ab)(mp p3:Nat)(s:Sp)(seen:List Sp)(o:Ab.Own)(n:Nat):Prop where
 map:xc H mp seen
 box:∃te,H.get p3=some (.c te [.str s.1,.i s.2])
 q:s9 H 44 2 o n
def QI.push{H seen o n}(h:QI H mp p3 s seen o n)(y):QI (H.push y) mp p3 s seen o n:=⟨h.map.bU λ_ _ _ q=>(eS.push H y).2 _ _ q,h.box.imp λ_ q=>(eS.push H y).2 _ _ q,h.q.bU (λ_ _ _ q=>(eS.push H y).2 _ _ q) λ_ _ _ q=>(eS.push H y).2 _ _ q⟩
def OU(hc:cs.length<=128000000){x:Sp}(uj:x=s\/gA cs [s] x){p8:Nat}:∀r k (seen j:List Sp) o α H,cs.drop k=r->AJ cs s seen->j.length<=seen.length+1->QI H mp p3 s seen o j.length->(∃te,H.get p8=some (.c te [.str x.1,.i x.2]))->
  α 3=.ptr p3 0->α 5=.vec o5 (cs.map fw)->α 6=.map mp->α 7=.vec o (j.map b_)->α 8=.ptr p8 0->α 24=.vec o5 (cs.map fw)->α 25=.i cs.length->α 26=.i k->
  aD (aJ (aO oK DQ) α H) λe v H'=>(e=.ret/\v 4=.bool true/\gA cs [s] s)\/(e=.exit 2/\∃f A,AJ cs s (seen++f)/\(j++f).length<=(seen++f).length+1/\QI H' mp p3 s (seen++f) A (j++f).length/\(∀c∈r,c.1=x->c.2∈seen++f)/\(∀p∈f,gA cs [s] p)/\
   v 3=.ptr p3 0/\v 5=.vec o5 (cs.map fw)/\v 6=.map mp/\v 7=.vec A ((j++f).map b_))
 |[],k,seen,j,o,α,⟨n,L⟩,hr,C,hn,hq,h8,a3,a5,a6,a7,a8,a24,t,w=>by have hB:DQ=.seq _ (.seq (.cond _ _ _) (.seq (.block 3 (.seq _ (.block 4 (.seq _ (.cond _ _ (.seq _ (.cond _ (.seq _ _) (.seq _ (.cond _ (.seq _ _) _))))))))) _)):=rfl;have hk:cs.length<=k:=Κ.1 hr;have E:=d_ (a:=k) (b:=cs.length) (by omega);rw[aG,hB];simp only[go_sem,seval,t,w,E];refine .inr ⟨aK,[],o,by rw[aDi];exact C,by rw[aDi,aDi];exact hn,by rw[aDi,aDi];exact hq,λc h=>(by cases h),λc h=>(by cases h),?_⟩;simp[put,a3,a5,a6,a7]
 |c::r,k,seen,j,o,α,⟨n,L⟩,hr,C,hn,hq,h8,a3,a5,a6,a7,a8,a24,t,w=>by
  have hB:DQ=.seq _ (.seq (.cond _ _ _) (.seq (.block 3 (.seq _ (.block 4 (.seq _ (.cond _ _ (.seq _ (.cond _ (.seq _ _) (.seq _ (.cond _ (.seq _ _) _))))))))) _)):=rfl;obtain⟨hx,hi,bq⟩:=mD hr;have hm:=Β hx;have oe:=C.len;have E:=dM hi;have X:=acM o5 hx;have w1:=fD k aa;have P:=aY (n<n+1);have B:QI ⟨n+1,(n,.k 48 [.str c.1.1,.i c.1.2,.str c.2.1,.i c.2.2])::L⟩ mp p3 s seen o j.length:=hq.push (.k 48 [.str c.1.1,.i c.1.2,.str c.2.1,.i c.2.2]);have Z:∃te,ab.get ⟨n+1,(n,.k 48 [.str c.1.1,.i c.1.2,.str c.2.1,.i c.2.2])::L⟩ p8=some (.c te [.str x.1,.i x.2]):=h8.imp λ_ q=>(eS.push ⟨n,L⟩ _).2 _ _ q;have x3:=A_ B.box;have W:=A_ Z;have D:=λb=>ayN b c.1.1 x.1 c.1.2 x.2;have J:=λb=>ayM b c.2.1 s.1 c.2.2 s.2
  have skip:(c.1=x->c.2∈seen)->∀u:az,u 3=.ptr p3 0->u 5=.vec o5 (cs.map fw)->u 6=.map mp->u 7=.vec o (j.map b_)->u 8=.ptr p8 0->u 24=.vec o5 (cs.map fw)->u 25=.i cs.length->u 26=.i (k+1:Nat)->
    aD (aJ (aO oK DQ) u ⟨n+1,(n,.k 48 [.str c.1.1,.i c.1.2,.str c.2.1,.i c.2.2])::L⟩) λe v H'=>(e=.ret/\v 4=.bool true/\gA cs [s] s)\/(e=.exit 2/\∃f A,AJ cs s (seen++f)/\(j++f).length<=(seen++f).length+1/\QI H' mp p3 s (seen++f) A (j++f).length/\(∀d∈c::r,d.1=x->d.2∈seen++f)/\(∀p∈f,gA cs [s] p)/\
   v 3=.ptr p3 0/\v 5=.vec o5 (cs.map fw)/\v 6=.map mp/\v 7=.vec A ((j++f).map b_)):=λhs u b3 b5 b6 b7 b8 Y d' a'=>by
   refine aT (OU hc uj r (k+1) seen j o u _ bq C hn B Z b3 b5 b6 b7 b8 Y d' a') ?_;rintro e v H' (h|⟨h,f,A,S,M,G,T,q5⟩)
   ·exact .inl h
   ·refine .inr ⟨h,f,A,S,M,G,λd z U=> ?_,q5⟩;rcases Ν.1 z with rfl|z
    ·exact aDo _ (hs U)
    ·exact T d z U
  rw[aG,hB];by_cases K:c.1=x
  ·have z:decide ((c.1.1,c.1.2)=(x.1,x.2))=true:=π K;rw[z] at D;have BA:gA cs [s] c.2:=uj.elim (λh=>.one hm (by rw[K,h];exact Μ.2 rfl)) λh=>.more hm (K▸h);by_cases O:c.2=s
   ·have r6:decide ((c.2.1,c.2.2)=(s.1,s.2))=true:=π O;rw[r6] at J;simp only[go_sem,seval,a3,a8,a24,t,w,E,X,P,W,D,ω,x3,J];exact .inl ⟨aK,by simp[go_sem],O▸BA⟩
   ·have r6:decide ((c.2.1,c.2.2)=(s.1,s.2))=false:=ξ O;rw[r6] at J;have N:=B.map.look c.2;by_cases F:c.2∈seen
    ·rw[π F] at N;simp only[go_sem,seval,a3,a6,a8,a24,t,w,E,X,P,W,D,ω,x3,J,N,w1];refine skip (λ_=>F) _ ?_ ?_ ?_ ?_ ?_ ?_ ?_ ?_;all_goals simp[go_sem,a3,a5,a6,a7,a8,a24,t]
    ·rw[ξ F] at N;obtain⟨⟨n2,V⟩,u1,u2,u3,u4⟩:=B.map.K1 c.2 F;have vQ:∃es c0,ab.get ⟨n+1,(n,.k 48 [.str c.1.1,.i c.1.2,.str c.2.1,.i c.2.2])::L⟩ mp=some (.map es c0):=by obtain⟨l,c0,g,_⟩:=B.map;exact⟨_,_,g⟩
     obtain⟨es,c0,vQ⟩:=vQ;have I:∀i y,ab.get ⟨n+1,(n,.k 48 [.str c.1.1,.i c.1.2,.str c.2.1,.i c.2.2])::L⟩ i=some y->(∀es c,y≠.map es c)->ab.get ⟨n2,V⟩ i=some y:=λi y hy aL=>u4 i y (by rintro rfl;rw[vQ] at hy;cases hy;exact aL _ _ rfl) hy;have gn:ab.get ⟨n2,V⟩ n=some (.k 48 [.str c.1.1,.i c.1.2,.str c.2.1,.i c.2.2]):=I n _ (aj.2 ⟨aa,by rw[br,ν rfl]⟩) (λ_ _=>by simp);obtain⟨zn,s7⟩:=aj.1 gn;have cn:=aF s7;have kP:QI ⟨n2,V⟩ mp p3 s (seen++[c.2]) o j.length:=⟨u2,B.box.imp λ_ q=>I _ _ q (λ_ _=>by simp),B.q.bU (λ_ _ _ q=>I _ _ q (λ_ _=>by simp)) λ_ _ _ q=>I _ _ q (λ_ _=>by simp)⟩;obtain⟨A,⟨Q,R⟩,p1,p2,p3',p4,p5⟩:=s9.app (m:=λ_=>false) (o2:=.full) Aa rfl (x:=b_ c.2) (es:=j.map b_) (by rw[φ];exact kP.q) (spW j) rfl (by rw[φ];omega) (by rw[φ];omega);have j9:cj (λ_=>false) prog 40 40 (.vec o (j.map b_)) (.vec .full [.agg [.str c.2.1,.i c.2.2]]) ⟨n2,V⟩=some (.vec A ((j++[c.2]).map b_),⟨Q,R⟩):=by rw[aEw];exact p1
     rw[φ] at p2;have uw:AJ cs s (seen++[c.2]):=⟨MK C.sa F,λp hp=>(Ω.1 hp).elim (C.qs p) λh=>by rw[Μ.1 h];exact BA,λh=>(Ω.1 h).elim C.ne λh=>O (Μ.1 h).symm⟩;have c':QI ⟨Q,R⟩ mp p3 s (seen++[c.2]) A (j++[c.2]).length:=⟨u2.bU p5,kP.box.imp λ_ q=>p4 _ _ _ q,by rw[χ];exact p2⟩;have b':∃te,ab.get ⟨Q,R⟩ p8=some (.c te [.str x.1,.i x.2]):=Z.imp λ_ q=>p4 _ _ _ (I _ _ q (λ_ _=>by simp));simp only[go_sem,seval,a3,a6,a7,a8,a24,t,w,E,X,P,W,D,ω,Α,x3,J,N,u1,zn,cn,X0 c.2,cQ,j9,w1];refine aT ((λu=>OU hc uj r (k+1) (seen++[c.2]) (j++[c.2]) A u ⟨Q,R⟩ bq uw (by simp;omega) c' b') _ ?_ ?_ ?_ ?_ ?_ ?_ ?_ ?_) ?_
     case refine_9=>
      rintro e v H' (h|⟨h,f,Gs,S,M,G,T,q5,q6⟩)
      ·exact .inl h
      ·rw[adv] at S M G T;rw[adv] at M G q6;refine .inr ⟨h,[c.2]++f,Gs,S,M,G,λd z U=> ?_,λp hp=>(Ω.1 hp).elim (λh=>by rw[Μ.1 h];exact BA) (q5 p),q6⟩;rcases Ν.1 z with rfl|z
       ·exact aEg _ (aDo _ (Μ.2 rfl))
       ·exact T d z U
     all_goals simp[go_sem,a3,a5,a6,a8,a24,t]
  ·have z:decide ((c.1.1,c.1.2)=(x.1,x.2))=false:=ξ K;rw[z] at D;simp only[go_sem,seval,a8,a24,t,w,E,X,P,W,D,Α,w1];refine skip (λh=>(K h).elim) _ ?_ ?_ ?_ ?_ ?_ ?_ ?_ ?_;all_goals simp[go_sem,a3,a5,a6,a7,a8,a24,t]
def Z8(b:cs.length<=128000000):∀d (seen a:List Sp) o α H,a.length+cs.length<=d+seen.length->AJ cs s seen->(∀p∈a,p=s\/gA cs [s] p)->a.length<=seen.length+1->(∀p,(p=s\/p∈seen)->¬p∈a->∀c∈cs,c.1=p->c.2∈seen)->QI H mp p3 s seen o a.length->
  α 3=.ptr p3 0->α 5=.vec o5 (cs.map fw)->α 6=.map mp->α 7=.vec o (a.map b_)->
  aD (aJ (aO oK xG) α H) λe B H'=>(e=.ret/\B 4=.bool true/\gA cs [s] s)\/(e=.exit 0/\¬gA cs [s] s)
 |d,seen,[],o,α,⟨n,L⟩,u,t,v,y,j,m,a3,a5,a6,a7=>by
  have z:xG=.seq (.seq _ (.cond _ _ _)) (.block 1 (.seq _ (.seq _ (.seq _ (.block 2 (.loop DQ)))))):=rfl;rw[aG,z];simp only[go_sem,seval,a7,aEr,Χ];refine .inr ⟨aK,λh=> ?_⟩
  have:∀p,gA cs [s] p->p∈seen:=λp r=>by
   induction r with
   |one b S=>exact j s (.inl rfl) (λh=>by cases h) _ b (Μ.1 S)
   |more b _ ih=>exact j _ (.inr ih) (λh=>by cases h) _ b rfl
  exact t.ne (this s h)
 |0,seen,x::a,o,α,⟨n,L⟩,u,t,v,y,j,m,a3,a5,a6,a7=>by have:=t.len;rw[Ι] at u;omega
 |d+1,seen,x::a,o,α,⟨n,L⟩,u,t,v,y,j,m,a3,a5,a6,a7=>by
  have z:xG=.seq (.seq _ (.cond _ _ _)) (.block 1 (.seq _ (.seq _ (.seq _ (.block 2 (.loop DQ)))))):=rfl;have E:((x::a).map b_).length=a.length+1:=by simp
  have e1:=bJ (((a.length+1:Nat):Int)>0);have N:=aY (n<n+1);have I:dC prog 40 (.vec o ((x::a).map b_)) (.i 0)=some (.rptr [.str x.1,.i x.2]):=Q1 o (l:=x::a) (i:=0) rfl;have G:jT prog 40 (some (.i 1)) none (.vec o ((x::a).map b_))=some (.vec (o6 o none 2 1) (a.map b_)):=by have:=Xn Aa (g:=b_) (λ_=>rfl) o (x::a) 1 (by simp);rw[aks Aa] at this;exact this
  have V:(cs.map fw).length=cs.length:=φ ..;have uj:=v x as1;have w:QI ⟨n,L⟩ mp p3 s seen (o6 o none 2 1) a.length:=⟨m.map,m.box,s9.cut m.q⟩;have Y:QI ⟨n+1,(n,.k 44 [.str x.1,.i x.2])::L⟩ mp p3 s seen (o6 o none 2 1) a.length:=w.push (.k 44 [.str x.1,.i x.2]);have X:∃te,ab.get ⟨n+1,(n,.k 44 [.str x.1,.i x.2])::L⟩ n=some (.c te [.str x.1,.i x.2]):=⟨_,aj.2 ⟨aa,by rw[br,ν rfl]⟩⟩;rw[Ι] at u y;generalize(x::a).map b_=qq at a7 E I G;rw[aG,z];simp only[go_sem,seval,a5,a7,E,e1,I,G,V,N];simp only[cg];refine bL (mG (OU b uj (s:=s) (o5:=o5) (p3:=p3) (mp:=mp) (p8:=n) cs 0 seen a (o6 o none 2 1) _ _ rfl t (by omega) Y X ?_ ?_ ?_ ?_ ?_ ?_ ?_ ?_)) ?_
  case refine_9=>
   rintro _ ⟨e,B,⟨J,O⟩,rfl,⟨rfl,Q,h⟩|⟨rfl,C,Z,R,q2,T,W,U,P,M,q8,K⟩⟩
   ·simp only[go_sem,seval];exact .inl ⟨aK,Q,h⟩
   ·simp only[go_sem,seval];refine Z8 b d (seen++C) (a++C) Z _ ⟨J,O⟩ (by rw[χ,χ];omega) R (λp r=>(Ω.1 r).elim (λh=>v p (Η _ h)) λh=>.inr (U p h)) q2 (λp r D c F A=> ?_) T ?_ ?_ ?_ ?_
    ·by_cases f:p=x
     ·exact W c F (A.trans f)
     ·refine aDo _ (j p (r.imp_right λh=>(Ω.1 h).resolve_right λh=>D (aEg _ h)) (λh=>(Ν.1 h).elim f λh=>D (aDo _ h)) c F A)
    all_goals first|exact P|exact M|exact q8|exact K
  all_goals simp[go_sem,a3,a5,a6]
  all_goals(try rfl)
end
def J_(a b)(H:ab):fY (.agg [a,b]) H=some (.ptr H.next 0,H.push (.z [a,b])):=by simp[fY,AV.width,AV.cells]
variable {us:List Un}
def au0(b:jV us)(H):bt oK 9 [.rptr [.vec (au us.length) (vU us)]] H=some (.vec (au (eu us).length) ((eu us).map fj),H):=
 ji (E:=dv) (fs:=[9]) rfl rfl (λa H=>rfl) rfl (PO b) (Av _) (iE (go_ca _)) H
open Classical in
def apP(hp:jV us)(s:Sp):aI prog (run oK) 15 [dD us,.agg [.str s.1,.i s.2]]=some (.bool (decide (gA ((eu us).map lB) [s] s))):=by
 refine fk (c:=.seq _ (.seq _ (.seq _ (.seq _ (.seq (.block 0 (.loop xG)) (.seq _ _)))))) rfl rfl func15 rfl (by rw[ntmps15];simp) (bW:=[dD us,.agg [.str s.1,.i s.2]]) rfl ?_ ?_ rfl
 ·show((dD us).aq&&_)=true;rw[tM];rfl
 have bC:=D6 hp;have h9:=au0 hp;rw[<-OP] at h9;simp only[go_sem,seval,ab.empty,dD,kZ,J_,h9,X0 s];simp only[cg];refine bL (mG (Z8 (cs:=(eu us).map lB) (s:=s) (o5:=au (eu us).length) (p3:=0) (mp:=1) (by rw[φ];exact bC) (((eu us).map lB).length+1) [] [s] .full _ _ (by simp;omega) ⟨.nil,λp h=>(by cases h),λh=>(by cases h)⟩ (λp h=>.inl (Μ.1 h)) (by simp) (λp h hn=>absurd (Μ.2 (h.resolve_right (by simp))) hn) ⟨⟨[],0,rfl,rfl⟩,⟨none,rfl⟩,.inl rfl⟩ ?_ ?_ ?_ ?_)) ?_
 case refine_5=>
  rintro _ ⟨e,ae,H',rfl,⟨rfl,h4,h⟩|⟨rfl,h⟩⟩
  ·simp only[go_sem,seval,h4,results15];rw[π h];exact⟨_,rfl,rfl⟩
  ·simp only[go_sem,seval,results15];rw[ξ h];exact⟨_,rfl,rfl⟩
 all_goals(try simp[go_sem])
 all_goals(try rfl)
end Go.Proofs.YtmehamiifalmaaaGreatDoor
