/- LintFinds: part 22 of its proof. -/
import Derived.Test.YtmehamiifalmaaaGreatDoorG20
set_option linter.all false
namespace Go.Proofs.YtmehamiifalmaaaGreatDoor
open Go Go.Ab Go.Proofs.Tryz
set_option maxRecDepth 100000
set_option maxHeartbeats 8000000
def xj(x:Nd):Bool:=decide (x.k=12)
def tC(ks:List Nd):Option Nat:=ks.findIdx? xj
def OG(x)(r):tC (x::r)=if xj x=true then some 0 else(tC r).map (·+1):=by unfold tC;rw[List.findIdx?_cons]
def azW(n):aK prog (run aV) 52 [aw n]=some (.bool (xj n)):=by have a:((n.k:Int)==12)=xj n:=dF n.k 12;refine qy (c:=.seq _ (.seq _ _)) rfl rfl func52 rfl (by rw[ntmps52];simp) (bE:=[aw n]) (by simp[pP]) (by rw[yB];rfl) ?_ rfl rfl;simp only[go_sem,seval,ab.empty,AE,rZ,a,results52]
def aqp(n)(H):bu aV 52 [aw n] H=some (.bool (xj n),H):=cF rfl (azW n) H
noncomputable def Mx:=f51.c.r.l.r.b.b
def ab1{ks:List Nd}{o}(s:ks.length<=900000000000000000):∀r j α H,ks.drop j=r->j+r.length=ks.length->α 0=.vec o (br ks)->α 1=.fn (.func 52) [] []->α 7=.i ks.length->α 8=.i j->
  aF (aL (aT aV Mx) α H) λe p H'=>(e=.exit 0/\tC r=none)\/(e=.ret/\∃m:Nat,tC r=some m/\p 4=.i (j+m:Nat))
 |[],j,α,⟨n,L⟩,f,l,a0,a1,a7,a8=>by have h:Mx=.seq _ (.seq _ (.seq (.block _ (.seq _ (.seq _ _))) _)):=rfl;have c:=dY (a:=j) (b:=ks.length) (by simp at l;omega);rw[aJ,h];simp only[go_sem,seval,a7,a8,c];exact .inl ⟨aI,rfl⟩
 |x::r,j,α,⟨n,L⟩,f,l,a0,a1,a7,a8=>by
  have h:Mx=.seq _ (.seq _ (.seq (.block _ (.seq _ (.seq _ _))) _)):=rfl;simp at l;have c:=ec (a:=j) (b:=ks.length) aa;have v:ks[j]? =some x:=by have:=Ι (·[0]?) f;simpa using this
  have t:ks.drop (j+1)=r:=by rw[<-List.drop_drop,f];rfl
  have q:=kD o v;have d:=aqp x;rw[aJ,h,OG]
  cases hq:xj x with
  |true=>
   rw[hq] at d;simp only[go_sem,seval,a0,a1,a7,a8,c,q,d];exact .inr ⟨aI,0,rfl,by first|rfl|(simp[go_sem,a8];done)|(simp[go_sem,a8];rfl)⟩
  |false=>
   rw[hq] at d;simp only[go_sem,seval,a0,a1,a7,a8,c,q,d,(eN j aa)];refine aW ((λα=>ab1 (o:=o) s r (j+1) α ⟨n,L⟩ t aa) _ ?_ ?_ ?_ ?_) ?_
   case refine_5=>
    rintro e p H' (⟨g,k⟩|⟨g,m,k,u⟩)
    ·exact .inl ⟨g,by rw[k];rfl⟩
    ·exact .inr ⟨g,m+1,by rw[k];rfl,by rw[u];congr 1;omega⟩
   all_goals simp[go_sem,a0,a1,a7]
def azX(ks:List Nd)(b:ks.length<=900000000000000000):aK prog (run aV) 51 [.vec (if ks.isEmpty then .nil else .ro) (br ks),.fn (.func 52) [] []]=some (.i (dS (tC ks))):=by
 refine eX (c:=.seq _ (.seq (.seq _ (.block 0 (.loop Mx))) _)) af rfl func51 rfl (by rw[ntmps51];simp) (bE:=[.vec (if ks.isEmpty then .nil else .ro) (br ks),.fn (.func 52) [] []]) (by simp only[aEv,aFy,AV.erase,AV.bare,Ou]) ?_ ?_ rfl
 ·show((AV.vec (if ks.isEmpty then .nil else .ro) (br ks)).aq&&_)=true;cases ks.isEmpty<;>simp[AV.aq,AV.aq.go,Ot]
 simp[go_sem,ab.empty,bL];simp only[bW];refine bz (oW (ab1 (o:=if ks.isEmpty then .nil else .ro) b ks 0 _ _ rfl ah ?_ ?_ ?_ ?_)) ?_
 case refine_5=>
  rintro _ ⟨e,ae,H',rfl,⟨rfl,a⟩|⟨rfl,m,a,d⟩⟩
  ·rw[a];simp only[go_sem,seval,results51];exact⟨_,rfl,rfl⟩
  ·rw[a];simp only[go_sem,seval,d,results51];exact⟨_,rfl,by simp[AV.erase,AV.bare,dS]⟩
 all_goals simp[go_sem,]
 all_goals(try rfl)
def aqq(ks:List Nd)(a:ks.length<=900000000000000000)(H):bu aV 51 [.vec (if ks.isEmpty then .nil else .ro) (br ks),.fn (.func 52) [] []] H=some (.i (dS (tC ks)),H):=cF rfl (azX ks a) H
mutual
def Qt(n):∀x∈e_ n,x.ks.length<=mx n:=by
 match n with
 | .mk k f t w a ks=>
  intro x hx;rw[e_] at hx;rw[ew];rcases Υ.1 hx with rfl|h
  ·simp[Nd.ks];omega
  ·have:=aaB ks x h;omega
def aaB(ks):∀x∈jQ ks,x.ks.length<=fl ks:=by
 match ks with
 |[]=>intro x hx;rw[jQ] at hx;cases hx
 |n::r=>
  intro x hx;rw[jQ] at hx;rcases aEo.1 hx with h|h
  ·have h1:=Qt n x h;have:=qC (l:=n::r) (n:=n) Ρ;omega
  ·have h1:=aaB r x h;have:fl r<=fl (n::r):=by simp[fl];omega
   omega
end
def pq(u:Un)(x:Nd):List Fi:=((if x.ks.length=0 then[(u.nm,ee u (x.f:Int),7)] else[]):List Fi)++((match tC x.ks with|some m=>(match x.ks[m+1]? with|some y=>[(u.nm,ee u (y.f:Int),6)]|none=>[])|none=>[]):List Fi)
def pX(u:Un)(l:List Nd):List Fi:=l.flatMap (pq u)
def Yv(u)(x):(pq u x).length<=2:=by
 unfold pq;rw[τ];refine atB (Nat.add_le_add (?_:_<=1) (?_:_<=1)) (ν 2)
 ·split<;>simp
 ·split
  ·split<;>simp
  ·simp
def WS(u):∀l:List Nd,(pX u l).length<=2*l.length
 |[]=>by simp[pX]
 |x::l=>by have h1:=Yv u x;have a:=WS u l;unfold pX at a⊢;rw[agX,τ,Γ];omega
def PC(n:Nd):bV prog 71 1 (.rptr (aB n))=some (.rptr [.i n.f,.i n.t,.str n.w,.i n.a,.vec (if n.ks.isEmpty then .nil else .ro) (br n.ks)]):=by rw[tc];exact Zg _ _ _ _ _ _
def Hh(o){l:List Nd}{i:Nat}{x:Nd}(h:l[i]? =some x):dW prog 69 (.vec o (l.map aw)) (.i i)=some (.rptr (aB x)):=rP uo rO aw o h (sM x)
noncomputable def Hl:=f22.c.r.b.b
section
variable {us:List Un} {u:Un} {pf:Nat}
def aqr(hg:jb u)(H):bu aV 50 [aw u.tr,.vec .full [.i 6]] H=some (.vec (aD (eT u.tr).length) ((eT u.tr).map aw),H):=
 ja (fs:=[50]) rfl rfl avy rfl (by
  rw[<-HZ];simp[pP]
  exact azx u.tr hg.wide hg.db hg.aX) (by simp[AV.erase,AV.bare,oq]) (jO (by
   have:∀l:List Nd,AV.aq.go (l.map aw)=true:=λl=>by
    induction l with
    |nil=>rfl
    |cons x l ih=>show((aw x).aq&&AV.aq.go (l.map aw))=true;rw[iL x,ih];rfl
   exact this _)) H
def ab2(hg:jb u){o:Ab.Own}:∀r i acc α H,(eT u.tr).drop i=r->i+r.length=(eT u.tr).length->acc.length+2*r.length<=1000000->kY H pf us u acc->α 0=.ptr pf 0->α 11=.vec o ((eT u.tr).map aw)->α 12=.i ((eT u.tr).length:Int)->α 13=.i i->
  aF (aL (aT aV Hl) α H) λe R H'=>e=.exit 0/\kY H' pf us u (acc++pX u r)/\Kx pf H H'
 |[],i,acc,α,⟨n,L⟩,J,K,T,fd,a0,bY,a12,cq=>by have Q:Hl=.seq _ (.seq _ (.seq (.block _ (.seq _ (.seq (.seq _ (.cond _ _ _)) (.seq _ (.seq _ (.cond _ _ _)))))) _)):=rfl;have p:=dY (a:=i) (b:=(eT u.tr).length) (by simp at K;omega);rw[aJ,Q];simp only[go_sem,seval,a12,cq,p];refine⟨aI,?_,Kx.refl _ _⟩;simpa[pX] using fd
 |x::r,i,acc,α,⟨n,L⟩,J,K,T,fd,a0,bY,a12,cq=>by
  have Q:Hl=.seq _ (.seq _ (.seq (.block _ (.seq _ (.seq (.seq _ (.cond _ _ _)) (.seq _ (.seq _ (.cond _ _ _)))))) _)):=rfl;simp at K T;have p:=ec (a:=i) (b:=(eT u.tr).length) aa;have U:(eT u.tr)[i]? =some x:=by have:=Ι (·[0]?) J;simpa using this
  have hm:=Δ U;have bO:(eT u.tr).drop (i+1)=r:=by rw[<-List.drop_drop,J];rfl
  have hblk:=hg.aX;obtain⟨T2,Z⟩:=hg.LF x hm;have Hm:x.ks.length<=900000000000000000:=atB (Qt u.tr x (aFt.1 hm).1) hg.wide;have D:=Hh o U;have w1:=eN i aa;have kp:=eA.push ⟨n,L⟩ (.k 71 (aB x));have B:=fd.all kp;obtain⟨te,v,rG,Hg⟩:=id fd;have z:=bf (n<n+1);have W:n≠pf:=by have:=ab.ep rG;exact λe=>by rw[<-e] at this;exact absurd this (aEu _)
  have pJ:ab.get ⟨n+1,(n,.k 71 (aB x))::L⟩ n=some (.k 71 (aB x)):=ai.2 ⟨aa,by rw[bo,μ rfl]⟩;have w:eg [AV.i 0,.i 0,.i 0,.str [],.i 0,.vec .nil []] 0 (aB x)=aB x:=vA x;have h5:=oK x;have d:=aqq x.ks Hm;have sA:pX u (x::r)=pq u x++pX u r:=by unfold pX;rw[agX]
  have C:∀{H1:ab} (j:az),kY H1 pf us u (acc++pq u x)->Kx pf ⟨n,L⟩ H1->j 0=.ptr pf 0->j 11=.vec o ((eT u.tr).map aw)->j 12=.i ((eT u.tr).length:Int)->j 13=.i (i+1:Nat)->aF (aL (aT aV Hl) j H1) λe R H'=>e=.exit 0/\kY H' pf us u (acc++pX u (x::r))/\Kx pf ⟨n,L⟩ H':=λ{H1} j X k1 Y F O BT=>by have tM:=Yv u x;refine aW (ab2 hg (o:=o) r (i+1) (acc++pq u x) j H1 bO aa (by rw[τ];omega) X Y F O BT) ?_;rintro e R H' ⟨rfl,S,q2⟩;rw[Λ,<-sA] at S;exact⟨rfl,S,k1.trans q2⟩
  rw[aJ,Q];by_cases l:x.ks.length=0
  ·have lh:x.ks=[]:=Ξ.1 l;have s:((x.ks.length:Int)==0)=true:=by rw[l];rfl
   have c:tC x.ks=none:=by rw[lh];rfl
   have q:decide (dS none≥0)=false:=rfl;have g:pq u x=[(u.nm,ee u (x.f:Int),7)]:=by unfold pq;rw[μ l,c];rfl
   obtain⟨⟨n2,N⟩,G,E,t⟩:=C0 B T2 7 aa;have M:run aV 46 [.ptr pf 0,.i x.f,.i 7] ⟨n+1,(n,.k 71 (aB x))::L⟩=some (.tup [],⟨n2,N⟩):=G;obtain⟨z4,g4⟩:=ai.1 (t.2 _ _ _ W pJ);rw[c] at d;simp only[go_sem,seval,a0,bY,a12,cq,p,D,z,w,h5,bL,s,wS,M,aC g4,ο z4,d,q,w1];refine C _ (by rw[g];exact E) ((Kx.all kp).trans t) ?_ ?_ ?_ ?_;all_goals simp[go_sem,a0,bY,a12]
  ·have s:((x.ks.length:Int)==0)=false:=by rw[aEp];omega
   cases c:tC x.ks with
   |none=>
    have q:decide (dS none≥0)=false:=rfl;have g:pq u x=[]:=by unfold pq;rw[κ l,c];rfl
    rw[c] at d;simp only[go_sem,seval,bY,a12,cq,p,D,z,w,h5,bL,s,d,q,w1];refine C _ (by rw[g,Η];exact B) (Kx.all kp) ?_ ?_ ?_ ?_;all_goals simp[go_sem,a0,bY,a12]
   |some m=>
    have q:=bH (((m:Nat):Int)≥0);have pI:m<x.ks.length:=by have:=aGd.1 c;obtain⟨h,_⟩:=this;exact h
    have V:=eN m aa;rw[c] at d;simp only[dS] at d;by_cases A:m+1<x.ks.length
    ·have P:=ec A;obtain⟨y,I⟩:=fo A;have g:pq u x=[(u.nm,ee u (y.f:Int),6)]:=by unfold pq;rw[κ l,c];simp only[I,Ο]
     obtain⟨⟨n2,N⟩,G,E,t⟩:=C0 B (Z y (Δ I)) 6 aa;have M:run aV 46 [.ptr pf 0,.i y.f,.i 6] ⟨n+1,(n,.k 71 (aB x))::L⟩=some (.tup [],⟨n2,N⟩):=G;simp only[go_sem,seval,a0,bY,a12,cq,p,D,kD (if x.ks.isEmpty then .nil else .ro) I,z,w,h5,bL,s,d,q,P,w1,V,PC,wS,M];refine C _ (by rw[g];exact E) ((Kx.all kp).trans t) ?_ ?_ ?_ ?_;all_goals simp[go_sem,a0,bY,a12]
    ·have P:=dY A;have g:pq u x=[]:=by unfold pq;rw[κ l,c];simp[aEh (aET A)]
     simp only[go_sem,seval,bY,a12,cq,p,D,z,w,h5,bL,s,d,q,P,w1,V];refine C _ (by rw[g,Η];exact B) (Kx.all kp) ?_ ?_ ?_ ?_;all_goals simp[go_sem,a0,bY,a12]
def ak3(H):dZ prog 103 1 [(0,.i 6)] H=some (.vec .full [.i 6],H):=Py 6 H
def afk(hg:jb u){acc:List Fi}(hl:acc.length<=100000){H}(fd:kY H pf us u acc):∃H',run aV 22 [.ptr pf 0] H=some (.tup [],H')/\kY H' pf us u (acc++pX u (eT u.tr))/\Kx pf H H':=by
 suffices hh:∃q,run aV 22 [.ptr pf 0] H=some q/\∃H',q=(.tup [],H')/\kY H' pf us u (acc++pX u (eT u.tr))/\Kx pf H H' by obtain⟨q,f,H',rfl,g⟩:=hh;exact⟨H',f,g⟩
 obtain⟨n,L⟩:=H;obtain⟨te,v,b,Hg⟩:=id fd;obtain⟨d,gf⟩:=ai.1 b;have hblk:=hg.aX;have a:((eT u.tr).map aw).length=(eT u.tr).length:=Θ ..;refine fM (c:=.seq _ (.block 0 (.loop Hl))) rfl rfl func22 rfl (by rw[ntmps22];simp) ?_;simp only[go_sem,seval,ο d,aC gf,ak3,aqr hg,a];refine bz (dm (ab2 (pf:=pf) (us:=us) hg (o:=aD (eT u.tr).length) (eT u.tr) 0 acc _ ⟨n,L⟩ rfl aa aa fd ?_ ?_ ?_ ?_)) ?_
 case refine_5=>
  rintro _ ⟨ae,H',rfl,e,h⟩;simp only[go_sem,seval,results22];exact⟨_,rfl,_,rfl,e,h⟩
 all_goals simp[go_sem]
 all_goals(try rfl)
end
set_option maxRecDepth 100000
set_option maxHeartbeats 8000000
def xy(us:List Un)(u:Un):List Fi:=ss us u 0 u.mp.bs++pX u (eT u.tr)
def oF(us:List Un):List Un->List Fi
 |[]=>[]
 |u::r=>xy us u++oF us r
def OH{us}{u}(hg:jb u):(xy us u).length<=20000:=by unfold xy;rw[τ];have h1:=OE us u u.mp.bs 0;have h2:=WS u (eT u.tr);have:=hg.fT;have:=hg.aX;omega
def HJ{us:List Un}:∀r,(∀u∈r,jb u)->(oF us r).length<=20000*r.length
 |[],h=>by simp[oF]
 |u::r,h=>by have h1:=OH (us:=us) (h u Ρ);have h2:=HJ (us:=us) r λx a=>h x (Κ _ a);rw[oF,τ,Γ];omega
def azY(us:List Un)(u):eg [.rptr [.vec (aD us.length) (vU us)],.str [],.str [],.vec .nil [],.i 0,.i 0,.i 0,.str [],.i 0,.vec .nil [],.vec .nil [],.vec .nil [],.vec .nil [],.i 0,.i 0,.vec .nil []] 1 (cU u)=oh us u (.vec .nil []):=rfl
def bxF(us)(u)(v)(H:ab):eQ (.agg (oh us u v)) H=some (.ptr H.next 0,H.push (.z (oh us u v))):=by simp[eQ,AV.width,AV.cells]
section
variable {us:List Un}
def aqs(a:gl us){u:Un}(b:u∈us)(H):bu aV 20 [.rptr [.vec (aD us.length) (vU us)],.str u.nm] H=some (.tup [.agg (cU u),.bool true],H):=by
 have h:=abQ a.gF a.fT u.nm;rw[OA a.gF b] at h;refine ja (fs:=[19,20,45,47]) rfl rfl (FY aA rfl) rfl h ?_ ?_ H
 ·have:(AV.agg (cU u)).erase=.agg (cU u):=oE _ _;simp[AV.erase] at this⊢;simp[AV.bare,this]
 ·show((AV.agg (cU u)).aq&&_)=true;rw[show(AV.agg (cU u)).aq=true from qJ _ _];rfl
def aqt(a:gl us)(H):bu aV 19 [.rptr [.vec (aD us.length) (vU us)]] H=some (.vec (aD us.length) (SA (jE us)),H):=
 ja (fs:=[19,20,45,47]) rfl rfl (FY aA rfl) rfl (aai us a.fT) (by simp[AV.erase,AV.bare,oq]) (jO (Rt _)) H
noncomputable def B7:=f7.c.r.r.l.r.b.b
def adk(g:gl us){o}:∀r pre acc v α H,us=pre++r->acc.length+20000*r.length<=1000000->fO H 35 3 jv dI v acc->α 0=.rptr [.vec (aD us.length) (vU us)]->α 3=v->α 10=.vec o (SA (jE us))->α 11=.i us.length->α 12=.i pre.length->
  aF (aL (aT aV B7) α H) λe G H'=>e=.exit 0/\∃h,fO H' 35 3 jv dI h (acc++oF us r)/\G 3=h
 |[],pre,acc,v,α,⟨n,L⟩,d,y,q,a0,a3,bD,bY,a12=>by have s:B7=.seq _ (.seq _ (.seq (.block _ (.seq _ (.seq _ (.seq _ (.seq _ (.seq _ _)))))) _)):=rfl;rw[Η] at d;subst d;have l:=dY (aEu us.length);rw[aJ,s];simp only[go_sem,seval,bY,a12,l];refine⟨aI,v,?_,by simp[go_sem,a3]⟩;simpa[oF] using q
 |u::r,pre,acc,v,α,⟨n,L⟩,d,y,q,a0,a3,bD,bY,a12=>by
  have s:B7=.seq _ (.seq _ (.seq (.block _ (.seq _ (.seq _ (.seq _ (.seq _ (.seq _ _)))))) _)):=rfl;have N:pre.length<us.length:=by rw[d];simp
  have l:=ec N;have w1:=eN pre.length (by have:=g.fT;omega);have A:us[pre.length]? =some u:=by rw[d];exact w7 _ _ _
  have p:=Δ A;have hg:=g.kW u p;have C:(jE us)[pre.length]? =some u.nm:=by rw[jE,aEt,A];rfl
  have D:=bf (n<n+1);have I:eA ⟨n,L⟩ ⟨n+1+1,(n+1,.z (oh us u (.vec .nil [])))::(n,.k 78 (cU u))::L⟩:=(eA.push ⟨n,L⟩ (.k 78 (cU u))).trans (eA.push ⟨n+1,(n,.k 78 (cU u))::L⟩ (.z (oh us u (.vec .nil []))));have j:kY ⟨n+1+1,(n+1,.z (oh us u (.vec .nil [])))::(n,.k 78 (cU u))::L⟩ (n+1) us u []:=⟨none,.vec .nil [],ai.2 ⟨aa,by rw[bo,μ rfl]⟩,.inl ⟨rfl,rfl⟩,λid a b c e=>by cases e⟩;have GJ:=OH (us:=us) hg;have k9:=OE us u u.mp.bs 0;have tB:=hg.fT;obtain⟨H1,J,x,k1⟩:=agQ g p ah j;rw[Ο] at x;obtain⟨⟨n2,S⟩,T,R,k2⟩:=afk hg aa x;have P:fO ⟨n2,S⟩ 35 3 jv dI v acc:=q.cj λi m cs hi=>(k1.trans k2).1.2 i _ (by have:=ab.ep hi;exact aGN this) (I.2 _ _ hi);obtain⟨te,v2,hf,f,_⟩:=R;obtain⟨O,gf⟩:=ai.1 hf;have w:ss us u 0 u.mp.bs++pX u (eT u.tr)=xy us u:=rfl;rw[w] at f;simp at y;obtain⟨h,⟨E,F⟩,p1,B,p3⟩:=akM (m:=λt=>t==28) Mh rfl P f aa aa;have M:us=(pre++[u])++r:=by rw[d];simp
  have Q:(((pre++[u]).length:Nat):Int)=((pre.length+1:Nat):Int):=ah;have ih:=λα=>adk g (o:=o) r (pre++[u]) (acc++xy us u) h α ⟨E,F⟩ M (by rw[τ];omega) B;rw[Λ,Q] at ih;have wr:(AV.rptr [.vec (aD us.length) (vU us)]).width=some 1:=rfl;have K:(AV.rptr [.vec (aD us.length) (vU us)]).cells=[.rptr [.vec (aD us.length) (vU us)]]:=rfl;rw[aJ,s,oF];simp only[go_sem,seval,a0,a3,bD,bY,a12,l,KP o C,aqs g p,D,aQ,wr,K,azY,bxF,aqj,J,aqk,T,aC gf,ο O,cG,p1,w1];refine ih _ ?_ ?_ ?_ ?_ ?_;all_goals simp[go_sem,a0,bD,bY]
def aaC{H}{v}{l:List Fi}(h:fO H 35 3 jv dI v l)(d:l.length<=1099511627776):∃H',dD aV (run aV) (.fn (.func 23) [] []) [v] H=some (v,H')/\fO H' 35 3 jv dI v (zy l):=by
 obtain⟨H',b,c,h3⟩:=OC (f0:=53) (rest:=sq 54) (dec:=uH) (gF:=zy) (r:=[.fn (.func 54) [] []]) h (by simp[sq]) (abS l) (H9 l) d;have a:dD aV (run aV) (.fn (.func 53) [] []) [v,.fn (.func 54) [] []] H=some (.tup [],H'):=by rw[qz rfl rfl,wK rfl];show bG yQ (bG (aM dG [19,20,45,47]) (aM ek [50])) 53 _ H=_;unfold bG;have:yQ 53 [v,.fn (.func 54) [] []] H=some (.tup [],H'):=b;rw[this]
 refine⟨H',?_,c⟩;rw[aql];refine ow rfl rfl func23 rfl (by rw[ntmps23];simp) ?_;simp[go_sem,a,jy,results23]
def oL(us:List Un):List Fi:=zy (oF us us)
def ahV(us):(oL us).length=(oF us us).length:=(H9 _).length_eq
def of7(a:gl us):aK prog (run aV) 7 [fD us]=some (.vec (aD (oL us).length) ((oL us).map dI)):=by
 refine ED (c:=.seq _ (.seq _ (.seq (.seq _ (.block 0 (.loop B7))) _))) rfl rfl func7 rfl (by rw[ntmps7];simp) (bE:=[fD us]) rfl (by show((fD us).aq&&true)=true;rw[yR];rfl) ?_;have d:(SA (jE us)).length=us.length:=by simp[SA,jE]
 have tB:=a.fT;simp[go_sem,ab.empty,fD,aqt a,d,jy];simp[bW];refine bz (dm (adk a (o:=aD us.length) us [] [] (.vec .nil []) _ _ rfl aP (.inl ⟨rfl,rfl⟩) ?_ ?_ ?_ ?_ ?_)) ?_
 case refine_6=>
  rintro _ ⟨ae,H',rfl,v',b,h3⟩;rw[Ο] at b;have qg:=HJ (us:=us) us a.kW;obtain⟨H2,f,e⟩:=aaC b aa;simp only[go_sem,seval,h3,f,results7];exact⟨_,_,rfl,Qq Mh (λ_ _ _=>rfl) e⟩
 all_goals simp[go_sem,]
 all_goals(try rfl)
end
set_option maxRecDepth 100000
set_option maxHeartbeats 8000000
def Dj:List FuncId:=[8,25,26,55]
def I9:List FuncId:=[8,24,25,26,55]
noncomputable def aE:Env:={P:=prog,G:=λf=>Dj.contains f,cl:=λf=>I9.contains f,fq:=λ_=>false,dyn:=λi=>i==36||i==41,df:=λ_=>false,ext:=aM gJ [24]}
def aCL:okF aE 8=true:=af
def azZ:okF aE 25=true:=af
def az0:okF aE 26=true:=af
def az1:okF aE 55=true:=af
def az2:aE.P=prog:=(rfl)
def az3:aE.fq=λ_=>false:=(rfl)
def avE:aE.dyn 6=false:=(rfl)
def aqu:aE.dyn 28=false:=(rfl)
attribute [go_sem] az2 az3 avE aqu
def cK{f}(a:aE.cl f=true){args}{v}(h:aK prog (run aE) f args=some v)(H:ab):bu aE f args H=some (v,H):=vo a h H
def Dk(x):(dI x).width=some 3:=rfl
def az4(x):(dI x).aq=true:=rfl
def T4(x)(H:ab):eQ (dI x) H=some (.ptr H.next 0,H.push (.z (jv x))):=by simp[eQ,AV.width,AV.cells,dI,jv]
def aqv(x y):aK prog (run aE) 55 [dI x,dI y]=some (.bool (fU x y)):=by
 obtain⟨a,b,f⟩:=x;obtain⟨h,d,g⟩:=y;refine qy (c:=.seq _ (.seq (.seq _ (.cond _ _ _)) (.seq (.seq _ (.cond _ _ _)) (.seq _ _)))) rfl rfl func55 rfl (by rw[ntmps55];simp) (bE:=[dI (a,b,f),dI (h,d,g)]) rfl rfl ?_ rfl rfl
 cases h1:(a==h) with
 |false=>
  have e:fU (a,b,f) (h,d,g)=Op.bytesLess a h:=by simp[fU,h1]
  rw[e];simp[go_sem,ab.empty,T4,jv,h1,χ,results55]
 |true=>
  have j:=eq_of_beq h1;subst j;have hb:Op.bytesLess a a=false:=wG a
  cases h3:(b != d) with
  |true=>
   have i:b≠d:=by simpa using h3
   have e:fU (a,b,f) (a,d,g)=decide (b<d):=by simp[fU,hb,Gl,i]
   rw[e];simp[go_sem,ab.empty,T4,jv,h1,h3,ω,results55]
  |false=>
   have i:b=d:=by simpa using h3
   subst i;have e:fU (a,b,f) (a,b,g)=decide (f<g):=by simp[fU,hb,Gl]
   rw[e];simp[go_sem,ab.empty,T4,jv,h1,h3,ω,results55]
def aaD(x y)(H):bu aE 55 [dI x,dI y] H=some (.bool (fU x y),H):=cK rfl (aqv x y) H
def uJ(x:Fi):List Fi->List Fi
 |[]=>[x]
 |y::r=>if fU x y=true then y::uJ x r else x::y::r
def su(x:Fi)(l:List Fi):List Fi:=(uJ x l.reverse).reverse
def uB:List Fi->List Fi->List Fi
 |acc,[]=>acc
 |acc,x::r=>uB (su x acc) r
def Yw(x):∀l:List Fi,(uJ x l).length=l.length+1
 |[]=>rfl
 |y::r=>by
  unfold uJ;split
  ·rw[Γ,Yw x r];rfl
  ·rfl
def ak4(x)(l:List Fi):(su x l).length=l.length+1:=by simp[su,Yw]
def KY(o){l:List Fi}{i:Nat}{x:Fi}(h:l[i]? =some x):dW prog 30 (.vec o (l.map dI)) (.i i)=some (.rptr (jv x)):=rP Ql JK dI o h rfl
def adl(x)(H):dZ prog 30 1 [(0,dI x)] H=some (.vec .full [dI x],H):=vB AK (dI x) rfl rfl aA H
def Rx(x):List.take 3 (jv x)=jv x:=rfl
def Ry(x):(jv x).length=3:=rfl
def Qu(l:List Fi):(l.map dI).length=l.length:=Θ _
noncomputable def Hn:=f26.c.r.r.l.r.b.b
noncomputable def Ho:=Hn.r.l.b.r.l.b.b
def T5(x):AV.agg (jv x)=dI x:=rfl
def aaE{o o3}{l acc:List Fi}{i:Nat}{p:Fi}(m:l[i]? =some p)(x:acc.length<=1000000000):∀h a α H,acc=h.reverse++a->su p acc=(uJ p h).reverse++a->α 0=.vec o (l.map dI)->α 3=.vec o3 (acc.map dI)->α 4=.i i->α 5=.i h.length->
  aF (aL (aT aE Ho) α H) λe c H'=>e=.exit 2/\H'=H/\c 0=.vec o (l.map dI)/\c 3=.vec o3 (acc.map dI)/\c 4=.i i/\∃y:Nat,y<=acc.length/\su p acc=acc.take y++p::acc.drop y/\c 5=.i y
 |[],a,α,⟨n,L⟩,g,hi,d,h3,b,h5=>by
  have k:Ho=.seq _ _:=rfl;have j:decide (((0:Nat):Int)>0)=false:=rfl;simp at h5;rw[aJ,k];simp only[go_sem,seval,d,h3,b,h5];refine⟨aI,aI,?_,?_,?_,0,aFc _,by rw[hi,aFB,aEQ,g];rfl,?_⟩;all_goals simp[go_sem]
 |y::r,a,α,⟨n,L⟩,g,hi,d,h3,b,h5=>by
  have k:Ho=.seq _ _:=rfl;have q:acc=r.reverse++y::a:=by rw[g];simp
  have hlen:r.length+1+a.length=acc.length:=by rw[q];simp;omega
  have j:=bH (((r.length+1:Nat):Int)>0);have w1:IntKind.i64.wrap (((r.length+1:Nat):Int)-1)=((r.length:Nat):Int):=vP (r.length+1) aa aa;have w:acc[r.length]? =some y:=by grind
  have s:=KY o3 w;have t:=KY o m;have f:uJ p (y::r)=if fU p y=true then y::uJ p r else p::y::r:=rfl;simp only[Γ] at h5;rw[aJ,k]
  cases hc:fU p y with
  |true=>
   rw[hc,μ rfl] at f;simp only[go_sem,seval,d,h3,b,h5,j,w1,s,t,aEQ,Rx,Ry,T5,aaD,hc];refine aW (aaE (o:=o) (o3:=o3) m x r (y::a) _ ⟨n,L⟩ q (by rw[hi,f];simp) ?_ ?_ ?_ ?_) ?_;case refine_5=>exact λe c H' v=>v
   all_goals simp[go_sem,d,h3,b]
  |false=>
   rw[hc,κ ah] at f;simp only[go_sem,seval,d,h3,b,h5,j,w1,s,t,aEQ,Rx,Ry,T5,aaD,hc];refine⟨aI,aI,?_,?_,?_,r.length+1,aa,?_,?_⟩
   case refine_4=>
    have u:r.length+1=(y::r).reverse.length:=ah;rw[hi,f];conv=>rhs;rw[g,u]
    rw[aGJ,aGI];simp
   all_goals simp[go_sem]
def ab3{o:Ab.Own}{l:List Fi}(G:l.length<=1000000000):∀r i acc o3 α H,l.drop i=r->i+r.length=l.length->acc.length=i->cY H 37 o3 acc.length->α 0=.vec o (l.map dI)->α 3=.vec o3 (acc.map dI)->α 4=.i i->
  aF (aL (aT aE Hn) α H) λe g H'=>e=.exit 0/\∃v,cY H' 37 v (uB acc r).length/\g 3=.vec v ((uB acc r).map dI)
 |[],i,acc,o3,α,⟨n,L⟩,h,j,w,hg,d,h3,f=>by have q:Hn=.seq (.seq _ _) (.seq (.block _ (.seq _ (.seq (.block _ (.loop Ho)) _))) _):=rfl;have k:=dY (a:=i) (b:=l.length) (by simp at j;omega);rw[aJ,q];simp only[go_sem,seval,d,f,Qu,k];exact⟨aI,o3,hg,by simp[go_sem,h3];rfl⟩
 |p::r,i,acc,o3,α,⟨n,L⟩,h,j,w,hg,d,h3,f=>by
  have q:Hn=.seq (.seq _ _) (.seq (.block 1 (.seq _ (.seq (.block 2 (.loop Ho)) _))) _):=rfl;simp at j;have k:=ec (a:=i) (b:=l.length) aa;have s:l[i]? =some p:=by have:=Ι (·[0]?) h;simpa using this
  have J:l.drop (i+1)=r:=by rw[<-List.drop_drop,h];rfl
  rw[aJ,q];simp only[go_sem,seval,d,h3,f,Qu,k];simp[bW];refine bz (dm (aaE (o:=o) (o3:=o3) (acc:=acc) (i:=i) s aa acc.reverse [] _ ⟨n,L⟩ ah (by simp[su]) ?_ ?_ ?_ ?_)) ?_
  case refine_5=>
   rintro _ ⟨g,H',rfl,rfl,a0,a3,a4,y,t,B,a5⟩;obtain⟨I,F,p1,x,ka⟩:=CC (m:=λ_=>false) AK rfl Dk (H:=⟨n,L⟩) (o:=.nil) .ro (es:=[]) (xs:=acc.take y) (.inl ⟨rfl,rfl⟩) aP aP;obtain⟨ob,Hb,z,A,kb⟩:=CD (m:=λ_=>false) AK rfl Dk .full p x aP aP;obtain⟨oc,D,p3,u,kc⟩:=CC (m:=λ_=>false) AK rfl Dk (yH o3 none) (xs:=acc.drop y) A aP aP;have K:[]++acc.take y++[p]++acc.drop y=su p acc:=by rw[B];simp
   rw[K] at p3 u;have E:cH (λ_=>false) prog 30 30 (.vec .nil []) (.vec .ro ((acc.take y).map dI)) ⟨n,L⟩=some (.vec I (([]++acc.take y).map dI),F):=p1;obtain⟨nc,Lc⟩:=D;simp only[go_sem,seval,a0,a3,a4,a5,XV AK Dk o3 acc y t,XW AK Dk o3 acc y t,E,z,p3,KY o s,(eN i aa),aEQ,Rx,Ry,T5,adl,cG,jy];have c:(su p acc).length=i+1:=by rw[ak4,w]
   refine aW (ab3 (o:=o) G r (i+1) (su p acc) oc _ ⟨nc,Lc⟩ J aa c u ?_ ?_ ?_) ?_;case refine_4=>exact λe g H' C=>C
   all_goals simp[go_sem,a0]
   all_goals rfl
  all_goals simp[go_sem,d,h3,f,aFA]
def go_fi(l:List Fi):AV.aq.go (l.map dI)=true:=by
 induction l with
 |nil=>rfl
 |cons x l ih=>show((dI x).aq&&AV.aq.go (l.map dI))=true;rw[az4 x,ih];rfl
def avF(l:List Fi){o:Ab.Own}(b:o.bare=aD l.length)(a:l.length<=1000000000):aK prog (run aE) 26 [.vec o (l.map dI)]=some (.vec (aD (uB [] l).length) ((uB [] l).map dI)):=by
 refine eX (c:=.seq _ (.seq _ (.seq (.seq _ (.block 0 (.loop Hn))) _))) rfl rfl func26 rfl (by rw[ntmps26];simp) (bE:=[.vec (aD l.length) (l.map dI)]) (by simp[AV.erase,AV.bare,b]) ?_ ?_ (jO (go_fi _))
 ·show((AV.vec (aD l.length) (l.map dI)).aq&&_)=true;rw[jO (go_fi l)];rfl
 simp[go_sem,ab.empty,jy];simp[bW];refine bz (dm (ab3 (o:=aD l.length) (l:=l) a l 0 [] .nil _ _ rfl ah rfl (.inl ⟨rfl,rfl⟩) ?_ ?_ ?_)) ?_
 case refine_4=>
  rintro _ ⟨ae,H',rfl,o',g,h3⟩;simp only[go_sem,seval,h3,results26];refine⟨_,rfl,?_⟩;simp[AV.erase,AV.bare,g.bare,aD]
 all_goals simp[go_sem,]
 all_goals(try rfl)
def aqw(l:List Fi){o:Ab.Own}(b:o.bare=aD l.length)(a:l.length<=1000000000)(H):bu aE 26 [.vec o (l.map dI)] H=some (.vec (aD (uB [] l).length) ((uB [] l).map dI),H):=cK rfl (avF l b a) H
def Fe(x y):fU x y=true↔bl x.1 y.1=true\/(x.1=y.1/\(x.2.1<y.2.1\/(x.2.1=y.2.1/\x.2.2<y.2.2))):=by simp[fU,Gl]
def Nq(x):fU x x=false:=by
 cases h:fU x x with
 |false=>rfl
 |true=>
  rw[Fe] at h;rcases h with h|⟨_,h⟩
  ·rw[wG] at h;cases h
  ·omega
def H_{x y z}(h:fU x y=true)(k:fU y z=true):fU x z=true:=by
 rw[Fe] at*
 rcases h with h|⟨h1,h2⟩<;>rcases k with k|⟨k1,k2⟩
 ·exact .inl (Cs h k)
 ·grind
 ·grind
 ·grind
def I_{x y}(h:fU x y=false)(k:fU y x=false):x=y:=by
 have a:¬_:=λe=>by rw[(Fe x y).2 e] at h;cases h
 have c:¬_:=λe=>by rw[(Fe y x).2 e] at k;cases k
 simp at a c;have e:=Jo a.1 c.1;have d:=a.2 e;have k2:=c.2 e.symm;have b:x.2.1=y.2.1:=aa;have f:x.2.2=y.2.2:=by have:=d.2 b;have:=k2.2 b.symm;omega
 exact Prod.ext e (Prod.ext b f)
def WT{x y}(h:fU x y=true):fU y x=false:=by
 cases k:fU y x with
 |false=>rfl
 |true=>have:=H_ h k;rw[Nq] at this;cases this
def JN{x y z}(h:fU x y=false)(k:fU y z=false):fU x z=false:=by
 cases c:fU x z with
 |false=>rfl
 |true=>
  cases d:fU y x with
  |true=>rw[H_ d c] at k;cases k
  |false=>have:=I_ h d;subst this;rw[c] at k;cases k
abbrev Aa(x y:Fi):Prop:=fU y x=false
def af0(l):(zy l).Pairwise Aa:=by
 have h:=List.pairwise_mergeSort (le:=λx y=> !fU y x) (λa b c d e=>by
  simp[aFk] at*
  exact JN e d) (λa b=>by
  cases h:fU b a with
  |false=>simp
  |true=>simp[WT h]) l
 exact h.imp λ{a b} f=>by simpa using f
def afl{l m:List Fi}(d:l.Perm m)(e:l.Pairwise Aa)(hm:m.Pairwise Aa):l=m:=
 List.Perm.eq_of_pairwise (le:=Aa) (λa b _ _ c f=>I_ f c) e hm d
def NT(x):∀l:List Fi,(uJ x l).Perm (x::l)
 |[]=>.refl _
 |y::r=>by
  unfold uJ;split
  ·exact((NT x r).cons y).trans (.swap x y r)
  ·exact .refl _
abbrev geG(x y:Fi):Prop:=fU x y=false
def Vl(x):∀l:List Fi,l.Pairwise geG->(uJ x l).Pairwise geG
 |[],_=>List.pairwise_singleton _ _
 |y::r,h=>by
  unfold uJ;have b:=aEK.1 h;split
  ·rename_i c;refine aEK.2 ⟨λz a=> ?_,Vl x r b.2⟩;rcases Υ.1 ((NT x r).mem_iff.1 a) with rfl|a
   ·exact WT c
   ·exact b.1 z a
  ·rename_i c;have d:fU x y=false:=by simpa using c
   refine aEK.2 ⟨λz a=> ?_,h⟩;rcases Υ.1 a with rfl|a
   ·exact d
   ·exact JN d (b.1 z a)
def ahW(x)(l):(su x l).Perm (x::l):=(List.reverse_perm _).trans ((NT x _).trans ((List.reverse_perm l).cons x))
def af1(x)(l)(h:l.Pairwise Aa):(su x l).Pairwise Aa:=by unfold su;rw[aFS];exact Vl x _ (by rw[aFS];exact h)
def VY:∀r acc,(uB acc r).Perm (acc++r)
 |[],acc=>by rw[Η];exact .refl _
 |x::r,acc=>((VY r (su x acc)).trans ((ahW x acc).append_right r)).trans List.perm_middle.symm
def UR:∀r acc,acc.Pairwise Aa->(uB acc r).Pairwise Aa
 |[],acc,h=>h
 |x::r,acc,h=>UR r _ (af1 x acc h)
def ak5(l m:List Fi)(h:l.Perm m):uB [] l=zy m:=
 afl ((VY l []).trans (h.trans (H9 m).symm)) (UR l [] .nil) (af0 m)
def Nr(n)(r):jQ (n::r)=e_ n++jQ r:=by rw[jQ]
def I'(k f t)(w)(a)(ks):e_ (.mk k f t w a ks)=.mk k f t w a ks::jQ ks:=by rw[e_]
def WU:∀{ks:List Nd} {x:Nd},x∈ks->(e_ x).length<=(jQ ks).length
 |y::r,x,h=>by
  rw[Nr,τ];rcases Υ.1 h with rfl|h
  ·omega
  ·have:=WU h;omega
def go_nd(l:List Nd):AV.aq.go (l.map aw)=true:=by
 induction l with
 |nil=>rfl
 |cons x l ih=>show((aw x).aq&&AV.aq.go (l.map aw))=true;rw[iL x,ih];rfl
def az5(x)(H):dZ prog 69 1 [(0,aw x)] H=some (.vec .full [aw x],H):=by have h:=vB pS (aw x) (by rw[pP];exact sM x) (by simp[pP,lj,yj,yA]) aA H;rwa [pP] at h
noncomputable def Mz:=f25.c.r.r.l.r.b.b
def Hp(x:Nd):Prop:=aK prog (run aE) 25 [aw x]=some (.vec (aD (e_ x).length) ((e_ x).map aw))
def aaF{x}(h:Hp x)(H:ab):bu aE 25 [aw x] H=some (.vec (aD (e_ x).length) ((e_ x).map aw),H):=cK rfl h H
def ab4{n:Nd}(ih:∀x∈n.ks,Hp x):∀r i acc o α H,n.ks.drop i=r->i+r.length=n.ks.length->acc.length+(jQ r).length<=1000000000->i<=acc.length->cY H 71 o acc.length->H.get 0=some (.z (aB n))->α 1=.ptr 0 0->α 3=.vec o (acc.map aw)->α 4=.i i->
  aF (aL (aT aE Mz) α H) λe F H'=>e=.exit 0/\∃d,cY H' 71 d (acc++jQ r).length/\F 3=.vec d ((acc++jQ r).map aw)
 |[],i,acc,o,α,⟨m,L⟩,l,p,v,hi,hg,c,a1,a3,a4=>by
  have q:Mz=.seq (.seq _ _) (.seq _ _):=rfl;have h:=dY (a:=i) (b:=n.ks.length) (by simp at p;omega);obtain⟨j,g⟩:=ai.1 c;have u:=aC g;have s:=ο j;rw[aJ,q];simp only[go_sem,seval,a1,a3,a4,h,u,s,oK,bL];have:acc++jQ []=acc:=by rw[jQ,Η]
  rw[this];exact⟨aI,o,hg,by first|rfl|(simp[go_sem,a3])⟩
 |x::r,i,acc,o,α,⟨m,L⟩,l,p,v,hi,hg,c,a1,a3,a4=>by
  have q:Mz=.seq (.seq _ _) (.seq _ _):=rfl;simp at p;rw[Nr,τ] at v;have h:=ec (a:=i) (b:=n.ks.length) aa;obtain⟨j,g⟩:=ai.1 c;have u:=aC g;have s:=ο j;have A:n.ks[i]? =some x:=by have:=Ι (·[0]?) l;simpa using this
  have D:n.ks.drop (i+1)=r:=by rw[<-List.drop_drop,l];rfl
  have h1:1<=(e_ x).length:=by obtain⟨k,f,t,w,a,ks⟩:=x;rw[I'];simp
  obtain⟨d,⟨B,C⟩,p1,E,p3⟩:=CC (m:=λ_=>false) pS rfl sM (aD (e_ x).length) (xs:=e_ x) hg aa aa;have y:=λα=>ab4 ih r (i+1) (acc++e_ x) d α ⟨B,C⟩ D aa (by rw[τ];omega) (by rw[τ];omega) E (p3.cells c);rw[Λ,<-Nr] at y;rw[aJ,q];simp only[go_sem,seval,a1,a3,a4,h,u,s,oK,bL,kD (if n.ks.isEmpty then .nil else .ro) A,aaF (ih x (Δ A)),cG,p1,(eN i aa)];refine y _ ?_ ?_ ?_;all_goals simp[go_sem,a1]
def ab5:∀n,(e_ n).length<=1000000000->Hp n
 | .mk k f t w a ks,b=>by
  have d:∀x∈ks,Hp x:=λx e=>ab5 x (by
   have:=WU e;rw[I',Γ] at b
   omega)
  unfold Hp;rw[I',Γ] at b;refine eX (c:=.seq _ (.seq _ (.seq (.seq _ (.block 0 (.loop Mz))) _))) rfl rfl func25 rfl (by rw[ntmps25];simp) (bE:=[aw (.mk k f t w a ks)]) (by simp[pP]) (by rw[yB];rfl) ?_ (jO (go_nd _));simp[go_sem,ab.empty,AE,az5,jy];simp[bW];refine bz (dm (ab4 (n:=.mk k f t w a ks) d ks 0 [.mk k f t w a ks] .full _ _ rfl (by simp[Nd.ks]) aP ah (.inr (.inl ⟨rfl,ah⟩)) (ai.2 ⟨aA,by rw[bo,μ rfl]⟩) ?_ ?_ ?_)) ?_
  case refine_4=>
   rintro _ ⟨ae,⟨m1,L1⟩,rfl,o',g,h3⟩;simp only[go_sem,seval,h3,results25];refine⟨_,rfl,?_⟩;rw[I'];simp[AV.erase,AV.bare,g.bare,aD,aFL]
  all_goals simp[go_sem,]
  all_goals rfl
 termination_by n=>SizeOf.sizeOf n
def Hq(i:Nat)(x:Me):Bool:=decide (x.to=some i)&&x.wr
noncomputable def A8:=f8.c.r.r.l.r.b.b
noncomputable def B8:=A8.r.l.b.r.l.r.b.b
noncomputable def C8:=A8.r.l.b.r.r.r.r.b.b
noncomputable def D8:=B8.r.l.b.r.r.r.l.r.b.b
noncomputable def MA:=B8.r.l.b.r.r.r.r.l
noncomputable def MB:=B8.r.l.b.r.r.r.r.r.l
noncomputable def MC:=B8.r.l.b.r.r.r.r.r.r.l
noncomputable def E8:=B8.r.l.b.r.r.r.r.r.r.r.r.b.b
def aCM(x)(k:Nat):(dS x != (k:Int))= !decide (x=some k):=by show(!(dS x==(k:Int)))=_;rw[Mi]
def AZ(l:List Bi):(l.map bg).length=l.length:=Θ _
def JO(l:List Me):(l.map ck).length=l.length:=Θ _
def Kg(u:Un):(dU u)[10]? =some (.vec (aD u.mp.ms.length) (u.mp.ms.map ck)):=rfl
def SD(u:Un):(dU u)[2]? =some (.vec (aD u.tk.length) (V u.tk)):=rfl
def bC(b:Bi):List AV:=[.i b.at_,.i b.k,.str b.w,.i b.item]
section
variable {u:Un}
def ab6(E:u.mp.ms.length<=1000000){p5 k fa fb}{te}{v0 v3 v4 v7 v8}{H0:ab}(h5:H0.get p5=some (.c te (dU u))):∀r j x y α H,u.mp.ms.drop j=r->j+r.length=u.mp.ms.length->fa=x+(r.filter (lK k)).length->fb=y+(r.filter (Hq k)).length->x+y<=j->H=H0->α 0=v0->α 3=v3->α 4=v4->α 5=.ptr p5 0->α 6=.i k->α 7=v7->α 8=v8->α 9=.i x->α 10=.i y->α 11=.i j->
  aF (aL (aT aE D8) α H) λe l H'=>e=.exit 4/\H'=H0/\l 0=v0/\l 3=v3/\l 4=v4/\l 5=.ptr p5 0/\l 6=.i k/\l 7=v7/\l 8=v8/\l 9=.i fa/\l 10=.i fb
 |[],j,x,y,α,H,B,D,d,f,A,hH,a0,a3,a4,a5,a6,a7,a8,a9,bD,bY=>by have C:D8=.seq (.seq _ _) (.seq (.block _ (.seq (.seq _ (.cond _ _ _)) (.seq _ (.cond _ _ _)))) _):=rfl;have q:=dY (a:=j) (b:=u.mp.ms.length) (by simp at D;omega);subst hH;obtain⟨n,L⟩:=H;obtain⟨z,g⟩:=ai.1 h5;have c:=aC g;have s:=ο z;simp[List.filter_nil] at d f;subst d f;rw[aJ,C];simp only[go_sem,seval,a5,bY,c,s,Kg,JO,q];refine⟨aI,aI,?_⟩;simp[go_sem,a0,a3,a4,a6,a7,a8,a9,bD]
 |m::r,j,x,y,α,H,B,D,d,f,A,hH,a0,a3,a4,a5,a6,a7,a8,a9,bD,bY=>by
  have C:D8=.seq (.seq _ _) (.seq (.block _ (.seq (.seq _ (.cond _ _ _)) (.seq _ (.cond _ _ _)))) _):=rfl;simp at D;have q:=ec (a:=j) (b:=u.mp.ms.length) aa;have hm:u.mp.ms[j]? =some m:=by have:=Ι (·[0]?) B;simpa using this
  have F:u.mp.ms.drop (j+1)=r:=by rw[<-List.drop_drop,B];rfl
  have t:=aei (aD u.mp.ms.length) hm;have w1:=eN j aa;have p:=aCM m.to k;have ih:=λx y α w v A=>ab6 E (k:=k) (fa:=fa) (fb:=fb) (v0:=v0) (v3:=v3) (v4:=v4) (v7:=v7) (v8:=v8) h5 r (j+1) x y α H F aa w v A hH;subst hH;obtain⟨n,L⟩:=H;obtain⟨z,g⟩:=ai.1 h5;have c:=aC g;have s:=ο z;rw[aEU] at d f;have h:lK k m=(decide (m.to=some k)&& !m.wr):=rfl;have o:Hq k m=(decide (m.to=some k)&&m.wr):=rfl;rw[aJ,C]
  cases hq:decide (m.to=some k) with
  |false=>
   rw[hq] at p h o;simp at h o;rw[h] at d;rw[o] at f;simp at d f;simp only[χ] at p;simp only[go_sem,seval,a5,a6,bY,c,s,Kg,JO,q,t,p,w1];refine ih x y _ d f aa ?_ ?_ ?_ ?_ ?_ ?_ ?_ ?_ ?_ ?_;all_goals simp[go_sem,a0,a3,a4,a5,a6,a7,a8,a9,bD]
  |true=>
   rw[hq] at p h o;simp at h o;simp only[ω] at p
   cases hw:m.wr with
   |true=>
    rw[hw] at h o t;simp only[ω] at h;rw[h] at d;rw[o] at f;simp only[υ,ap1,aEl,Γ] at d f;simp only[go_sem,seval,a5,a6,bD,bY,c,s,Kg,JO,q,t,p,w1,(eN y aa)];refine ih x (y+1) _ d aa aa ?_ ?_ ?_ ?_ ?_ ?_ ?_ ?_ ?_ ?_;all_goals simp[go_sem,a0,a3,a4,a5,a6,a7,a8,a9]
   |false=>
    rw[hw] at h o t;simp at h;rw[h] at d;rw[o] at f;simp at d f;simp only[go_sem,seval,a5,a6,a9,bY,c,s,Kg,JO,q,t,p,w1,(eN x aa)];refine ih (x+1) y _ aa f aa ?_ ?_ ?_ ?_ ?_ ?_ ?_ ?_ ?_ ?_;all_goals simp[go_sem,a0,a3,a4,a5,a6,a7,a8,bD]
end
structure Ac(us:List Un)(u:Un)(i k p5 p7:Nat)(b:Bi)(rd wr:Nat)(acc:List Fi)(α:az)(H:ab):Prop where
 a0:α 0=.vec (aD us.length) (wU us)
 a3:∃o,cY H 37 o acc.length/\α 3=.vec o (acc.map dI)
 a4:α 4=.i i
 a5:α 5=.ptr p5 0
 h5:H.get p5=some (.k 91 (dU u))
 a6:α 6=.i k
 a7:α 7=.ptr p7 0
 h7:H.get p7=some (.k 93 (bC b))
 a8:α 8=.i (ee u (b.at_:Int))
 a9:α 9=.i rd
 bD:α 10=.i wr
def DH{acc:List Fi}{o}{H}(x)(hg:cY H 37 o acc.length)(hl:acc.length<=100000000):∃a H',cH (λ_=>false) prog 30 30 (.vec o (acc.map dI)) (.vec .full [.agg [.str x.1,.i x.2.1,.i x.2.2]]) H=some (.vec a ((acc++[x]).map dI),H')/\cY H' 37 a (acc++[x]).length/\Kt 37 H H':=
 CD (m:=λ_=>false) AK rfl Dk .full x hg aa aa
def C1(x:Fi)(H:ab):dZ prog 30 1 [(0,.agg [.str x.1,.i x.2.1,.i x.2.2])] H=some (.vec .full [.agg [.str x.1,.i x.2.1,.i x.2.2]],H):=adl x H
def nE(u:Un)(rd wr:Nat)(b:Bi):List Fi:=if b.k≠2/\rd+wr=0 then[(u.nm,ee u (b.at_:Int),(b.k:Int))] else[]
def nF(us:List Un)(u:Un)(b:Bi):List Fi:=if b.k=2/\¬(u.nm=gQ/\b.w=gQ)/\(oU us (u.nm,b.at_) us).length=1 then[(u.nm,ee u (b.at_:Int),2)] else[]
def l9(u:Un)(rd wr:Nat)(b:Bi):List Fi:=if 3<=b.k/\rd=0/\0<wr then[(u.nm,ee u (b.at_:Int),5)] else[]
section
variable {us:List Un} {u:Un} {i k p5 p7 rd wr:Nat} {b:Bi} {acc:List Fi}
def s8a(hrw:rd+wr<=1000000)(hl:acc.length<=10000000){α:az}{H:ab}(h:Ac us u i k p5 p7 b rd wr acc α H):aF (aT aE MA α H) λe p H'=>e=.normal/\Ac us u i k p5 p7 b rd wr (acc++nE u rd wr b) p H':=by
 have s:MA=.seq _ (.cond _ _ _):=rfl;obtain⟨a0,⟨o,hg,a3⟩,a4,a5,h5,a6,a7,h7,a8,a9,bD⟩:=h;obtain⟨n,L⟩:=H;obtain⟨r,j⟩:=ai.1 h5;obtain⟨m,t⟩:=ai.1 h7;have c:=aC t;have f:=ο m;simp[bC] at c;have w1:=gK (rd+wr) (rd+wr:Nat);have a:((b.k:Int) != 2)= !decide (b.k=2):=by show(!((b.k:Int)==((2:Nat):Int)))=_;rw[dF]
 have d:(((rd+wr:Nat):Int)==0)=decide (rd+wr=0):=dF (rd+wr) 0;obtain⟨q,⟨n2,L2⟩,p1,l,p3⟩:=DH (u.nm,ee u (b.at_:Int),(b.k:Int)) hg aa;have g:=C1 (u.nm,ee u (b.at_:Int),(b.k:Int));simp only at g p1;rw[s]
 cases hk:decide (b.k=2) with
 |true=>
  rw[hk] at a;have hf:nE u rd wr b=[]:=by unfold nE;rw[κ (λh=>h.1 (aEr hk))]
  rw[hf,Η];simp only[go_sem,seval,a7,c,f,a,ω];refine⟨aI,⟨?_,⟨o,hg,?_⟩,?_,?_,h5,?_,?_,h7,?_,?_,?_⟩⟩;all_goals simp[go_sem,a0,a3,a4,a5,a6,a7,a8,a9,bD]
 |false=>
  rw[hk] at a
  cases hz:decide (rd+wr=0) with
  |false=>
   rw[hz] at d;have hf:nE u rd wr b=[]:=by unfold nE;rw[κ (λh=>aEA hz h.2)]
   rw[hf,Η];simp only[go_sem,seval,a7,a9,bD,c,f,a,d,w1,χ];refine⟨aI,⟨?_,⟨o,hg,?_⟩,?_,?_,h5,?_,?_,h7,?_,?_,?_⟩⟩;all_goals simp[go_sem,a0,a3,a4,a5,a6,a7,a8,a9,bD]
  |true=>
   rw[hz] at d;have hf:nE u rd wr b=[(u.nm,ee u (b.at_:Int),(b.k:Int))]:=by unfold nE;rw[μ ⟨aEA hk,aEr hz⟩]
   rw[hf];simp only[go_sem,seval,a3,a5,a7,a8,a9,bD,c,f,aC j,ο r,mn,a,d,w1,χ,aQ,g,cG,p1];refine⟨aI,⟨?_,⟨q,l,?_⟩,?_,?_,p3.cells h5,?_,?_,p3.cells h7,?_,?_,?_⟩⟩;all_goals simp[go_sem,a0,a4,a5,a6,a7,a8,a9,bD]
def aqx(a:gl us)(w)(t:Nat)(H:ab):bu aE 24 [.vec (aD us.length) (wU us),.agg [.str w,.i t]] H=some (.vec (aD (oU us (w,t) us).length) ((oU us (w,t) us).map iW),H):=
 ja (fs:=[24]) rfl rfl (λ_ _=>rfl) rfl (akY a (w,t)) (by simp[AV.erase,AV.bare,oq]) (jO (go_sp _)) H
def JP(l:List Sp):(l.map iW).length=l.length:=Θ _
def ab7(w):(w==([109,97,105,110]:List UInt8))=decide (w=gQ):=by
 cases h:decide (w=gQ) with
 |false=>exact aEp.2 (aEA h)
 |true=>exact aFl.2 (aEr h)
def s8b(G:gl us)(hl:acc.length<=10000000){α}{H}(h:Ac us u i k p5 p7 b rd wr acc α H):aF (aT aE MB α H) λe D H'=>e=.normal/\Ac us u i k p5 p7 b rd wr (acc++nF us u b) D H':=by
 have J:MB=.seq _ (.cond _ _ _):=rfl;obtain⟨a0,⟨o,hg,a3⟩,a4,a5,h5,a6,a7,h7,a8,a9,bD⟩:=h;obtain⟨n,L⟩:=H;obtain⟨C,I⟩:=ai.1 h5;have s:=aC I;have r:=ο C;obtain⟨B,E⟩:=ai.1 h7;have j:=aC E;have l:=ο B;simp[bC] at j;have d:((b.k:Int)==2)=decide (b.k=2):=dF b.k 2;have c:(u.nm==([109,97,105,110]:List UInt8))=decide (u.nm=gQ):=ab7 _;have t:(b.w==([109,97,105,110]:List UInt8))=decide (b.w=gQ):=ab7 _;have f:(((oU us (u.nm,b.at_) us).length:Int)==1)=decide ((oU us (u.nm,b.at_) us).length=1):=dF _ 1;have v:=aqx G u.nm b.at_;obtain⟨z,⟨n2,L2⟩,p1,y,p3⟩:=DH (u.nm,ee u (b.at_:Int),2) hg aa;have A:=p3.cells h5;have p:=p3.cells h7;have x:=C1 (u.nm,ee u (b.at_:Int),2);simp only at x p1;rw[J]
 cases hk:decide (b.k=2) with
 |false=>
  rw[hk] at d;have hf:nF us u b=[]:=by unfold nF;rw[κ (λh=>aEA hk h.1)]
  rw[hf,Η];simp only[go_sem,seval,a7,j,l,d];refine⟨aI,⟨?_,⟨o,hg,?_⟩,?_,?_,h5,?_,?_,h7,?_,?_,?_⟩⟩;all_goals simp[go_sem,a0,a3,a4,a5,a6,a7,a8,a9,bD]
 |true=>
  rw[hk] at d
  cases hm:decide (u.nm=gQ/\b.w=gQ) with
  |true=>
   have m:=aEr hm;have hf:nF us u b=[]:=by unfold nF;rw[κ (λh=>h.2.1 m)]
   rw[π m.1] at c;rw[π m.2] at t;rw[hf,Η];simp only[go_sem,seval,a5,a7,j,l,s,r,mn,d,c,t,ω];refine⟨aI,⟨?_,⟨o,hg,?_⟩,?_,?_,h5,?_,?_,h7,?_,?_,?_⟩⟩;all_goals simp[go_sem,a0,a3,a4,a5,a6,a7,a8,a9,bD]
  |false=>
   have m:=aEA hm
   have fin:∀q,q=decide ((oU us (u.nm,b.at_) us).length=1)->(q=true->nF us u b=[(u.nm,ee u (b.at_:Int),2)])/\(q=false->nF us u b=[]):=λq a=>⟨λh=>by
    unfold nF;rw[μ ⟨aEr hk,m,aEr (a▸h)⟩],λh=>by
    unfold nF;rw[κ (λg=>aEA (a▸h) g.2.2)]⟩
   cases hn:decide (u.nm=gQ) with
   |false=>
    rw[hn] at c
    cases a:decide ((oU us (u.nm,b.at_) us).length=1) with
    |false=>
     rw[a] at f;rw[(fin _ a.symm).2 rfl,Η];simp only[go_sem,seval,a0,a5,a7,j,l,s,r,mn,d,c,aQ,v,JP,f,χ];refine⟨aI,⟨?_,⟨o,hg,?_⟩,?_,?_,h5,?_,?_,h7,?_,?_,?_⟩⟩;all_goals simp[go_sem,a0,a3,a4,a5,a6,a7,a8,a9,bD]
    |true=>
     rw[a] at f;rw[(fin _ a.symm).1 rfl];simp only[go_sem,seval,a0,a3,a5,a7,a8,j,l,s,r,mn,d,c,v,JP,f,χ,aQ,x,cG,p1];refine⟨aI,⟨?_,⟨z,y,?_⟩,?_,?_,A,?_,?_,p,?_,?_,?_⟩⟩;all_goals simp[go_sem,a0,a4,a5,a6,a7,a8,a9,bD]
   |true=>
    have F:¬b.w=gQ:=λh=>m ⟨aEr hn,h⟩;rw[hn] at c;rw[ξ F] at t
    cases a:decide ((oU us (u.nm,b.at_) us).length=1) with
    |false=>
     rw[a] at f;rw[(fin _ a.symm).2 rfl,Η];simp only[go_sem,seval,a0,a5,a7,j,l,s,r,mn,d,c,t,aQ,v,JP,f,χ];refine⟨aI,⟨?_,⟨o,hg,?_⟩,?_,?_,h5,?_,?_,h7,?_,?_,?_⟩⟩;all_goals simp[go_sem,a0,a3,a4,a5,a6,a7,a8,a9,bD]
    |true=>
     rw[a] at f;rw[(fin _ a.symm).1 rfl];simp only[go_sem,seval,a0,a3,a5,a7,a8,j,l,s,r,mn,d,c,t,v,JP,f,χ,aQ,x,cG,p1];refine⟨aI,⟨?_,⟨z,y,?_⟩,?_,?_,A,?_,?_,p,?_,?_,?_⟩⟩;all_goals simp[go_sem,a0,a4,a5,a6,a7,a8,a9,bD]
def s8c(hl:acc.length<=10000000){α:az}{H:ab}(h:Ac us u i k p5 p7 b rd wr acc α H):aF (aT aE MC α H) λe q H'=>e=.normal/\Ac us u i k p5 p7 b rd wr (acc++l9 u rd wr b) q H':=by
 have t:MC=.seq _ (.cond _ _ _):=rfl;obtain⟨a0,⟨o,hg,a3⟩,a4,a5,h5,a6,a7,h7,a8,a9,bD⟩:=h;obtain⟨n,L⟩:=H;obtain⟨s,l⟩:=ai.1 h5;obtain⟨p,v⟩:=ai.1 h7;have c:=aC v;have f:=ο p;simp[bC] at c
 have a:decide ((b.k:Int)≥3)=decide (3<=b.k):=by
  by_cases h:3<=b.k
  ·rw[π h];exact bH _
  ·rw[ξ h];exact bU _
 have d:((rd:Int)==0)=decide (rd=0):=dF rd 0
 have g:decide ((wr:Int)>0)=decide (0<wr):=by
  by_cases h:0<wr
  ·rw[π h];exact bH _
  ·rw[ξ h];exact bU _
 obtain⟨r,⟨n2,L2⟩,p1,m,p3⟩:=DH (u.nm,ee u (b.at_:Int),5) hg aa;have j:=C1 (u.nm,ee u (b.at_:Int),5);simp only at j p1;rw[t]
 cases hk:decide (3<=b.k) with
 |false=>
  rw[hk] at a;have hf:l9 u rd wr b=[]:=by unfold l9;rw[κ (λh=>aEA hk h.1)]
  rw[hf,Η];simp only[go_sem,seval,a7,c,f,a];refine⟨aI,⟨?_,⟨o,hg,?_⟩,?_,?_,h5,?_,?_,h7,?_,?_,?_⟩⟩;all_goals simp[go_sem,a0,a3,a4,a5,a6,a7,a8,a9,bD]
 |true=>
  rw[hk] at a
  cases hz:decide (rd=0) with
  |false=>
   rw[hz] at d;have hf:l9 u rd wr b=[]:=by unfold l9;rw[κ (λh=>aEA hz h.2.1)]
   rw[hf,Η];simp only[go_sem,seval,a7,a9,c,f,a,d];refine⟨aI,⟨?_,⟨o,hg,?_⟩,?_,?_,h5,?_,?_,h7,?_,?_,?_⟩⟩;all_goals simp[go_sem,a0,a3,a4,a5,a6,a7,a8,a9,bD]
  |true=>
   rw[hz] at d
   cases hy:decide (0<wr) with
   |false=>
    rw[hy] at g;have hf:l9 u rd wr b=[]:=by unfold l9;rw[κ (λh=>aEA hy h.2.2)]
    rw[hf,Η];simp only[go_sem,seval,a7,a9,bD,c,f,a,d,g];refine⟨aI,⟨?_,⟨o,hg,?_⟩,?_,?_,h5,?_,?_,h7,?_,?_,?_⟩⟩;all_goals simp[go_sem,a0,a3,a4,a5,a6,a7,a8,a9,bD]
   |true=>
    rw[hy] at g;have hf:l9 u rd wr b=[(u.nm,ee u (b.at_:Int),5)]:=by unfold l9;rw[μ ⟨aEr hk,aEr hz,aEr hy⟩]
    rw[hf];simp only[go_sem,seval,a3,a5,a7,a8,a9,bD,c,f,aC l,ο s,mn,a,d,g,aQ,j,cG,p1];refine⟨aI,⟨?_,⟨r,m,?_⟩,?_,?_,p3.cells h5,?_,?_,p3.cells h7,?_,?_,?_⟩⟩;all_goals simp[go_sem,a0,a4,a5,a6,a7,a8,a9,bD]
def ab8(I:u.mp.bs.length<=1000000)(G:acc.length<=10000000){fin:List Fi}:∀r j α H,u.mp.bs.drop j=r->j+r.length=u.mp.bs.length->fin=acc++(if 3<=b.k/\r.any (nD b.w)=true then[(u.nm,ee u (b.at_:Int),8)] else[])->Ac us u i k p5 p7 b rd wr acc α H->α 12=.i j->
  aF (aL (aT aE E8) α H) λe E H'=>e=.exit 6/\Ac us u i k p5 p7 b rd wr fin E H'
 |[],j,α,⟨n,L⟩,t,v,hf,h,a12=>by
  have z:E8=.seq (.seq _ _) (.seq (.block _ (.seq _ (.cond _ _ _))) _):=rfl;obtain⟨a0,⟨o,hg,a3⟩,a4,a5,h5,a6,a7,h7,a8,a9,bD⟩:=h;obtain⟨s,y⟩:=ai.1 h5;have g:=aC y;have f:=ο s;have l:=dY (a:=j) (b:=u.mp.bs.length) (by simp at v;omega);simp[List.any_nil] at hf;subst hf;rw[aJ,z];simp only[go_sem,seval,a5,a12,g,f,uI,AZ,l];refine⟨aI,⟨?_,⟨o,hg,?_⟩,?_,?_,h5,?_,?_,h7,?_,?_,?_⟩⟩;all_goals simp[go_sem,a0,a3,a4,a5,a6,a7,a8,a9,bD]
 |x::r,j,α,⟨n,L⟩,t,v,hf,h,a12=>by
  have z:E8=.seq (.seq _ _) (.seq (.block _ (.seq _ (.cond _ _ _))) _):=rfl;obtain⟨a0,⟨o,hg,a3⟩,a4,a5,h5,a6,a7,h7,a8,a9,bD⟩:=h;obtain⟨s,y⟩:=ai.1 h5;have g:=aC y;have f:=ο s;obtain⟨D,F⟩:=ai.1 h7;have m:=aC F;have q:=ο D;simp[bC] at m;simp at v;have l:=ec (a:=j) (b:=u.mp.bs.length) aa;have M:u.mp.bs[j]? =some x:=by have:=Ι (·[0]?) t;simpa using this
  have N:u.mp.bs.drop (j+1)=r:=by rw[<-List.drop_drop,t];rfl
  have A:=zu (aD u.mp.bs.length) M;have w1:=eN j aa
  have d:decide ((b.k:Int)≥3)=decide (3<=b.k):=by
   by_cases h:3<=b.k
   ·rw[π h];exact bH _
   ·rw[ξ h];exact bU _
  have p:decide ((x.k:Int)<=2)=decide (x.k<=2):=by
   by_cases h:x.k<=2
   ·rw[π h];exact bH _
   ·rw[ξ h];exact bU _
  have c:nD b.w x=(decide (x.k<=2)&&(x.w==b.w)):=rfl;rw[List.any_cons] at hf;obtain⟨K,⟨n2,L2⟩,p1,C,p3⟩:=DH (u.nm,ee u (b.at_:Int),8) hg aa;have B:=C1 (u.nm,ee u (b.at_:Int),8);simp only at B p1;have ih:=λα hf=>ab8 I G (fin:=fin) r (j+1) α ⟨n,L⟩ N aa hf;rw[aJ,z]
  cases hk:decide (3<=b.k) with
  |false=>
   rw[hk] at d;have J:fin=acc++(if 3<=b.k/\r.any (nD b.w)=true then[(u.nm,ee u (b.at_:Int),8)] else[]):=by rw[κ (λh=>aEA hk h.1)] at hf⊢;exact hf
   simp only[go_sem,seval,a5,a7,a12,g,f,m,q,uI,AZ,l,d,w1];refine ih _ J ⟨?_,⟨o,hg,?_⟩,?_,?_,h5,?_,?_,h7,?_,?_,?_⟩ ?_;all_goals simp[go_sem,a0,a3,a4,a5,a6,a7,a8,a9,bD]
  |true=>
   rw[hk] at d
   cases hq:decide (x.k<=2) with
   |false=>
    rw[hq] at p c;rw[aGi] at c;rw[c,aFr] at hf;simp only[go_sem,seval,a5,a7,a12,g,f,m,q,uI,AZ,l,d,p,A,w1];refine ih _ hf ⟨?_,⟨o,hg,?_⟩,?_,?_,h5,?_,?_,h7,?_,?_,?_⟩ ?_;all_goals simp[go_sem,a0,a3,a4,a5,a6,a7,a8,a9,bD]
   |true=>
    rw[hq] at p c;rw[aF6] at c
    cases hw:(x.w==b.w) with
    |false=>
     rw[hw] at c;rw[c,aFr] at hf;simp only[go_sem,seval,a5,a7,a12,g,f,m,q,uI,AZ,l,d,p,A,hw,w1];refine ih _ hf ⟨?_,⟨o,hg,?_⟩,?_,?_,h5,?_,?_,h7,?_,?_,?_⟩ ?_;all_goals simp[go_sem,a0,a3,a4,a5,a6,a7,a8,a9,bD]
    |true=>
     rw[hw] at c;rw[c,aEO,μ ⟨aEr hk,rfl⟩] at hf;subst hf;simp only[go_sem,seval,a3,a5,a7,a8,a12,g,f,m,q,mn,uI,AZ,l,d,p,A,hw,aQ,B,cG,p1];refine⟨rfl,⟨?_,⟨K,C,?_⟩,?_,?_,p3.cells h5,?_,?_,p3.cells h7,?_,?_,?_⟩⟩;all_goals simp[go_sem,a0,a4,a5,a6,a7,a8,a9,bD]
end
set_option maxRecDepth 100000
set_option maxHeartbeats 8000000
def iz(u:Un)(k:Nat):Nat:=(u.mp.ms.filter (lK k)).length
def jk(u:Un)(k:Nat):Nat:=(u.mp.ms.filter (Hq k)).length
def tR(us:List Un)(u:Un):Nat->List Bi->List Fi
 |_,[]=>[]
 |k,b::r=>(nE u (iz u k) (jk u k) b++nF us u b++l9 u (iz u k) (jk u k) b++qS u b)++tR us u (k+1) r
def aaG(u)(x y)(b):(nE u x y b).length<=1:=by unfold nE;split<;>simp
def aaH(us)(u)(b):(nF us u b).length<=1:=by unfold nF;split<;>simp
def aaI(u)(x y)(b):(l9 u x y b).length<=1:=by unfold l9;split<;>simp
def aaJ(us:List Un)(u:Un):∀r k,(tR us u k r).length<=4*r.length
 |[],k=>by simp[tR]
 |b::r,k=>by have h1:=aaG u (iz u k) (jk u k) b;have h2:=aaH us u b;have h3:=aaI u (iz u k) (jk u k) b;have h4:=IA u b;have:=aaJ us u r (k+1);simp[tR];omega
structure Ad(us:List Un)(u:Un)(i p5:Nat)(acc:List Fi)(α:az)(H:ab):Prop where
 a0:α 0=.vec (aD us.length) (wU us)
 a3:∃o,cY H 37 o acc.length/\α 3=.vec o (acc.map dI)
 a4:α 4=.i i
 a5:α 5=.ptr p5 0
 h5:H.get p5=some (.k 91 (dU u))
def Kt.grow{et}{H:ab}{y}{o}{n}(g:cY H et o n):cY (H.push y) et o n:=eA.grow (eA.push H y) g
def aCN(b:Bi):eg [.i 0,.i 0,.str [],.i 0] 0 [.i b.at_,.i b.k,.str b.w,.i b.item]=bC b:=rfl
def aCO(u:Un)(k):iz u k+jk u k<=u.mp.ms.length:=by
 unfold iz jk;generalize u.mp.ms=l
 induction l with
 |nil=>simp
 |cons m l ih=>rw[aEU,aEU,Γ];have a:lK k m=(decide (m.to=some k)&& !m.wr):=rfl;have b:Hq k m=(decide (m.to=some k)&&m.wr):=rfl;rw[a,b];cases decide (m.to=some k)<;>cases m.wr<;>simp<;>omega
section
variable {us:List Un} {u:Un} {i p5:Nat}
def ab9(j:gl us)(D:u∈us):∀r k acc α H,u.mp.bs.drop k=r->k+r.length=u.mp.bs.length->acc.length+4*r.length<=1000000->Ad us u i p5 acc α H->α 6=.i k->
  aF (aL (aT aE B8) α H) λe B H'=>e=.exit 2/\Ad us u i p5 (acc++tR us u k r) B H'
 |[],k,acc,α,⟨n,L⟩,l,p,C,s,a6=>by
  have y:B8=.seq (.seq _ _) (.seq (.block _ (.seq _ (.seq _ (.seq _ (.seq (.seq _ (.block _ (.loop D8))) (.seq MA (.seq MB (.seq MC (.seq _ (.block _ (.loop E8))))))))))) _):=rfl;obtain⟨a0,⟨o,hg,a3⟩,a4,a5,h5⟩:=s;obtain⟨g,v⟩:=ai.1 h5;have m:=aC v;have h:=ο g;have w:=dY (a:=k) (b:=u.mp.bs.length) (by simp at p;omega);rw[aJ,y];simp only[go_sem,seval,a5,a6,m,h,uI,AZ,w];refine⟨aI,?_⟩;rw[tR,Η];refine⟨?_,⟨o,hg,?_⟩,?_,?_,h5⟩;all_goals simp[go_sem,a0,a3,a4,a5]
 |b::r,k,acc,α,⟨n,L⟩,l,p,C,s,a6=>by
  have y:B8=.seq (.seq _ _) (.seq (.block 3 (.seq _ (.seq _ (.seq _ (.seq (.seq _ (.block 4 (.loop D8))) (.seq MA (.seq MB (.seq MC (.seq _ (.block 6 (.loop E8))))))))))) _):=rfl;have z:=j.kW u D;obtain⟨a0,⟨o,hg,a3⟩,a4,a5,h5⟩:=s;obtain⟨g,v⟩:=ai.1 h5;have m:=aC v;have h:=ο g;have x:=bf (p5<n+1);have N:=bf (n<n+1);have nf:=dJ (n=p5);simp at p C;have R:k<u.mp.bs.length:=aa;have w:=ec R;have hb:u.mp.bs[k]? =some b:=by have:=Ι (·[0]?) l;simpa using this
  have Z:u.mp.bs.drop (k+1)=r:=by rw[<-List.drop_drop,l];rfl
  have tB:=z.fT;obtain⟨q,A⟩:=fo (Kf z hb);have J:ee u (b.at_:Int)=(q.2.1:Int):=by simp[ee,aE5,A]
  have kp:=eA.push ⟨n,L⟩ (.k 93 (bC b));have E:ab.get ⟨n+1,(n,.k 93 (bC b))::L⟩ p5=some (.k 91 (dU u)):=kp.2 _ _ h5;have t:ab.get ⟨n+1,(n,.k 93 (bC b))::L⟩ n=some (.k 93 (bC b)):=ai.2 ⟨aa,by rw[bo,μ rfl]⟩;have Y:cY ⟨n+1,(n,.k 93 (bC b))::L⟩ 37 o acc.length:=kp.grow hg;have M:(bC b)[0]? =some (.i b.at_):=rfl;have l1:=aaG u (iz u k) (jk u k) b;have l2:=aaH us u b;have l3:=aaI u (iz u k) (jk u k) b;have l4:=IA u b;have hrw:=aCO u k;rw[aJ,y,tR];simp only[go_sem,seval,a5,a6,m,h,x,N,nf,uI,SD,AZ,w,zu (aD u.mp.bs.length) hb,DE (aD u.tk.length) A,aCN,M];simp[bW];refine bz (dm (ab6 (k:=k) (fa:=iz u k) (fb:=jk u k) (v0:=.vec (aD us.length) (wU us)) (v3:=.vec o (acc.map dI)) (v4:=.i i) (v7:=.ptr n 0) (v8:=.i (ee u (b.at_:Int))) aa E u.mp.ms 0 0 0 _ _ rfl ah (by simp[iz]) (by simp[jk]) ah rfl ?_ ?_ ?_ ?_ ?_ ?_ ?_ ?_ ?_ ?_)) ?_
  case refine_11=>
   rintro _ ⟨cT,H1,rfl,rfl,S,P,X,I,O,b7,b8,W,rC⟩;simp[go_sem,];try simp[bW]
   refine bz (yN (s8a (us:=us) (u:=u) (i:=i) (k:=k) (p5:=p5) (p7:=n) (b:=b) (acc:=acc) (rd:=iz u k) (wr:=jk u k) aa aa ⟨S,⟨o,Y,P⟩,X,I,E,O,b7,t,b8,W,rC⟩)) ?_;rintro _ ⟨e,fS,H2,rfl,rfl,F⟩;simp[go_sem,];try simp[bW]
   refine bz (yN (s8b j (by rw[τ];omega) F)) ?_;rintro _ ⟨e,uV,H3,rfl,rfl,G⟩;simp[go_sem,];try simp[bW]
   refine bz (yN (s8c (by rw[τ,τ];omega) G)) ?_;rintro _ ⟨e,TC,⟨n4,L4⟩,rfl,rfl,c⟩;simp[go_sem,];try simp[bW]
   refine bz (dm (ab8 (us:=us) (u:=u) (i:=i) (k:=k) (p5:=p5) (p7:=n) (b:=b) (rd:=iz u k) (wr:=jk u k) (acc:=acc++nE u (iz u k) (jk u k) b++nF us u b++l9 u (iz u k) (jk u k) b) (fin:=acc++nE u (iz u k) (jk u k) b++nF us u b++l9 u (iz u k) (jk u k) b++qS u b) aa aP u.mp.bs 0 _ ⟨n4,L4⟩ rfl ah rfl ⟨?_,?_,?_,?_,c.h5,?_,?_,c.h7,?_,?_,?_⟩ ?_)) ?_
   case refine_11=>
    rintro _ ⟨α5,⟨K,Q⟩,rfl,d⟩;have ih:=λα=>ab9 j D r (k+1) (acc++nE u (iz u k) (jk u k) b++nF us u b++l9 u (iz u k) (jk u k) b++qS u b) α ⟨K,Q⟩ Z aa aP;obtain⟨T,V,f⟩:=d.a3;simp[go_sem,d.a6,(eN k aa)];refine aW (ih _ ⟨?_,⟨T,V,?_⟩,?_,?_,d.h5⟩ ?_) ?_
    case refine_6=>
     rintro e B H' ⟨rfl,U⟩;refine⟨rfl,?_⟩;simpa[Λ] using U
    all_goals simp[go_sem,d.a0,f,d.a4,d.a5]
   case refine_2=>
    obtain⟨o4,k4,f⟩:=c.a3;exact⟨o4,k4,by simp[go_sem,f]⟩
   all_goals simp[go_sem,c.a0,c.a4,c.a5,c.a6,c.a7,c.a8,c.a9,c.bD]
   all_goals(try rfl)
  all_goals simp[go_sem,a0,a3,a4,a5,a6,J]
  all_goals(try rfl)
end
set_option maxRecDepth 100000
set_option maxHeartbeats 8000000
noncomputable def F8:=C8.r.l.b.r.r.r.b.b
noncomputable def MG:=C8.r.l.b.r.l.r.t.o
noncomputable def Hr:=F8.r.l.b.r.t.l.o
def pL(u:Un):List Nd->List Fi
 |[]=>[]
 |[_]=>[]
 |x::y::r=>if x.k=12 then[(u.nm,ee u (y.f:Int),6)] else pL u (y::r)
def aaK(u:Un):∀l:List Nd,(pL u l).length<=1
 |[]=>aFc _
 |[_]=>aFc _
 |x::y::r=>by
  unfold pL;split
  ·exact ν _
  ·exact aaK u (y::r)
def aca(u:Un):∀ks:List Nd,pL u ks=((match tC ks with|some m=>(match ks[m+1]? with|some y=>[(u.nm,ee u (y.f:Int),6)]|none=>[])|none=>[]):List Fi)
 |[]=>rfl
 |[x]=>by unfold pL;rw[OG];cases xj x<;>rfl
 |x::y::r=>by
  unfold pL;rw[OG,aca u (y::r)];by_cases h:x.k=12
  ·have:xj x=true:=π h;rw[μ h,this];rfl
  ·have:xj x=false:=ξ h;rw[κ h,this];simp
   cases tC (y::r) with
   |none=>rfl
   |some m=>rfl
def uK(u:Un):AV:=.vec (aD (e_ u.tr).length) ((e_ u.tr).map aw)
def JQ(l:List Nd):(l.map aw).length=l.length:=Θ _
section
variable {us:List Un} {u:Un} {i p5 m:Nat} {x:Nd} {acc:List Fi}
def acb(w:(e_ u.tr)[m]? =some x)(l:∀y∈x.ks,y.f<u.tk.length)(W:x.ks.length<=900000000000000000)(R:acc.length<=10000000){fin}:∀r j α H,x.ks.drop j=r->j+r.length=x.ks.length->fin=acc++pL u r->Ad us u i p5 acc α H->α 13=uK u->α 14=.i m->α 15=.i j->
  aF (aL (aN aE (run aE) aL F8) α H) λe C H'=>e=.exit 10/\Ad us u i p5 fin C H'/\C 13=uK u/\C 14=.i m
 |[],j,α,⟨n,L⟩,v,p,hf,s,cq,eJ,h=>by
  have d:F8=.seq (.seq _ _) (.seq (.block _ (.seq _ (.cond _ (.seq (.region 41 Hr.toArray true) _) _))) _):=rfl;obtain⟨a0,⟨o,hg,a3⟩,a4,a5,h5⟩:=s;simp at p;have c:=dY (a:=j+1) (b:=x.ks.length) aa;have w1:=eN j aa;have g:=Hh (aD (e_ u.tr).length) w;simp[pL] at hf;subst hf;simp[uK] at cq;rw[aJ,d];simp only[go_sem,seval,cq,eJ,h,g,wW,bL,w1,c];refine⟨aI,⟨?_,⟨o,hg,?_⟩,?_,?_,h5⟩,?_,?_⟩;all_goals(try simp[go_sem,a0,a3,a4,a5])
  all_goals(try rfl)
 |[y],j,α,⟨n,L⟩,v,p,hf,s,cq,eJ,h=>by
  have d:F8=.seq (.seq _ _) (.seq (.block _ (.seq _ (.cond _ (.seq (.region 41 Hr.toArray true) _) _))) _):=rfl;obtain⟨a0,⟨o,hg,a3⟩,a4,a5,h5⟩:=s;simp at p;have c:=dY (a:=j+1) (b:=x.ks.length) aa;have w1:=eN j aa;have g:=Hh (aD (e_ u.tr).length) w;simp[pL] at hf;subst hf;simp[uK] at cq;rw[aJ,d];simp only[go_sem,seval,cq,eJ,h,g,wW,bL,w1,c];refine⟨aI,⟨?_,⟨o,hg,?_⟩,?_,?_,h5⟩,?_,?_⟩;all_goals(try simp[go_sem,a0,a3,a4,a5])
  all_goals(try rfl)
 |y::z::r,j,α,⟨n,L⟩,v,p,hf,s,cq,eJ,h=>by
  have d:F8=.seq (.seq _ _) (.seq (.block _ (.seq _ (.cond _ (.seq (.region 41 Hr.toArray true) _) _))) _):=rfl;obtain⟨a0,⟨o,hg,a3⟩,a4,a5,h5⟩:=s;obtain⟨O,X⟩:=ai.1 h5;simp at p;have c:=ec (a:=j+1) (b:=x.ks.length) aa;have w1:=eN j aa;have g:=Hh (aD (e_ u.tr).length) w;have S:x.ks[j]? =some y:=by have:=Ι (·[0]?) v;simpa using this
  have I:x.ks.drop (j+1)=z::r:=by rw[<-List.drop_drop,v];rfl
  have E:x.ks[j+1]? =some z:=by have:=Ι (·[0]?) I;simpa using this
  have G:=kD (if x.ks.isEmpty then .nil else .ro) S;obtain⟨q,D⟩:=fo (l z (Δ E));have K:ee u (z.f:Int)=(q.2.1:Int):=by simp[ee,aE5,D]
  have t:((y.k:Int)==12)=decide (y.k=12):=dF y.k 12;have ih:=λα hf=>acb w l W R (fin:=fin) (z::r) (j+1) α ⟨n,L⟩ I aP hf;unfold pL at hf;simp[uK] at cq
  cases hk:decide (y.k=12) with
  |false=>
   rw[hk] at t;rw[κ (aEA hk)] at hf;rw[aJ,d];simp only[go_sem,seval,cq,eJ,h,g,G,wW,CW,rZ,bL,w1,c,t];refine ih _ hf ⟨?_,⟨o,hg,?_⟩,?_,?_,h5⟩ ?_ ?_ ?_;all_goals simp[go_sem,a0,a3,a4,a5,cq,eJ]
   all_goals(try rfl)
  |true=>
   rw[hk] at t;rw[μ (aEr hk),K] at hf;subst hf;obtain⟨U,⟨n2,L2⟩,p1,M,p3⟩:=DH (u.nm,(q.2.1:Int),6) hg aa;have F:=C1 (u.nm,(q.2.1:Int),6);simp only at F p1;obtain⟨B,T,N,V,J,P,Q⟩:∃A,A=Hr.toArray/\behind A A.size 20 2=true/\behind A A.size 20 4=true/\behind A A.size 20 9=true/\behind A A.size 20 14=true/\behind A A.size 20 17=true:=⟨_,rfl,af,af,af,af,af⟩;have Y:∀α H,aN aE (run aE) aL (.region 41 Hr.toArray true) α H=an (eY aE (run aE) B 0 [_,_,_,_,_,_,_,_,_,_,_,_,_,_,_,_,_,_,_,_,_,_] [] [] α H) λr=>some (.normal,r.1,r.2):=λα H=>by rw[nG _ _ rfl rfl,T];exact rfl
   rw[aJ,d];simp only[go_sem,seval,Y,N,V,J,P,Q,aEO,a3,a5,cq,eJ,h,g,G,kD (if x.ks.isEmpty then .nil else .ro) E,DE (aD u.tk.length) D,aC X,ο O,mn,SD,wW,CW,PC,rZ,bL,w1,c,t,aQ,F,cG,p1];refine⟨rfl,⟨?_,⟨U,M,?_⟩,?_,?_,(p3.cells h5)⟩,?_,?_⟩;all_goals simp[go_sem,a0,a4,a5,cq,eJ]
   all_goals(try rfl)
end
set_option maxRecDepth 100000
set_option maxHeartbeats 8000000
def Hs(u:Un)(x:Nd):List Fi:=if x.k=6 then pq u x else[]
def qT(u:Un)(l:List Nd):List Fi:=l.flatMap (Hs u)
def NU(u)(x)(r):qT u (x::r)=Hs u x++qT u r:=by unfold qT;rw[agX]
def aaL(u:Un):∀l:List Nd,qT u l=pX u (l.filter λx=>decide (x.k=6))
 |[]=>rfl
 |x::r=>by
  rw[NU,aaL u r,aEU];unfold Hs;by_cases h:x.k=6
  ·rw[μ h,μ (π h)];unfold pX;rw[agX]
  ·rw[κ h,κ (by simpa using h),Ο]
def aqy(u:Un)(x:Nd):pq u x=((if x.ks.length=0 then[(u.nm,ee u (x.f:Int),7)] else[]):List Fi)++pL u x.ks:=by rw[aca];rfl
def n6(l:List Nd):Nat:=(l.filter λx=>decide (x.k=6)).length
section
variable {us:List Un} {u:Un} {i p5:Nat}
def acd(G:jb u):∀r m acc α H,(e_ u.tr).drop m=r->m+r.length=(e_ u.tr).length->m<=1000000000-r.length->r.length<=1000000000->acc.length+2*n6 r<=1000000->Ad us u i p5 acc α H->α 13=uK u->α 14=.i m->
  aF (aL (aN aE (run aE) aL C8) α H) λe d H'=>e=.exit 8/\Ad us u i p5 (acc++qT u r) d H'
 |[],m,acc,α,⟨n,L⟩,M,O,hm,U,j,s,cq,eJ=>by
  have y:C8=.seq (.seq _ _) (.seq (.block _ (.seq (.seq _ (.cond _ _ _)) (.seq (.seq _ (.cond _ (.region 36 MG.toArray true) _)) (.seq _ (.block _ (.loop F8)))))) _):=rfl;obtain⟨a0,⟨o,hg,a3⟩,a4,a5,h5⟩:=s;have v:=dY (a:=m) (b:=(e_ u.tr).length) (by simp at O;omega);simp only[uK] at cq;rw[aJ,y];simp only[go_sem,seval,cq,eJ,JQ,v];refine⟨aI,?_⟩;rw[show qT u []=[] from rfl,Η];refine⟨?_,⟨o,hg,?_⟩,?_,?_,h5⟩;all_goals(try simp[go_sem,a0,a3,a4,a5])
 |x::r,m,acc,α,⟨n,L⟩,M,O,hm,U,j,s,cq,eJ=>by
  have y:C8=.seq (.seq _ _) (.seq (.block 9 (.seq (.seq _ (.cond _ _ _)) (.seq (.seq _ (.cond _ (.region 36 MG.toArray true) _)) (.seq _ (.block 10 (.loop F8)))))) _):=rfl;obtain⟨a0,⟨o,hg,a3⟩,a4,a5,h5⟩:=s;obtain⟨Z,g5⟩:=ai.1 h5;simp only[Γ] at O hm U;have v:=ec (a:=m) (b:=(e_ u.tr).length) aa;have C:(e_ u.tr)[m]? =some x:=by have:=Ι (·[0]?) M;simpa using this
  have bO:(e_ u.tr).drop (m+1)=r:=by rw[<-List.drop_drop,M];rfl
  have w1:=eN m aa;have R:=Hh (aD (e_ u.tr).length) C;have p:((x.k:Int) != 6)= !decide (x.k=6):=by show(!((x.k:Int)==((6:Nat):Int)))=_;rw[dF]
  simp only[uK] at cq
  have K:n6 (x::r)=(if x.k=6 then 1 else 0)+n6 r:=by
   unfold n6;rw[aEU];by_cases h:x.k=6
   ·rw[μ h,μ (π h),Γ];omega
   ·rw[κ h,κ (by simpa using h)];omega
  rw[K] at j;have ih:=λacc α H j=>acd G r (m+1) acc α H bO aa aa aa j
  cases hk:decide (x.k=6) with
  |false=>
   rw[hk] at p;have c:qT u (x::r)=qT u r:=by rw[NU];unfold Hs;rw[κ (aEA hk),Ο]
   rw[κ (aEA hk)] at j;rw[aJ,y,c];simp only[go_sem,seval,cq,eJ,JQ,R,CW,rZ,v,p,w1,χ];refine ih acc _ ⟨n,L⟩ aa ⟨?_,⟨o,hg,?_⟩,?_,?_,h5⟩ ?_ ?_;all_goals(try simp[go_sem,a0,a3,a4,a5,cq])
   all_goals(try rfl)
  |true=>
   rw[hk] at p;have fw:x∈eT u.tr:=aFt.2 ⟨Δ C,hk⟩;obtain⟨T2,T3⟩:=G.LF x fw;have Hm:x.ks.length<=900000000000000000:=atB (Qt u.tr x (Δ C)) G.wide;have c:qT u (x::r)=((if x.ks.length=0 then[(u.nm,ee u (x.f:Int),7)] else[]):List Fi)++pL u x.ks++qT u r:=by rw[NU];unfold Hs;rw[μ (aEr hk),aqy]
   rw[μ (aEr hk)] at j;have wA:=aaK u x.ks;obtain⟨q,S⟩:=fo T2;have W:ee u (x.f:Int)=(q.2.1:Int):=by simp only[ee,aE5,S]
   have D:((x.ks.length:Int)==0)=decide (x.ks.length=0):=dF x.ks.length 0
   have T:∀l g H1,l.length<=acc.length+1->l++pL u x.ks++qT u r=acc++qT u (x::r)->Ad us u i p5 l g H1->g 13=uK u->g 14=.i m->g 15=.i 0->
     aF (aL (aN aE (run aE) aL F8) g H1) λe d H'=>e=.exit 10/\Ad us u i p5 (l++pL u x.ks) d H'/\d 13=uK u/\d 14=.i m:=λl g H1 h1 h2 z w t Ee=>acb C T3 Hm aa x.ks 0 g H1 rfl aa rfl z w t Ee
   cases hz:decide (x.ks.length=0) with
   |false=>
    rw[hz] at D;rw[κ (aEA hz),Ο] at c;rw[aJ,y];simp only[go_sem,seval,cq,eJ,JQ,R,CW,wW,bL,rZ,v,p,D,ω];simp only[bW];refine bz (dm (T acc _ ⟨n,L⟩ aa (by rw[c,Λ]) ⟨?_,⟨o,hg,?_⟩,?_,?_,h5⟩ ?_ ?_ ?_)) ?_
    case refine_8=>
     rintro _ ⟨fS,⟨n2,Q⟩,rfl,I,w,t⟩;obtain⟨d0,⟨o2,k2,F⟩,P,N,E⟩:=I;simp[go_sem,t,w1];refine aW (ih (acc++pL u x.ks) _ ⟨n2,Q⟩ (by rw[τ];omega) ⟨?_,⟨o2,k2,?_⟩,?_,?_,E⟩ ?_ ?_) ?_
     case refine_7=>
      rintro e d H' ⟨rfl,J⟩;refine⟨rfl,?_⟩;rw[c,<-List.append_assoc];exact J
     all_goals(try simp[go_sem,d0,F,P,N,w])
     all_goals(try rfl)
    all_goals(try simp[go_sem,a0,a3,a4,a5,cq,eJ])
    all_goals(try rfl)
   |true=>
    rw[hz] at D;rw[μ (aEr hz),W] at c;obtain⟨o',⟨n1,L1⟩,p1,X,p3⟩:=DH (u.nm,(q.2.1:Int),7) hg aa;have z:=C1 (u.nm,(q.2.1:Int),7);simp only at z p1;obtain⟨B,nB,Y,r2,V,r4⟩:∃A,A=MG.toArray/\behind A A.size 15 2=true/\behind A A.size 15 4=true/\behind A A.size 15 9=true/\behind A A.size 15 12=true:=⟨_,rfl,af,af,af,af⟩;have hR:∀α H,aN aE (run aE) aL (.region 36 MG.toArray true) α H=an (eY aE (run aE) B 0 [_,_,_,_,_,_,_,_,_,_,_,_,_,_,_,_,_] [] [] α H) λr=>some (.normal,r.1,r.2):=λα H=>by rw[nG _ _ rfl rfl,nB];exact rfl
    rw[aJ,y];simp only[go_sem,seval,hR,Y,r2,V,r4,aEO,a3,a5,cq,eJ,JQ,R,DE (aD u.tk.length) S,aC g5,ο Z,mn,SD,CW,PC,wW,bL,rZ,v,p,D,ω,aQ,z,cG,p1];simp only[bW];refine bz (dm (T (acc++[(u.nm,(q.2.1:Int),7)]) _ ⟨n1,L1⟩ ah (by rw[c];simp only[Λ]) ⟨?_,⟨o',X,?_⟩,?_,?_,(p3.cells h5)⟩ ?_ ?_ ?_)) ?_
    case refine_8=>
     rintro _ ⟨fS,⟨n2,Q⟩,rfl,I,w,t⟩;obtain⟨d0,⟨o2,k2,F⟩,P,N,E⟩:=I;simp[go_sem,t,w1];refine aW (ih (acc++[(u.nm,(q.2.1:Int),7)]++pL u x.ks) _ ⟨n2,Q⟩ (by simp only[τ,Γ,Χ];omega) ⟨?_,⟨o2,k2,?_⟩,?_,?_,E⟩ ?_ ?_) ?_
     case refine_7=>
      rintro e d H' ⟨rfl,J⟩;refine⟨rfl,?_⟩;rw[c];simpa only[Λ] using J
     all_goals(try simp[go_sem,d0,F,P,N,w])
     all_goals(try rfl)
    all_goals(try simp[go_sem,a0,a4,a5,cq,eJ])
    all_goals(try rfl)
end
set_option maxRecDepth 100000
set_option maxHeartbeats 8000000
def aqz(u:Un)(k):iz u k+jk u k=(qR u.mp.ms k).length:=by
 unfold iz jk qR;rw[Θ];generalize u.mp.ms=l
 induction l with
 |nil=>rfl
 |cons m l ih=>rw[aEU,aEU,aEU];have a:lK k m=(decide (m.to=some k)&& !m.wr):=rfl;have b:Hq k m=(decide (m.to=some k)&&m.wr):=rfl;rw[a,b];cases decide (m.to=some k)<;>cases m.wr<;>simp<;>omega
def ahX(u)(k):r9 u k=true↔0<iz u k+jk u k:=by unfold r9 kl;rw[aqz,aEn,Γ];omega
def ak6(u:Un)(k):u.mp.ms.any (lK k)=false↔iz u k=0:=by unfold iz;rw[Ξ,List.filter_eq_nil_iff,List.any_eq_false]
def az6{us}(l:gl us)(u)(k)(b):nE u (iz u k) (jk u k) b++nF us u b++l9 u (iz u k) (jk u k) b=mo us u k b++mV u k b:=by
 have j:=ahX u k;have i:=ak6 u k;by_cases c:b.k=2
 ·have f:nE u (iz u k) (jk u k) b=[]:=by unfold nE;rw[κ (λh=>h.1 c)]
  have e:l9 u (iz u k) (jk u k) b=[]:=by unfold l9;rw[κ (λh=>aa)]
  have g:mV u k b=[]:=by unfold mV;rw[κ (λh=>aa)]
  rw[f,e,g,Ο,Η,Η];unfold nF mo;rw[μ c,VX (us:=us) (u.nm,b.at_) us l.kW];by_cases a:(nC us (u.nm,b.at_) us).length=1/\¬(u.nm=gQ/\b.w=gQ)
  ·rw[μ a,μ ⟨c,a.2,a.1⟩]
  ·rw[κ a,κ (λh=>a ⟨h.2.2,h.2.1⟩)]
 ·have f:nF us u b=[]:=by unfold nF;rw[κ (λh=>c h.1)]
  rw[f,Η];unfold mo;rw[κ c];by_cases d:r9 u k=true
  ·have vN:=j.1 d;have e:nE u (iz u k) (jk u k) b=[]:=by unfold nE;rw[κ (λh=>aa)]
   rw[μ d,e,Ο,Ο];unfold l9 mV;by_cases a:3<=b.k/\iz u k=0
   ·rw[μ ⟨a.1,a.2,aa⟩,μ ⟨d,a.1,i.2 a.2⟩]
   ·rw[κ (λh=>a ⟨h.1,h.2.1⟩),κ (λh=>a ⟨h.2.1,i.1 h.2.2⟩)]
  ·have m:iz u k+jk u k=0:=by
    by_cases h:0<iz u k+jk u k
    ·exact absurd (j.2 h) d
    ·omega
   have e:l9 u (iz u k) (jk u k) b=[]:=by unfold l9;rw[κ (λh=>aa)]
   have g:mV u k b=[]:=by unfold mV;rw[κ (λh=>d h.1)]
   rw[κ d,e,g,Η,Η];unfold nE;rw[μ ⟨c,m⟩]
def ace{us}(a:gl us)(u:Un):∀r k,tR us u k r=ss us u k r
 |[],k=>rfl
 |b::r,k=>by rw[tR,ss,ace a u r (k+1),az6 a u k b]
def rfU(us:List Un)(u:Un):List Fi:=tR us u 0 u.mp.bs++qT u (e_ u.tr)
def avG{us}(a:gl us)(u):rfU us u=xy us u:=by unfold rfU xy;rw[ace a,aaL];rfl
def avH(u:Un):List.take 6 (List.drop 3 (dU u))=aB u.tr:=by rw[tc];rfl
def az7(u):eg [.str [],.str [],.vec .nil [],.i 0,.i 0,.i 0,.str [],.i 0,.vec .nil [],.vec .nil [],.vec .nil [],.vec .nil [],.i 0,.i 0] 0 (dU u)=dU u:=rfl
section
variable {us:List Un}
def acf(f:gl us):∀r pre acc o α H,us=pre++r->acc.length+20000*r.length<=900000->cY H 37 o acc.length->α 0=.vec (aD us.length) (wU us)->α 3=.vec o (acc.map dI)->α 4=.i pre.length->
  aF (aL (aT aE A8) α H) λe D H'=>e=.exit 0/\∃w,cY H' 37 w (acc++oF us r).length/\D 3=.vec w ((acc++oF us r).map dI)
 |[],pre,acc,o,α,⟨n,L⟩,c,t,hg,a0,a3,a4=>by have p:A8=.seq (.seq _ _) (.seq (.block _ (.seq _ (.seq (.seq _ (.block _ (.loop B8))) (.seq _ (.seq _ (.block _ (.loop C8))))))) _):=rfl;rw[Η] at c;have j:(wU us).length=us.length:=w8 us;have l:=dY (a:=pre.length) (b:=us.length) (by rw[c];exact aEu _);rw[aJ,p];simp only[go_sem,seval,a0,a4,j,l];rw[show oF us []=[] from rfl,Η];exact⟨aI,o,hg,by simp[go_sem,a3]⟩
 |u::r,pre,acc,o,α,⟨n,L⟩,c,t,hg,a0,a3,a4=>by
  have p:A8=.seq (.seq _ _) (.seq (.block 1 (.seq _ (.seq (.seq _ (.block 2 (.loop B8))) (.seq _ (.seq _ (.block 8 (.loop C8))))))) _):=rfl;have F:pre.length<us.length:=by rw[c];simp
  have j:(wU us).length=us.length:=w8 us;have l:=ec F;have tB:=f.fT;have v:us[pre.length]? =some u:=by rw[c];exact w7 _ _ _
  have x:=Δ v;have d:=f.kW u x;have y:=bf (n<n+1);have Q:ab.get ⟨n+1,(n,.k 91 (dU u))::L⟩ n=some (.k 91 (dU u)):=ai.2 ⟨aa,by rw[bo,μ rfl]⟩;have N:cY ⟨n+1,(n,.k 91 (dU u))::L⟩ 37 o acc.length:=(eA.push ⟨n,L⟩ (.k 91 (dU u))).grow hg;have GJ:=OH (us:=us) d;have j8:=aaJ us u u.mp.bs 0;have Ej:=d.fT;have hblk:=d.aX;have m:=d.all;simp at t;have E:us=(pre++[u])++r:=by rw[c];simp
  have J:(((pre++[u]).length:Nat):Int)=((pre.length+1:Nat):Int):=ah;rw[aJ,p,oF];simp only[go_sem,seval,a0,a4,j,l,so (aD us.length) v,y,az7];simp only[bW];refine bz (dm (ab9 (us:=us) (u:=u) (i:=pre.length) (p5:=n) f x u.mp.bs 0 acc _ _ rfl aa aa ⟨?_,⟨o,N,?_⟩,?_,?_,Q⟩ ?_)) ?_
  case refine_6=>
   rintro _ ⟨cT,⟨n1,P⟩,rfl,G⟩;obtain⟨B,⟨o1,k1,A⟩,I,s,q⟩:=G;obtain⟨z,M⟩:=ai.1 q;simp only[go_sem,seval,s,aC M,ο z,avH,<-uc,aaF (ab5 u.tr m)];try simp only[bW]
   refine bz (dm (acd (us:=us) (u:=u) (i:=pre.length) (p5:=n) d (e_ u.tr) 0 (acc++tR us u 0 u.mp.bs) _ ⟨n1,P⟩ rfl aa aa aa (by
    have:n6 (e_ u.tr)=(eT u.tr).length:=rfl
    rw[τ,this];omega) ⟨?_,⟨o1,k1,?_⟩,?_,?_,q⟩ ?_ ?_)) ?_
   case refine_7=>
    rintro _ ⟨fS,⟨n2,O⟩,rfl,C⟩;obtain⟨d0,⟨o2,k2,g⟩,K,d5,i5⟩:=C;rw[Λ] at k2 g;have h:tR us u 0 u.mp.bs++qT u (e_ u.tr)=xy us u:=avG f u;rw[h] at k2 g;have ih:=λα=>acf f r (pre++[u]) (acc++xy us u) o2 α ⟨n2,O⟩ E (by rw[τ];omega) k2;rw[Λ,J] at ih;simp only[go_sem,seval,K,(eN pre.length aa)];refine ih _ ?_ ?_ ?_;all_goals(try simp[go_sem,d0,g])
   all_goals(try simp[go_sem,B,A,I,s,uK])
   all_goals(try rfl)
  all_goals(try simp[go_sem,a0,a3,a4])
  all_goals(try rfl)
def of8(b:gl us):aK prog (run aE) 8 [fZ us]=some (.vec (aD (oL us).length) ((oL us).map dI)):=by
 refine eX (c:=.seq _ (.seq _ (.seq (.seq _ (.block 0 (.loop A8))) _))) rfl rfl func8 rfl (by rw[ntmps8];simp) (bE:=[fZ us]) (by simp[FA]) ?_ ?_ (jO (go_fi _))
 ·show((fZ us).aq&&true)=true;rw[CZ];rfl
 have tB:=b.fT;have qg:=HJ (us:=us) us b.kW;have d:uB [] (oF us us)=oL us:=ak5 _ _ (.refl _);simp[go_sem,ab.empty,fZ,jy];simp[bW];refine bz (dm (acf b us [] [] .nil _ _ rfl aP (.inl ⟨rfl,rfl⟩) ?_ ?_ ?_)) ?_
 case refine_4=>
  rintro _ ⟨ae,H',rfl,o',hg,h3⟩;rw[Ο] at hg h3;have a:=aqw (oF us us) hg.bare aa;rw[d] at a;simp only[go_sem,seval,h3,a,results8];refine⟨_,rfl,?_⟩;simp[AV.erase,AV.bare,oq]
 all_goals simp[go_sem,]
 all_goals(try rfl)
end
set_option maxRecDepth 100000
set_option maxHeartbeats 8000000
def ahY{l}{e}(h:nR l=.error e):e≠0:=by
 unfold nR qv at h;split at h
 ·cases h;decide
 ·split at h
  ·cases h
  ·rename_i a;simp at h;rw[<-h];exact a
def aqA(ko)(l:List Md)(k:l.length<=9223372036854775807):∃v,aK prog (run fc) 5 [.vec (aD ko) (l.map fK),.i 2000]=some v/\v.aq=true/\v.erase=v/\((∃a b,v=.tup [a,b,.bool false])\/∃us,nR l=.ok us/\v=.tup [fD us,fZ us,.bool true]):=by
 obtain⟨b,hb⟩:=apR ko l 2000 k;have m:=λH=>vo rfl hb H;have g:=λH=>vo rfl (abN ko l k) H;have f:=λH=>vo rfl (ave ko l k) H;have n:[AV.vec (aD ko) (l.map fK),.i 2000].map AV.erase=[.vec (aD ko) (l.map fK),.i 2000]:=by simp[AV.erase,AV.bare,oq]
 have o:AV.aq.go [AV.vec (aD ko) (l.map fK),.i 2000]=true:=by show((AV.vec (aD ko) (l.map fK)).aq&&_)=true;rw[jO (Dg l)];rfl
 have d:∀v:AV,v.aq=true->aF (aT fc (match f5.body with|some c=>c|none=>.skip) (jq [.vec (aD ko) (l.map fK),.i 2000]) .empty) (λe s H'=>∃u,pU (finish fc.P f5.results.toList (e,s,H'))=some u/\u.erase=v)->aK prog (run fc) 5 [.vec (aD ko) (l.map fK),.i 2000]=some v:=λv h t=>
  eX rfl rfl func5 rfl (by rw[ntmps5];simp) (bE:=[.vec (aD ko) (l.map fK),.i 2000]) n o t h
 have j:(match f5.body with|some c=>c|none=>Code.skip)=.seq _ (.seq (.seq _ (.cond _ _ _)) (.seq _ (.seq _ (.seq _ _)))):=rfl
 cases b with
 |false=>refine⟨.tup [.val (.pointer none),.vec .nil [],.bool false],d _ rfl ?_,rfl,rfl,.inl ⟨_,_,rfl⟩⟩;rw[j];simp only[go_sem,seval,ab.empty,m,χ,jy,results5];exact⟨_,rfl,rfl⟩
 |true=>
  cases h:nR l with
  |error e=>
   have h0:=ahY h;have r:((e:Int)==0)=false:=by rw[aEp];omega
   rw[h] at g f;simp[tj] at g;simp[FW] at f;refine⟨.tup [.val (.pointer none),.vec .nil [],.bool false],d _ rfl ?_,rfl,rfl,.inl ⟨_,_,rfl⟩⟩;rw[j];simp only[go_sem,seval,ab.empty,m,g,f,r,ω,jy,results5];exact⟨_,rfl,rfl⟩
  |ok us=>
   rw[h] at g f;simp[tj] at g;simp[FW] at f;have p:(AV.tup [fD us,fZ us,.bool true]).aq=true:=by show((fD us).aq&&((fZ us).aq&&true))=true;rw[yR,CZ];rfl
   have q:(AV.tup [fD us,fZ us,.bool true]).erase=.tup [fD us,fZ us,.bool true]:=by simp[AV.erase,fD,fZ,AV.bare,oq]
   refine⟨.tup [fD us,fZ us,.bool true],d _ p ?_,p,q,.inr ⟨us,rfl,rfl⟩⟩;rw[j];simp only[go_sem,seval,ab.empty,m,g,f,ω,jy,results5];exact⟨_,rfl,q⟩
end Go.Proofs.YtmehamiifalmaaaGreatDoor
