/- LintCalls: part 22 of its proof. -/
import Derived.Test.YtmehamiifalmaaaGreatDoorG20
set_option linter.all false
namespace Go.Ab
open Go
def Ej{T:Type}{P}{t et}{s b}{c:T->List AV}{g:T->AV}{ag}{m}(f:GT P t et s b c g ag)(hm:m t=true){H H':ab}{v q}{l}{o}{x:T}(h:ej H et s c g v l)(d:cj m P t t v (.vec o [g x]) H=some (q,H')):
  (∃k n,q=.sl H.next k 0 n)/\∀i y,(∀a b c,v≠.sl i a b c)->H.get i=some y->H'.get i=some y:=by
 obtain⟨z,F,C⟩:=f.app.zero;have u:s≠0/\z.length=s:=⟨f.app.s0,C⟩;have B:jt m t v (.vec o [g x])=none:=by rcases h with⟨_,rfl⟩|⟨x,_,rfl⟩|⟨_,id,rfl,_⟩<;>simp[jt,hm]
 have A:pU P H s (.vec o [g x])=some (1,c x):=by have:=ZC f H o [x];simpa using this
 have E:cj m P t t v (.vec o [g x]) H=pM et s b v 1 (c x) H:=by simp only[cj,f.app.el,f.app.sz,f.app.fq,F];rw[ν ⟨trivial,u⟩,B];simp[we,A]
 rw[E] at d;have j:∀(p:bH) i y,H.get i=some y->(H.push p).get i=some y:=λp i y hi=>by rw[ab.dT,κ (by have:=ab.eg hi;omega)];exact hi
 rcases h with⟨rfl,rfl⟩|⟨x',rfl,rfl⟩|⟨h1,id,rfl,D⟩
 ·simp only[pM] at d;rw[κ aA] at d;split at d
  ·cases d;exact⟨⟨_,_,rfl⟩,λi y _ hi=>j _ i y hi⟩
  ·cases d
 ·simp only[pM] at d;rw[κ aA] at d;split at d
  ·cases d;exact⟨⟨_,_,rfl⟩,λi y _ hi=>j _ i y hi⟩
  ·cases d
 ·simp only[pM,D] at d;rw[κ aA] at d;split at d
  ·cases d;refine⟨⟨_,_,rfl⟩,λi y w hi=> ?_⟩;have r:id≠i:=by rintro rfl;exact w _ _ _ rfl
   have:=ab.eg hi;rw[ab.dT,κ (λe=>by have e':H.next=i:=e;omega),ab.tz,κ r];exact hi
  ·cases d
end Go.Ab
namespace Go.Proofs.YtmehamiifalmaaaGreatDoor
open Go Go.Ab Go.Proofs.Tryz
set_option maxRecDepth 100000
set_option maxHeartbeats 8000000
def uD(us:List Un)(u:Un)(v:AV):List AV:=.rptr [.vec (au us.length) (vU us)]::(cU u++[v])
def aBt(us:List Un)(u:Un)(v):(uD us u v)[0]? =some (.rptr [.vec (au us.length) (vU us)]):=rfl
def aBu(us)(u:Un)(v):(uD us u v)[1]? =some (.str u.nm):=rfl
def aBv(us)(u:Un)(v):(uD us u v)[3]? =some (.vec (au u.tk.length) (V u.tk)):=rfl
def ax6(us)(u:Un)(v):(uD us u v)[10]? =some (.vec (au u.mp.bs.length) (u.mp.bs.map a_)):=rfl
def ax7(us)(u:Un)(v):(uD us u v)[11]? =some (.vec (au u.mp.ms.length) (u.mp.ms.map cv)):=rfl
def ax8(us)(u:Un)(v):(uD us u v)[15]? =some v:=rfl
def auB(us)(u:Un)(v):(uD us u v).length=16:=rfl
def ax9(us)(u:Un)(v w):eD (uD us u v) 15 [w]=uD us u w:=rfl
def aya(us)(u:Un)(v):List.take 3 (List.drop 10 (uD us u v))=[.vec (au u.mp.bs.length) (u.mp.bs.map a_),.vec (au u.mp.ms.length) (u.mp.ms.map cv),.vec (au u.b1.length) (cw u.b1)]:=rfl
attribute [go_sem] aBt aBu aBv ax6 ax7 ax8 auB ax9 aya
def R'(H:ab)(pf:Nat)(us:List Un)(u:Un)(acc:List Fi):Prop:=∃te v,H.get pf=some (.c te (uD us u v))/\ej H 35 3 fiC fiA v acc/\∀id a b c,v=.sl id a b c->pf<id
def Kx(pf:Nat)(H H':ab):Prop:=(H.next<=H'.next/\∀i x,i<pf->H.get i=some x->H'.get i=some x)/\∀i te cs,i≠pf->H.get i=some (.c te cs)->H'.get i=some (.c te cs)
def Kx.refl(pf)(H):Kx pf H H:=⟨⟨μ _,λ_ _ _ h=>h⟩,λ_ _ _ _ h=>h⟩
def Kx.trans{pf}{H b c}(h:Kx pf H b)(g:Kx pf b c):Kx pf H c:=⟨⟨aDj h.1.1 g.1.1,λi x hi a=>g.1.2 i x hi (h.1.2 i x hi a)⟩,λi te cs hi a=>g.2 i te cs hi (h.2 i te cs hi a)⟩
def Kx.all{pf}{H H'}(h:eS H H'):Kx pf H H':=⟨⟨h.1,λi x _ a=>h.2 _ _ a⟩,λi te cs _ a=>h.2 _ _ a⟩
def R'.all{H H'}{pf}{us}{u}{acc}(h:R' H pf us u acc)(k:eS H H'):R' H' pf us u acc:=by obtain⟨te,v,a,b,c⟩:=h;exact⟨te,v,k.2 _ _ a,b.bU λi n cs hi=>k.2 _ _ hi,c⟩
end Go.Proofs.YtmehamiifalmaaaGreatDoor
namespace Go.Ab
open Go
end Go.Ab
namespace Go.Proofs.YtmehamiifalmaaaGreatDoor
open Go Go.Ab Go.Proofs.Tryz
set_option maxRecDepth 100000
set_option maxHeartbeats 8000000
noncomputable def LB:=f21.c.r.b.b
section
variable {us:List Un} {u:Un} {pf p3 i:Nat} {b:Bi} {acc:List Fi}
end
set_option maxRecDepth 100000
set_option maxHeartbeats 16000000
section
variable {us:List Un} {u:Un} {pf p3 i:Nat} {b:Bi} {acc:List Fi}
end
set_option maxRecDepth 100000
set_option maxHeartbeats 8000000
section
variable {us:List Un} {u:Un} {pf:Nat}
end
set_option maxRecDepth 100000
set_option maxHeartbeats 8000000
section
variable {us:List Un} {u:Un} {pf:Nat}
end
set_option maxRecDepth 100000
set_option maxHeartbeats 8000000
section
variable {us:List Un}
end
set_option maxRecDepth 100000
set_option maxHeartbeats 8000000
def Jv:List FuncId:=[8,25,26,55]
def Ie:List FuncId:=[8,24,25,26,55]
noncomputable def aQ:Env:={P:=prog,G:=λf=>Jv.contains f,cl:=λf=>Ie.contains f,eX:=λ_=>false,dyn:=λi=>i==36||i==41,df:=λ_=>false,ext:=bf lj [24]}
def EJ(x y):oX x y=true↔bl x.1 y.1=true\/(x.1=y.1/\(x.2.1<y.2.1\/(x.2.1=y.2.1/\x.2.2<y.2.2))):=by simp[oX,R8]
def agd(x):oX x x=false:=by
 cases h:oX x x with
 |false=>rfl
 |true=>
  rw[EJ] at h;rcases h with h|⟨_,h⟩
  ·rw[uN] at h;cases h
  ·omega
def Wn{x y z}(h:oX x y=true)(k:oX y z=true):oX x z=true:=by
 rw[EJ] at*
 rcases h with h|⟨h1,h2⟩<;>rcases k with k|⟨k1,k2⟩
 ·exact .inl (zR h k)
 ·grind
 ·grind
 ·grind
def ZQ{x y}(h:oX x y=false)(k:oX y x=false):x=y:=by
 have a:¬_:=λe=>by rw[(EJ x y).2 e] at h;cases h
 have c:¬_:=λe=>by rw[(EJ y x).2 e] at k;cases k
 simp at a c;have e:=EU a.1 c.1;have d:=a.2 e;have k2:=c.2 e.symm;have b:x.2.1=y.2.1:=aa;have f:x.2.2=y.2.2:=by have:=d.2 b;have:=k2.2 b.symm;omega
 exact aFM e (aFM b f)
def auC{x y z}(h:oX x y=false)(k:oX y z=false):oX x z=false:=by
 cases c:oX x z with
 |false=>rfl
 |true=>
  cases d:oX y x with
  |true=>rw[Wn d c] at k;cases k
  |false=>have:=ZQ h d;subst this;rw[c] at k;cases k
section
variable {u:Un}
end
section
variable {us:List Un} {u:Un} {i k p5 p7 rd wr:Nat} {b:Bi} {acc:List Fi}
end
set_option maxRecDepth 100000
set_option maxHeartbeats 8000000
def Kt.grow{et}{H:ab}{y}{o}{n}(g:bY H et o n):bY (H.push y) et o n:=eS.grow (eS.push H y) g
section
variable {us:List Un} {u:Un} {i p5:Nat}
end
set_option maxRecDepth 100000
set_option maxHeartbeats 8000000
section
variable {us:List Un} {u:Un} {i p5 m:Nat} {x:Nd} {acc:List Fi}
end
set_option maxRecDepth 100000
set_option maxHeartbeats 8000000
def n6(l:List Nd):Nat:=(l.filter λx=>decide (x.k=6)).length
section
variable {us:List Un} {u:Un} {i p5:Nat}
end
set_option maxRecDepth 100000
set_option maxHeartbeats 8000000
section
variable {us:List Un}
end
set_option maxRecDepth 100000
set_option maxHeartbeats 8000000
def ahj{l}{e}(h:mP l=.error e):e≠0:=by
 unfold mP pH at h;split at h
 ·cases h;decide
 ·split at h
  ·cases h
  ·rename_i a;simp at h;rw[<-h];exact a
def apb(ko)(l:List Md)(j:l.length<=9223372036854775807):∃v,aI prog (run gF) 5 [.vec (au ko) (l.map fN),.i 2000]=some v/\v.aq=true/\v.erase=v/\((∃a b,v=.tup [a,b,.bool false])\/∃us,mP l=.ok us/\v=.tup [dD us,fu us,.bool true]):=by
 obtain⟨b,hb⟩:=aoY ko l 2000 j;have k:=λH=>xQ rfl hb H;have f:=λH=>xQ rfl (aba ko l j) H;have g:=λH=>xQ rfl (aui ko l j) H;have n:[AV.vec (au ko) (l.map fN),.i 2000].map AV.erase=[.vec (au ko) (l.map fN),.i 2000]:=by simp[AV.erase,AV.bare,kF]
 have o:AV.aq.go [AV.vec (au ko) (l.map fN),.i 2000]=true:=by show((AV.vec (au ko) (l.map fN)).aq&&_)=true;rw[iE (CO l)];rfl
 have d:∀v:AV,v.aq=true->aD (aO gF (match f5.body with|some c=>c|none=>.skip) (jy [.vec (au ko) (l.map fN),.i 2000]) .empty) (λe t H'=>∃u,pQ (finish gF.P f5.results.toList (e,t,H'))=some u/\u.erase=v)->aI prog (run gF) 5 [.vec (au ko) (l.map fN),.i 2000]=some v:=λv h s=>
  fk rfl rfl func5 rfl (by rw[ntmps5];simp) (bW:=[.vec (au ko) (l.map fN),.i 2000]) n o s h
 have m:(match f5.body with|some c=>c|none=>Code.skip)=.seq _ (.seq (.seq _ (.cond _ _ _)) (.seq _ (.seq _ (.seq _ _)))):=rfl
 cases b with
 |false=>refine⟨.tup [.val (.pointer none),.vec .nil [],.bool false],d _ rfl ?_,rfl,rfl,.inl ⟨_,_,rfl⟩⟩;rw[m];simp only[go_sem,seval,ab.empty,k,Α,kZ,results5];exact⟨_,rfl,rfl⟩
 |true=>
  cases h:mP l with
  |error e=>
   have h0:=ahj h;have r:((e:Int)==0)=false:=by rw[aDL];omega
   rw[h] at f g;simp[sL] at f;simp[Fs] at g;refine⟨.tup [.val (.pointer none),.vec .nil [],.bool false],d _ rfl ?_,rfl,rfl,.inl ⟨_,_,rfl⟩⟩;rw[m];simp only[go_sem,seval,ab.empty,k,f,g,r,ω,kZ,results5];exact⟨_,rfl,rfl⟩
  |ok us=>
   rw[h] at f g;simp[sL] at f;simp[Fs] at g;have p:(AV.tup [dD us,fu us,.bool true]).aq=true:=by show((dD us).aq&&((fu us).aq&&true))=true;rw[tM,Cy];rfl
   have q:(AV.tup [dD us,fu us,.bool true]).erase=.tup [dD us,fu us,.bool true]:=by simp[AV.erase,dD,fu,AV.bare,kF]
   refine⟨.tup [dD us,fu us,.bool true],d _ p ?_,p,q,.inr ⟨us,rfl,rfl⟩⟩;rw[m];simp only[go_sem,seval,ab.empty,k,f,g,ω,kZ,results5];exact⟨_,rfl,q⟩
end Go.Proofs.YtmehamiifalmaaaGreatDoor
