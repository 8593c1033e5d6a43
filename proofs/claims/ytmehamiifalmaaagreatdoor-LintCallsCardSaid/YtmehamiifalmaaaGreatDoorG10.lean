/- LintCalls: part 11 of its proof. -/
import Derived.Test.YtmehamiifalmaaaGreatDoorG9
set_option linter.all false
namespace Go.Proofs.YtmehamiifalmaaaGreatDoor
open Go Go.Ab Go.Proofs.Tryz
set_option maxRecDepth 100000
structure j8(l:List Tok)(te:Option TypeId)(H0:ab)(o:Ab.Own)(ks:List Nd)(e:Option Nat)(H:ab):Prop where
 p:H.get 0=some (.c te (rc l e))
 g:bY H 71 o ks.length
 k:H0.next<=H.next/\∀j t cs,j≠0->H0.get j=some (.c t cs)->H.get j=some (.c t cs)
def j8.up{l}{te}{H0 H b:ab}{o}{ks}{e d}(h:j8 l te H0 o ks e H)(u:Up H 0 (.c te (rc l d)) b):j8 l te H0 o ks d b:=
 ⟨u.2.1,h.g.bU λj m a=>u.2.2 j _ (by rintro rfl;rw[h.p] at a;cases a) a,aDj h.k.1 u.1,λj t cs a f=>u.2.2 j _ a (h.k.2 j t cs a f)⟩
def j8.push{l}{te}{H0 H:ab}{o}{ks}{e}(h:j8 l te H0 o ks e H)(x):j8 l te H0 o ks e (H.push x):=by
 have b:∀{j y},H.get j=some y->(H.push x).get j=some y:=λ{j y} a=>by rw[ab.dT,κ (by have:=ab.eg a;omega)];exact a
 exact⟨b h.p,h.g.bU λj m a=>b a,aDj h.k.1 (awF _),λj t cs a c=>b (h.k.2 j t cs a c)⟩
def j8.app{l}{te}{H0 H b}{o o1}{ks a:List Nd}{e}(h:j8 l te H0 o ks e H)(k:yA H b)(g:bY b 71 o1 a.length):j8 l te H0 o1 a e b:=
 ⟨k.2 _ _ _ h.p,g,aDj h.k.1 k.1,λj t cs c d=>k.2 j _ _ (h.k.2 j t cs c d)⟩
def kK{l}{te}{H0}{o}{ks:List Nd}{e}{M}{LL}(h:j8 l te H0 o ks e ⟨M,LL⟩)(hn:ks.length<=1000000)(X:Nd):∃j b a,cj (λ_=>false) prog 69 69 (.vec o (bA ks)) (.vec .full [aB X]) ⟨M,LL⟩=some (.vec (.own j) (bA (ks++[X])),⟨b,a⟩)/\j8 l te H0 (.own j) (ks++[X]) e ⟨b,a⟩/\((0<b)=True)/\e_ a 0=some (rc l e)/\cq a 0=some (.c te (rc l e)):=by obtain⟨j,⟨b,a⟩,i,p2,p3,_⟩:=BP tC (m:=λ_=>false) rfl (o:=o) (o2:=.full) (es:=bA ks) (xs:=[aB X]) (H:=⟨M,LL⟩) (by rw[cz];exact h.g) (qv ks) (cB.one X) ai (by rw[cz];simp;omega) (by rw[cz];simp;omega);have d:j8 l te H0 (.own j) (ks++[X]) e ⟨b,a⟩:=j8.app h p3 (by simpa[cz] using p2);obtain⟨k,f⟩:=aj.1 d.p;rw[show bA ks++[aB X]=bA (ks++[X]) by rw[tu];rfl] at i;exact⟨j,b,a,i,d,υ k,aF f,f⟩
def FC(l:List Tok)(c:List UInt8)(ks:List Nd)(r:Nd×RS)(b:Bool)(t:List Nd×RS):Prop:=(∃x,r.2.bad=some x/\b=false/\t=(ks++[r.1],r.2))\/(r.2.bad=none/\cP l r.2.at_ c=some true/\b=false/\t=(ks++[r.1],r.2))\/(r.2.bad=none/\cP l r.2.at_ c=some false/\∃a,bX l [44] r.2=some a/\b=true/\t=(ks++[r.1],a))
structure KI(l:List Tok)(te:Option TypeId)(H0:ab)(A K C D:Nat)(v w:AV)(n:Nat)(p:List Nd×RS)(α:az)(H:ab):Prop where
 z:α 0=.ptr 0 0
 a:α A=.i p.2.at_
 c:α C=v
 d:α D=w
 k:∃o,α K=.vec o (bA p.1)/\j8 l te H0 o p.1 p.2.bad H
 n:p.1.length+n<=1000000
def wN(l:List Tok)(one:RS->RR)(e:List UInt8)(first:Nat)(p:List Nd×RS):Option (Bool×(List Nd×RS)):=
 if p.2.bad.isNone then bn (if p.1.length=first then cP l p.2.at_ e else some false) λb=>if b then some (false,p) else bn (one p.2) λr=>bn (if r.2.bad.isNone then cP l r.2.at_ e else some true) λb=>if b then some (false,(p.1++[r.1],r.2)) else bn (bX l [44] r.2) λa=>some (true,(p.1++[r.1],a)) else some (false,p)
def BH{l:List Tok}{one:RS->RR}{e:List UInt8}{first:Nat}:∀n ks s,jw l one e first n ks s=iter (wN l one e first) n (ks,s)
 |0,ks,s=>rfl
 |n+1,ks,s=>by
  rw[jw,iter,wN];simp only;split
  ·cases(if ks.length=first then cP l s.at_ e else some false) with
   |none=>rfl
   |some b=>
    simp only[fx]
    cases b with
    |true=>rfl
    |false=>
     simp only[τ,aDf]
     cases one s with
     |none=>rfl
     |some r=>
      simp only[fx]
      cases(if r.2.bad.isNone then cP l r.2.at_ e else some true) with
      |none=>rfl
      |some b=>
       simp[fx]
       cases b with
       |true=>rfl
       |false=>
        simp
        cases bX l [44] r.2 with
        |none=>rfl
        |some s2=>exact BH n _ _
  ·rfl
def D0{l}{one}{e}{first}{ks:List Nd}{a:Nat}{z:Option Nat}{b:Bool}{t:List Nd×RS}(h:wN l one e first (ks,⟨a,z⟩)=some (b,t)):
  (∃x,z=some x/\b=false/\t=(ks,⟨a,z⟩))\/(z=none/\ks.length=first/\cP l a e=some true/\b=false/\t=(ks,⟨a,none⟩))\/
  (z=none/\(ks.length=first->cP l a e=some false)/\∃r,one ⟨a,none⟩=some r/\
   ((∃x,r.2.bad=some x/\b=false/\t=(ks++[r.1],r.2))\/(r.2.bad=none/\cP l r.2.at_ e=some true/\b=false/\t=(ks++[r.1],r.2))\/(r.2.bad=none/\cP l r.2.at_ e=some false/\∃g,bX l [44] r.2=some g/\b=true/\t=(ks++[r.1],g)))):=by
 unfold wN at h
 cases z with
 |some x=>simp only[awU,τ,aDf,Ζ,aDS] at h;exact .inl ⟨x,rfl,h.1.symm,h.2.symm⟩
 |none=>
  simp at h;obtain⟨i,d,h⟩:=al h
  cases i with
  |true=>
   simp only[aDp,Ζ,aDS] at h;by_cases c:ks.length=first
   ·rw[ν c] at d;exact .inr (.inl ⟨rfl,c,d,h.1.symm,h.2.symm⟩)
   ·rw[κ c] at d;cases d
  |false=>
   simp at h;obtain⟨r,j,h⟩:=al h;refine .inr (.inr ⟨rfl,λc=>by rwa [ν c] at d,r,j,?_⟩);obtain⟨b1,f,h⟩:=al h
   cases hz:r.2.bad with
   |some x=>simp[hz] at f;subst f;simp only[aDp,Ζ,aDS] at h;exact .inl ⟨x,rfl,h.1.symm,h.2.symm⟩
   |none=>
    simp[hz] at f
    cases b1 with
    |true=>simp only[aDp,Ζ,aDS] at h;exact .inr (.inl ⟨rfl,f,h.1.symm,h.2.symm⟩)
    |false=>simp at h;obtain⟨g,k,h⟩:=al h;simp only[Ζ,aDS] at h;exact .inr (.inr ⟨rfl,f,g,k,h.1.symm,h.2.symm⟩)
def eF{l}{e}{te}{L}{e'}(h:cq L 0=some (.c te (rc l e))):cq (aH L 0 (.c te (rc l e'))) 0=some (.c te (rc l e')):=by rw[bg,ν rfl,h];rfl
section
variable {l:List Tok}
noncomputable def EA:=f247.c.r.r.r.l.b.b
noncomputable def Of:=EA.r
def US(E:l.length<=4000){te}{H0}{v w}{ty}(ih:dG l 248 ty){ks}{a n}{b}{t}{α}{H}(hI:KI l te H0 6 7 1 4 v w (n+1) (ks,⟨a,none⟩) α H){r}(Y:(λs=>bn (iF l (.mk 5 s.at_ 0 [] 0 []) s) λx=>bn (ty x.2) λt=>some (ended x.1 t.2.at_ [t.1],t.2):RS->RR) ⟨a,none⟩=some r)
  (hb:FC l [41] ks r b t):
  aD (aO ak Of α H) λy ae H'=>y=(if b then .normal else .exit 0)/\KI l te H0 6 7 1 4 v w n t ae H':=by
 obtain⟨m,L⟩:=H;obtain⟨q,I,U,J,⟨o,F,g⟩,hn⟩:=hI;simp only at I F g hn;obtain⟨eA,f⟩:=aj.1 g.p;have R:=υ eA;have k1:=kY rfl rfl ih;have S:=aY (0<m+1);have T:=aY (m<m+1);have O:=aY (m<m+1+1);have Q:=aY (m+1<m+1+1);have N:=dw (m=0);have K:=dw (m+1=m);have hQ:Of=.block _ (.seq _ _):=rfl;rw[hQ];obtain⟨x,d,Y⟩:=al Y;rw[Ez] at d;obtain⟨⟨o1,s0⟩,P,d⟩:=al d;cases d;obtain⟨⟨y,s⟩,G,Y⟩:=al Y;simp only at G;cases Y
 cases o1 with
 |none=>
  simp only[eY] at hb;rcases hb with⟨x,d,rfl,rfl⟩|⟨d,C,rfl,rfl⟩|⟨d,C,X,W,rfl,rfl⟩
  ·try simp only at d
   obtain⟨j,V,Z,A,h,u,B,D⟩:=kK (M:=m+1+1) (LL:=(m+1,.k 71 (aC y))::(m,.k 71 [.i 5,.i a,.i 0,.str [],.i 0,.vec .nil []])::aH L 0 (.c te (rc l (some x)))) (((g.up (Up.set g.p)).push _).push _) aa (.mk 5 a s.at_ [] 0 [y]);have en:AV.agg [.i 5,.i a,.i s.at_,.str [],.i 0,.vec .ro [aB y]]=aB (.mk 5 a s.at_ [] 0 [y]):=rfl;have z:=eF (e':=s0.bad) f;have gs:=eF (e':=(some x)) f;simp[go_sem,q,I,F,R,f,S,T,O,Q,N,K,iT E,k1,aV,P,dI,dH,gh,eQ,en,G,z,aZ,cQ,A,u,B,d,aDg];refine⟨rfl,?_,?_,?_,?_,⟨.own j,?_,by simp[d];exact h⟩,aX⟩;all_goals simp[go_sem,q,U,J]
   all_goals rfl
  ·try simp only at d C
   obtain⟨j,V,Z,A,h,u,B,D⟩:=kK (M:=m+1+1) (LL:=(m+1,.k 71 (aC y))::(m,.k 71 [.i 5,.i a,.i 0,.str [],.i 0,.vec .nil []])::aH L 0 (.c te (rc l none))) (((g.up (Up.set g.p)).push _).push _) aa (.mk 5 a s.at_ [] 0 [y]);have en:AV.agg [.i 5,.i a,.i s.at_,.str [],.i 0,.vec .ro [aB y]]=aB (.mk 5 a s.at_ [] 0 [y]):=rfl;have z:=eF (e':=s0.bad) f;have gs:=eF (e':=none) f;simp[go_sem,q,I,F,R,f,S,T,O,Q,N,K,iT E,k1,aV,P,dI,dH,gh,eQ,en,G,z,aZ,cQ,A,u,B,D,d,Ε,cO (l:=l),C];refine⟨rfl,?_,?_,?_,?_,⟨.own j,?_,by simp[d];exact h⟩,aX⟩;all_goals simp[go_sem,q,U,J]
   all_goals rfl
  ·try simp only at d C W
   obtain⟨j,V,Z,A,h,u,B,D⟩:=kK (M:=m+1+1) (LL:=(m+1,.k 71 (aC y))::(m,.k 71 [.i 5,.i a,.i 0,.str [],.i 0,.vec .nil []])::aH L 0 (.c te (rc l none))) (((g.up (Up.set g.p)).push _).push _) aa (.mk 5 a s.at_ [] 0 [y]);have en:AV.agg [.i 5,.i a,.i s.at_,.str [],.i 0,.vec .ro [aB y]]=aB (.mk 5 a s.at_ [] 0 [y]):=rfl;have z:=eF (e':=s0.bad) f;have gs:=eF (e':=none) f;have qL:=h.up (Up.set (x:=.c te (rc l X.bad)) h.p);have gV:bX l [44] ⟨s.at_,none⟩=some X:=by rw[<-W,<-d]
   simp only[go_sem,seval,q,I,F,R,f,S,T,O,Q,N,K,iT E,k1,aV,P,dI,dH,gh,eQ,en,G,z,aZ,cQ,A,u,B,D,d,Ε,cO (l:=l),C,gC E,gV];refine⟨aK,?_,?_,?_,?_,⟨.own j,?_,qL⟩,aX⟩;all_goals simp[go_sem,q,U,J]
   all_goals rfl
 |some e=>
  simp only[eY] at hb;rcases hb with⟨x,d,rfl,rfl⟩|⟨d,C,rfl,rfl⟩|⟨d,C,X,W,rfl,rfl⟩
  ·try simp only at d
   obtain⟨j,V,Z,A,h,u,B,D⟩:=kK (M:=m+1+1) (LL:=(m+1,.k 71 (aC y))::(m,.k 71 [.i 5,.i a,.i 0,.str e.1,.i e.2,.vec .nil []])::aH L 0 (.c te (rc l (some x)))) (((g.up (Up.set g.p)).push _).push _) aa (.mk 5 a s.at_ e.1 e.2 [y]);have en:AV.agg [.i 5,.i a,.i s.at_,.str e.1,.i e.2,.vec .ro [aB y]]=aB (.mk 5 a s.at_ e.1 e.2 [y]):=rfl;have z:=eF (e':=s0.bad) f;have gs:=eF (e':=(some x)) f;simp[go_sem,q,I,F,R,f,S,T,O,Q,N,K,iT E,k1,aV,P,dI,dH,gh,eQ,en,G,z,aZ,cQ,A,u,B,d,aDg];refine⟨rfl,?_,?_,?_,?_,⟨.own j,?_,by simp[d];exact h⟩,aX⟩;all_goals simp[go_sem,q,U,J]
   all_goals rfl
  ·try simp only at d C
   obtain⟨j,V,Z,A,h,u,B,D⟩:=kK (M:=m+1+1) (LL:=(m+1,.k 71 (aC y))::(m,.k 71 [.i 5,.i a,.i 0,.str e.1,.i e.2,.vec .nil []])::aH L 0 (.c te (rc l none))) (((g.up (Up.set g.p)).push _).push _) aa (.mk 5 a s.at_ e.1 e.2 [y]);have en:AV.agg [.i 5,.i a,.i s.at_,.str e.1,.i e.2,.vec .ro [aB y]]=aB (.mk 5 a s.at_ e.1 e.2 [y]):=rfl;have z:=eF (e':=s0.bad) f;have gs:=eF (e':=none) f;simp[go_sem,q,I,F,R,f,S,T,O,Q,N,K,iT E,k1,aV,P,dI,dH,gh,eQ,en,G,z,aZ,cQ,A,u,B,D,d,Ε,cO (l:=l),C];refine⟨rfl,?_,?_,?_,?_,⟨.own j,?_,by simp[d];exact h⟩,aX⟩;all_goals simp[go_sem,q,U,J]
   all_goals rfl
  ·try simp only at d C W
   obtain⟨j,V,Z,A,h,u,B,D⟩:=kK (M:=m+1+1) (LL:=(m+1,.k 71 (aC y))::(m,.k 71 [.i 5,.i a,.i 0,.str e.1,.i e.2,.vec .nil []])::aH L 0 (.c te (rc l none))) (((g.up (Up.set g.p)).push _).push _) aa (.mk 5 a s.at_ e.1 e.2 [y]);have en:AV.agg [.i 5,.i a,.i s.at_,.str e.1,.i e.2,.vec .ro [aB y]]=aB (.mk 5 a s.at_ e.1 e.2 [y]):=rfl;have z:=eF (e':=s0.bad) f;have gs:=eF (e':=none) f;have qL:=h.up (Up.set (x:=.c te (rc l X.bad)) h.p);have gV:bX l [44] ⟨s.at_,none⟩=some X:=by rw[<-W,<-d]
   simp only[go_sem,seval,q,I,F,R,f,S,T,O,Q,N,K,iT E,k1,aV,P,dI,dH,gh,eQ,en,G,z,aZ,cQ,A,u,B,D,d,Ε,cO (l:=l),C,gC E,gV];refine⟨aK,?_,?_,?_,?_,⟨.own j,?_,qL⟩,aX⟩;all_goals simp[go_sem,q,U,J]
   all_goals rfl
def afd(F:l.length<=4000){te}{H0}{v w}{ty}(ih:dG l 248 ty)(n)(p)(b:Bool)(t:List Nd×RS)(α:az)(H:ab)(M:wN l (λs=>bn (iF l (.mk 5 s.at_ 0 [] 0 []) s) λx=>bn (ty x.2) λt=>some (ended x.1 t.2.at_ [t.1],t.2)) [41] 0 p=some (b,t))(K:KI l te H0 6 7 1 4 v w (n+1) p α H):
  aD (aO ak EA α H) λy J H'=>y=(if b then .normal else .exit 0)/\KI l te H0 6 7 1 4 v w n t J H':=by
 obtain⟨ks,⟨a,z⟩⟩:=p;obtain⟨m,L⟩:=H;obtain⟨c,e,k,h,⟨o,d,f⟩,B⟩:=K;simp only at e d f B;obtain⟨I,q⟩:=aj.1 f.p;have j:=aF q;have i:=υ I;have u:(((ks.length:Nat):Int)==0)=decide (ks.length=0):=ez ks.length 0;have N:EA=.seq (.seq _ _) Of:=rfl;rw[N];rcases D0 M with⟨x,rfl,rfl,rfl⟩|⟨rfl,A,C,rfl,rfl⟩|⟨rfl,A,r,G,E⟩
 ·simp only[go_sem,seval,c,j,i,awU];refine⟨aK,?_,?_,?_,?_,⟨o,?_,f⟩,by simp only;omega⟩;all_goals simp[go_sem,c,e,d,k,h]
 ·have g:decide (ks.length=0)=true:=π A;simp only[go_sem,seval,c,e,d,j,i,q,ψ,cz,u,g,cO (l:=l),aV,C,ω];refine⟨aK,?_,?_,?_,?_,⟨o,?_,f⟩,by simp only;omega⟩;all_goals simp[go_sem,c,e,d,k,h]
 ·by_cases D:ks.length=0
  ·have g:decide (ks.length=0)=true:=π D;have C:=A D;simp only[go_sem,seval,c,e,d,j,i,q,ψ,cz,u,g,cO (l:=l),aV,C,Α];refine US F ih (n:=n) ⟨?_,?_,?_,?_,⟨o,?_,f⟩,B⟩ G E;all_goals simp[go_sem,c,e,d,k,h]
  ·have g:decide (ks.length=0)=false:=ξ D;simp only[go_sem,seval,c,d,j,i,ψ,cz,u,g,Α];refine US F ih (n:=n) ⟨?_,?_,?_,?_,⟨o,?_,f⟩,B⟩ G E;all_goals simp[go_sem,c,e,d,k,h]
def afe(d:l.length<=4000){te}{H0}{v w}{ty}(ih:dG l 248 ty){n}{ks:List Nd}{s:RS}{r:List Nd×RS}{α:az}{H:ab}(a:jw l (λs=>bn (iF l (.mk 5 s.at_ 0 [] 0 []) s) λx=>bn (ty x.2) λt=>some (ended x.1 t.2.at_ [t.1],t.2)) [41] 0 n ks s=some r)(c:KI l te H0 6 7 1 4 v w n (ks,s) α H):
  aD (aJ (aO ak EA) α H) λy e H'=>y=.exit 0/\∃m,KI l te H0 6 7 1 4 v w m r e H':=by
 rw[BH] at a;exact zK (Inv:=λn p α H=>KI l te H0 6 7 1 4 v w n p α H) (λn p b t α H f hi=>afd d ih n p b t α H f hi) n (ks,s) r α H a c
noncomputable def FD:=f262.c.r.r.r.r.r.r.l.r.t.r.l.b.b
noncomputable def RF:=FD.r
def Xf(u:l.length<=4000){te}{H0}{v w}{ty}(ih:dG l 262 ty){ks}{a n}{b}{t}{α}{H}(hI:KI l te H0 6 9 1 4 v w (n+1) (ks,⟨a,none⟩) α H){r}(N:(λs=>bn (iF l (.mk 33 s.at_ 0 [] 0 []) s) λx=>bn (bX l [58] x.2) λG=>bn (ty G) λt=>some (ended x.1 t.2.at_ [t.1],t.2):RS->RR) ⟨a,none⟩=some r)
  (hb:FC l [125] ks r b t):
  aD (aO ak RF α H) λy ae H'=>y=(if b then .normal else .exit 2)/\KI l te H0 6 9 1 4 v w n t ae H':=by
 obtain⟨m,L⟩:=H;obtain⟨q,O,Y,P,⟨o,J,g⟩,hn⟩:=hI;simp only at O J g hn;obtain⟨eA,e⟩:=aj.1 g.p;have V:=υ eA;have k1:=kY rfl rfl ih;have W:=aY (0<m+1);have X:=aY (m<m+1);have S:=aY (m<m+1+1);have U:=aY (m+1<m+1+1);have R:=dw (m=0);have Q:=dw (m+1=m);have hQ:RF=.block _ (.seq _ _):=rfl;rw[hQ];obtain⟨x,d,N⟩:=al N;rw[Ez] at d;obtain⟨⟨o1,s0⟩,T,d⟩:=al d;cases d;obtain⟨G,I,N⟩:=al N;obtain⟨⟨y,s⟩,K,N⟩:=al N;simp only at I K;cases N
 cases o1 with
 |none=>
  simp only[eY] at hb;rcases hb with⟨x,d,rfl,rfl⟩|⟨d,E,rfl,rfl⟩|⟨d,E,s2,bG,rfl,rfl⟩
  ·try simp only at d
   obtain⟨j,Z,L2,B,h,z,C,F⟩:=kK (M:=m+1+1) (LL:=(m+1,.k 71 (aC y))::(m,.k 71 [.i 33,.i a,.i 0,.str [],.i 0,.vec .nil []])::aH L 0 (.c te (rc l (some x)))) (((g.up (Up.set g.p)).push _).push _) aa (.mk 33 a s.at_ [] 0 [y]);have en:AV.agg [.i 33,.i a,.i s.at_,.str [],.i 0,.vec .ro [aB y]]=aB (.mk 33 a s.at_ [] 0 [y]):=rfl;have A:=eF (e':=s0.bad) e;have D:=eF (e':=G.bad) e;have gs:=eF (e':=(some x)) e;simp[go_sem,q,O,J,V,e,W,X,S,U,R,Q,iT u,k1,aV,T,dI,dH,gh,eQ,en,gC u,I,D,K,A,aZ,cQ,B,z,C,d,aDg];refine⟨rfl,?_,?_,?_,?_,⟨.own j,?_,by simp[d];exact h⟩,aX⟩;all_goals simp[go_sem,q,Y,P]
   all_goals rfl
  ·try simp only at d E
   obtain⟨j,Z,L2,B,h,z,C,F⟩:=kK (M:=m+1+1) (LL:=(m+1,.k 71 (aC y))::(m,.k 71 [.i 33,.i a,.i 0,.str [],.i 0,.vec .nil []])::aH L 0 (.c te (rc l none))) (((g.up (Up.set g.p)).push _).push _) aa (.mk 33 a s.at_ [] 0 [y]);have en:AV.agg [.i 33,.i a,.i s.at_,.str [],.i 0,.vec .ro [aB y]]=aB (.mk 33 a s.at_ [] 0 [y]):=rfl;have A:=eF (e':=s0.bad) e;have D:=eF (e':=G.bad) e;have gs:=eF (e':=none) e;simp[go_sem,q,O,J,V,e,W,X,S,U,R,Q,iT u,k1,aV,T,dI,dH,gh,eQ,en,gC u,I,D,K,A,aZ,cQ,B,z,C,F,d,Ε,cO (l:=l),E];refine⟨rfl,?_,?_,?_,?_,⟨.own j,?_,by simp[d];exact h⟩,aX⟩;all_goals simp[go_sem,q,Y,P]
   all_goals rfl
  ·try simp only at d E bG
   obtain⟨j,Z,L2,B,h,z,C,F⟩:=kK (M:=m+1+1) (LL:=(m+1,.k 71 (aC y))::(m,.k 71 [.i 33,.i a,.i 0,.str [],.i 0,.vec .nil []])::aH L 0 (.c te (rc l none))) (((g.up (Up.set g.p)).push _).push _) aa (.mk 33 a s.at_ [] 0 [y]);have en:AV.agg [.i 33,.i a,.i s.at_,.str [],.i 0,.vec .ro [aB y]]=aB (.mk 33 a s.at_ [] 0 [y]):=rfl;have A:=eF (e':=s0.bad) e;have D:=eF (e':=G.bad) e;have gs:=eF (e':=none) e;have qL:=h.up (Up.set (x:=.c te (rc l s2.bad)) h.p);have gV:bX l [44] ⟨s.at_,none⟩=some s2:=by rw[<-bG,<-d]
   simp only[go_sem,seval,q,O,J,V,e,W,X,S,U,R,Q,iT u,k1,aV,T,dI,dH,gh,eQ,en,I,D,K,A,aZ,cQ,B,z,C,F,d,Ε,cO (l:=l),E,gC u,gV];refine⟨aK,?_,?_,?_,?_,⟨.own j,?_,qL⟩,aX⟩;all_goals simp[go_sem,q,Y,P]
   all_goals rfl
 |some f=>
  simp only[eY] at hb;rcases hb with⟨x,d,rfl,rfl⟩|⟨d,E,rfl,rfl⟩|⟨d,E,s2,bG,rfl,rfl⟩
  ·try simp only at d
   obtain⟨j,Z,L2,B,h,z,C,F⟩:=kK (M:=m+1+1) (LL:=(m+1,.k 71 (aC y))::(m,.k 71 [.i 33,.i a,.i 0,.str f.1,.i f.2,.vec .nil []])::aH L 0 (.c te (rc l (some x)))) (((g.up (Up.set g.p)).push _).push _) aa (.mk 33 a s.at_ f.1 f.2 [y]);have en:AV.agg [.i 33,.i a,.i s.at_,.str f.1,.i f.2,.vec .ro [aB y]]=aB (.mk 33 a s.at_ f.1 f.2 [y]):=rfl;have A:=eF (e':=s0.bad) e;have D:=eF (e':=G.bad) e;have gs:=eF (e':=(some x)) e;simp[go_sem,q,O,J,V,e,W,X,S,U,R,Q,iT u,k1,aV,T,dI,dH,gh,eQ,en,gC u,I,D,K,A,aZ,cQ,B,z,C,d,aDg];refine⟨rfl,?_,?_,?_,?_,⟨.own j,?_,by simp[d];exact h⟩,aX⟩;all_goals simp[go_sem,q,Y,P]
   all_goals rfl
  ·try simp only at d E
   obtain⟨j,Z,L2,B,h,z,C,F⟩:=kK (M:=m+1+1) (LL:=(m+1,.k 71 (aC y))::(m,.k 71 [.i 33,.i a,.i 0,.str f.1,.i f.2,.vec .nil []])::aH L 0 (.c te (rc l none))) (((g.up (Up.set g.p)).push _).push _) aa (.mk 33 a s.at_ f.1 f.2 [y]);have en:AV.agg [.i 33,.i a,.i s.at_,.str f.1,.i f.2,.vec .ro [aB y]]=aB (.mk 33 a s.at_ f.1 f.2 [y]):=rfl;have A:=eF (e':=s0.bad) e;have D:=eF (e':=G.bad) e;have gs:=eF (e':=none) e;simp[go_sem,q,O,J,V,e,W,X,S,U,R,Q,iT u,k1,aV,T,dI,dH,gh,eQ,en,gC u,I,D,K,A,aZ,cQ,B,z,C,F,d,Ε,cO (l:=l),E];refine⟨rfl,?_,?_,?_,?_,⟨.own j,?_,by simp[d];exact h⟩,aX⟩;all_goals simp[go_sem,q,Y,P]
   all_goals rfl
  ·try simp only at d E bG
   obtain⟨j,Z,L2,B,h,z,C,F⟩:=kK (M:=m+1+1) (LL:=(m+1,.k 71 (aC y))::(m,.k 71 [.i 33,.i a,.i 0,.str f.1,.i f.2,.vec .nil []])::aH L 0 (.c te (rc l none))) (((g.up (Up.set g.p)).push _).push _) aa (.mk 33 a s.at_ f.1 f.2 [y]);have en:AV.agg [.i 33,.i a,.i s.at_,.str f.1,.i f.2,.vec .ro [aB y]]=aB (.mk 33 a s.at_ f.1 f.2 [y]):=rfl;have A:=eF (e':=s0.bad) e;have D:=eF (e':=G.bad) e;have gs:=eF (e':=none) e;have qL:=h.up (Up.set (x:=.c te (rc l s2.bad)) h.p);have gV:bX l [44] ⟨s.at_,none⟩=some s2:=by rw[<-bG,<-d]
   simp only[go_sem,seval,q,O,J,V,e,W,X,S,U,R,Q,iT u,k1,aV,T,dI,dH,gh,eQ,en,I,D,K,A,aZ,cQ,B,z,C,F,d,Ε,cO (l:=l),E,gC u,gV];refine⟨aK,?_,?_,?_,?_,⟨.own j,?_,qL⟩,aX⟩;all_goals simp[go_sem,q,Y,P]
   all_goals rfl
def aiS(F:l.length<=4000){te}{H0}{v w}{ty}(ih:dG l 262 ty)(n)(p)(b:Bool)(t:List Nd×RS)(α:az)(H:ab)(N:wN l (λs=>bn (iF l (.mk 33 s.at_ 0 [] 0 []) s) λx=>bn (bX l [58] x.2) λM=>bn (ty M) λt=>some (ended x.1 t.2.at_ [t.1],t.2)) [125] 0 p=some (b,t))(K:KI l te H0 6 9 1 4 v w (n+1) p α H):
  aD (aO ak FD α H) λy J H'=>y=(if b then .normal else .exit 2)/\KI l te H0 6 9 1 4 v w n t J H':=by
 obtain⟨ks,⟨a,z⟩⟩:=p;obtain⟨m,L⟩:=H;obtain⟨c,e,k,h,⟨o,d,f⟩,B⟩:=K;simp only at e d f B;obtain⟨I,q⟩:=aj.1 f.p;have j:=aF q;have i:=υ I;have u:(((ks.length:Nat):Int)==0)=decide (ks.length=0):=ez ks.length 0;have O:FD=.seq (.seq _ _) RF:=rfl;rw[O];rcases D0 N with⟨x,rfl,rfl,rfl⟩|⟨rfl,A,C,rfl,rfl⟩|⟨rfl,A,r,G,E⟩
 ·simp only[go_sem,seval,c,j,i,awU];refine⟨aK,?_,?_,?_,?_,⟨o,?_,f⟩,by simp only;omega⟩;all_goals simp[go_sem,c,e,d,k,h]
 ·have g:decide (ks.length=0)=true:=π A;simp only[go_sem,seval,c,e,d,j,i,q,ψ,cz,u,g,cO (l:=l),aV,C,ω];refine⟨aK,?_,?_,?_,?_,⟨o,?_,f⟩,by simp only;omega⟩;all_goals simp[go_sem,c,e,d,k,h]
 ·by_cases D:ks.length=0
  ·have g:decide (ks.length=0)=true:=π D;have C:=A D;simp only[go_sem,seval,c,e,d,j,i,q,ψ,cz,u,g,cO (l:=l),aV,C,Α];refine Xf F ih (n:=n) ⟨?_,?_,?_,?_,⟨o,?_,f⟩,B⟩ G E;all_goals simp[go_sem,c,e,d,k,h]
  ·have g:decide (ks.length=0)=false:=ξ D;simp only[go_sem,seval,c,d,j,i,ψ,cz,u,g,Α];refine Xf F ih (n:=n) ⟨?_,?_,?_,?_,⟨o,?_,f⟩,B⟩ G E;all_goals simp[go_sem,c,e,d,k,h]
def aiT(d:l.length<=4000){te}{H0}{v w}{ty}(ih:dG l 262 ty){n}{ks:List Nd}{s:RS}{r:List Nd×RS}{α:az}{H:ab}(a:jw l (λs=>bn (iF l (.mk 33 s.at_ 0 [] 0 []) s) λx=>bn (bX l [58] x.2) λf=>bn (ty f) λt=>some (ended x.1 t.2.at_ [t.1],t.2)) [125] 0 n ks s=some r)(c:KI l te H0 6 9 1 4 v w n (ks,s) α H):
  aD (aJ (aO ak FD) α H) λy e H'=>y=.exit 2/\∃m,KI l te H0 6 9 1 4 v w m r e H':=by
 rw[BH] at a;exact zK (Inv:=λn p α H=>KI l te H0 6 9 1 4 v w n p α H) (λn p b t α H g hi=>aiS d ih n p b t α H g hi) n (ks,s) r α H a c
noncomputable def Gg:=f262.c.r.r.r.r.r.r.r.r.r.l.b.b
noncomputable def Ti:=Gg.r
def YY(T:l.length<=4000){te}{H0}{v w}{ty}(ih:dG l 262 ty){ks}{a n}{b}{t}{α}{H}(S:KI l te H0 6 9 1 4 v w (n+1) (ks,⟨a,none⟩) α H){r}(E:(ty:RS->RR) ⟨a,none⟩=some r)
  (hb:FC l [41] ks r b t):
  aD (aO ak Ti α H) λy R H'=>y=(if b then .normal else .exit 4)/\KI l te H0 6 9 1 4 v w n t R H':=by
 obtain⟨m,L⟩:=H;obtain⟨f,A,D,B,⟨o,u,e⟩,V⟩:=S;simp only at A u e V;obtain⟨O,C⟩:=aj.1 e.p;have G:=υ O;have k1:=kY rfl rfl ih;have F:=aY (m<m+1);have P:Ti=.block _ (.seq _ _):=rfl;rw[P];obtain⟨y,U⟩:=r;rcases hb with⟨x,d,rfl,rfl⟩|⟨d,s,rfl,rfl⟩|⟨d,s,K,J,rfl,rfl⟩
 ·try simp only at d
  obtain⟨j,I,N,i,g,h,q,z⟩:=kK (M:=m+1) (LL:=(m,.k 71 (aC y))::aH L 0 (.c te (rc l (some x)))) ((e.up (Up.set e.p)).push _) aa y;simp[go_sem,f,A,u,G,C,F,k1,aV,E,cQ,i,h,q,d,aDg];refine⟨rfl,?_,?_,?_,?_,⟨.own j,?_,by simp[d];exact g⟩,aX⟩;all_goals simp[go_sem,f,D,B]
 ·try simp only at d s
  obtain⟨j,I,N,i,g,h,q,z⟩:=kK (M:=m+1) (LL:=(m,.k 71 (aC y))::aH L 0 (.c te (rc l none))) ((e.up (Up.set e.p)).push _) aa y;simp[go_sem,f,A,u,G,C,F,k1,aV,E,cQ,i,h,q,z,d,Ε,cO (l:=l),s];refine⟨rfl,?_,?_,?_,?_,⟨.own j,?_,by simp[d];exact g⟩,aX⟩;all_goals simp[go_sem,f,D,B]
 ·try simp only at d s J
  obtain⟨j,I,N,i,g,h,q,z⟩:=kK (M:=m+1) (LL:=(m,.k 71 (aC y))::aH L 0 (.c te (rc l none))) ((e.up (Up.set e.p)).push _) aa y;have Q:bX l [44] ⟨U.at_,none⟩=some K:=by rw[<-J,<-d]
  simp only[go_sem,seval,f,A,u,G,C,F,k1,aV,E,cQ,i,h,q,z,d,Ε,cO (l:=l),s,gC T,Q];refine⟨aK,?_,?_,?_,?_,⟨.own j,?_,(g.up (Up.set (x:=.c te (rc l K.bad)) g.p))⟩,aX⟩;all_goals simp[go_sem,f,D,B]
def amv(E:l.length<=4000){te}{H0}{v w}{ty}(ih:dG l 262 ty)(n)(p)(b:Bool)(t:List Nd×RS)(α:az)(H:ab)(K:wN l (ty) [41] 0 p=some (b,t))(J:KI l te H0 6 9 1 4 v w (n+1) p α H):
  aD (aO ak Gg α H) λy I H'=>y=(if b then .normal else .exit 4)/\KI l te H0 6 9 1 4 v w n t I H':=by
 obtain⟨ks,⟨a,z⟩⟩:=p;obtain⟨m,L⟩:=H;obtain⟨c,e,k,h,⟨o,d,f⟩,A⟩:=J;simp only at e d f A;obtain⟨G,q⟩:=aj.1 f.p;have j:=aF q;have i:=υ G;have s:(((ks.length:Nat):Int)==0)=decide (ks.length=0):=ez ks.length 0;have M:Gg=.seq (.seq _ _) Ti:=rfl;rw[M];rcases D0 K with⟨x,rfl,rfl,rfl⟩|⟨rfl,u,B,rfl,rfl⟩|⟨rfl,u,r,F,D⟩
 ·simp only[go_sem,seval,c,j,i,awU];refine⟨aK,?_,?_,?_,?_,⟨o,?_,f⟩,by simp only;omega⟩;all_goals simp[go_sem,c,e,d,k,h]
 ·have g:decide (ks.length=0)=true:=π u;simp only[go_sem,seval,c,e,d,j,i,q,ψ,cz,s,g,cO (l:=l),aV,B,ω];refine⟨aK,?_,?_,?_,?_,⟨o,?_,f⟩,by simp only;omega⟩;all_goals simp[go_sem,c,e,d,k,h]
 ·by_cases C:ks.length=0
  ·have g:decide (ks.length=0)=true:=π C;have B:=u C;simp only[go_sem,seval,c,e,d,j,i,q,ψ,cz,s,g,cO (l:=l),aV,B,Α];refine YY E ih (n:=n) ⟨?_,?_,?_,?_,⟨o,?_,f⟩,A⟩ F D;all_goals simp[go_sem,c,e,d,k,h]
  ·have g:decide (ks.length=0)=false:=ξ C;simp only[go_sem,seval,c,d,j,i,ψ,cz,s,g,Α];refine YY E ih (n:=n) ⟨?_,?_,?_,?_,⟨o,?_,f⟩,A⟩ F D;all_goals simp[go_sem,c,e,d,k,h]
def amw(d:l.length<=4000){te}{H0}{v w}{ty}(ih:dG l 262 ty){n}{ks}{s:RS}{r:List Nd×RS}{α:az}{H:ab}(a:jw l (ty) [41] 0 n ks s=some r)(c:KI l te H0 6 9 1 4 v w n (ks,s) α H):
  aD (aJ (aO ak Gg) α H) λy e H'=>y=.exit 4/\∃m,KI l te H0 6 9 1 4 v w m r e H':=by
 rw[BH] at a;exact zK (Inv:=λn p α H=>KI l te H0 6 9 1 4 v w n p α H) (λn p b t α H f hi=>amv d ih n p b t α H f hi) n (ks,s) r α H a c
noncomputable def JK:=f283.c.r.r.l.b.b
noncomputable def Fj:=JK.r.b.r.r.r.l.b.b
noncomputable def Qi:=Fj.r
def V5(T:l.length<=4000){te}{H0}{v w}{ty}(ih:dG l 271 ty){ks}{a n}{b}{t}{α}{H}(S:KI l te H0 7 10 4 6 v w (n+1) (ks,⟨a,none⟩) α H){r}(E:(ty:RS->RR) ⟨a,none⟩=some r)
  (hb:FC l [41] ks r b t):
  aD (aO ak Qi α H) λy R H'=>y=(if b then .normal else .exit 2)/\KI l te H0 7 10 4 6 v w n t R H':=by
 obtain⟨m,L⟩:=H;obtain⟨f,A,D,B,⟨o,u,e⟩,V⟩:=S;simp only at A u e V;obtain⟨O,C⟩:=aj.1 e.p;have G:=υ O;have k1:=kY rfl rfl ih;have F:=aY (m<m+1);have P:Qi=.block _ (.seq _ _):=rfl;rw[P];obtain⟨y,U⟩:=r;rcases hb with⟨x,d,rfl,rfl⟩|⟨d,s,rfl,rfl⟩|⟨d,s,K,J,rfl,rfl⟩
 ·try simp only at d
  obtain⟨j,I,N,i,g,h,q,z⟩:=kK (M:=m+1) (LL:=(m,.k 71 (aC y))::aH L 0 (.c te (rc l (some x)))) ((e.up (Up.set e.p)).push _) aa y;simp[go_sem,f,A,u,G,C,F,k1,aV,E,cQ,i,h,q,d,aDg];refine⟨rfl,?_,?_,?_,?_,⟨.own j,?_,by simp[d];exact g⟩,aX⟩;all_goals simp[go_sem,f,D,B]
 ·try simp only at d s
  obtain⟨j,I,N,i,g,h,q,z⟩:=kK (M:=m+1) (LL:=(m,.k 71 (aC y))::aH L 0 (.c te (rc l none))) ((e.up (Up.set e.p)).push _) aa y;simp[go_sem,f,A,u,G,C,F,k1,aV,E,cQ,i,h,q,z,d,Ε,cO (l:=l),s];refine⟨rfl,?_,?_,?_,?_,⟨.own j,?_,by simp[d];exact g⟩,aX⟩;all_goals simp[go_sem,f,D,B]
 ·try simp only at d s J
  obtain⟨j,I,N,i,g,h,q,z⟩:=kK (M:=m+1) (LL:=(m,.k 71 (aC y))::aH L 0 (.c te (rc l none))) ((e.up (Up.set e.p)).push _) aa y;have Q:bX l [44] ⟨U.at_,none⟩=some K:=by rw[<-J,<-d]
  simp only[go_sem,seval,f,A,u,G,C,F,k1,aV,E,cQ,i,h,q,z,d,Ε,cO (l:=l),s,gC T,Q];refine⟨aK,?_,?_,?_,?_,⟨.own j,?_,(g.up (Up.set (x:=.c te (rc l K.bad)) g.p))⟩,aX⟩;all_goals simp[go_sem,f,D,B]
def ag6(E:l.length<=4000){te}{H0}{v w}{ty}(ih:dG l 271 ty)(n)(p)(b:Bool)(t:List Nd×RS)(α:az)(H:ab)(K:wN l (ty) [41] 1 p=some (b,t))(J:KI l te H0 7 10 4 6 v w (n+1) p α H):
  aD (aO ak Fj α H) λy I H'=>y=(if b then .normal else .exit 2)/\KI l te H0 7 10 4 6 v w n t I H':=by
 obtain⟨ks,⟨a,z⟩⟩:=p;obtain⟨m,L⟩:=H;obtain⟨c,e,k,h,⟨o,d,f⟩,A⟩:=J;simp only at e d f A;obtain⟨G,q⟩:=aj.1 f.p;have j:=aF q;have i:=υ G;have s:(((ks.length:Nat):Int)==1)=decide (ks.length=1):=ez ks.length 1;have M:Fj=.seq (.seq _ _) Qi:=rfl;rw[M];rcases D0 K with⟨x,rfl,rfl,rfl⟩|⟨rfl,u,B,rfl,rfl⟩|⟨rfl,u,r,F,D⟩
 ·simp only[go_sem,seval,c,j,i,awU];refine⟨aK,?_,?_,?_,?_,⟨o,?_,f⟩,by simp only;omega⟩;all_goals simp[go_sem,c,e,d,k,h]
 ·have g:decide (ks.length=1)=true:=π u;simp only[go_sem,seval,c,e,d,j,i,q,ψ,cz,s,g,cO (l:=l),aV,B,ω];refine⟨aK,?_,?_,?_,?_,⟨o,?_,f⟩,by simp only;omega⟩;all_goals simp[go_sem,c,e,d,k,h]
 ·by_cases C:ks.length=1
  ·have g:decide (ks.length=1)=true:=π C;have B:=u C;simp[go_sem,c,e,d,j,i,q,ψ,cz,s,g,cO (l:=l),aV,B,Α];refine V5 E ih (n:=n) ⟨?_,?_,?_,?_,⟨o,?_,f⟩,A⟩ F D;all_goals simp[go_sem,c,e,d,k,h]
  ·have g:decide (ks.length=1)=false:=ξ C;simp[go_sem,c,d,j,i,ψ,cz,s,g,Α];refine V5 E ih (n:=n) ⟨?_,?_,?_,?_,⟨o,?_,f⟩,A⟩ F D;all_goals simp[go_sem,c,e,d,k,h]
def ag7(d:l.length<=4000){te}{H0}{v w}{ty}(ih:dG l 271 ty){n}{ks}{s:RS}{r:List Nd×RS}{α:az}{H:ab}(a:jw l (ty) [41] 1 n ks s=some r)(c:KI l te H0 7 10 4 6 v w n (ks,s) α H):
  aD (aJ (aO ak Fj) α H) λy e H'=>y=.exit 2/\∃m,KI l te H0 7 10 4 6 v w m r e H':=by
 rw[BH] at a;exact zK (Inv:=λn p α H=>KI l te H0 7 10 4 6 v w n p α H) (λn p b t α H f hi=>ag6 d ih n p b t α H f hi) n (ks,s) r α H a c
noncomputable def EX:=f289.c.r.r.r.r.r.r.r.r.r.l.r.t.r.r.l.b.b
noncomputable def Pk:=EX.r
def Vr(u:l.length<=4000){te}{H0}{v w}{ty}(ih:dG l 271 ty){ks}{a n}{b}{t}{α}{H}(hI:KI l te H0 6 11 1 4 v w (n+1) (ks,⟨a,none⟩) α H){r}(N:(λs=>bn (iF l (.mk 27 s.at_ 0 [] 0 []) s) λx=>bn (bX l [58] x.2) λG=>bn (ty G) λt=>some (ended x.1 t.2.at_ [t.1],t.2):RS->RR) ⟨a,none⟩=some r)
  (hb:FC l [125] ks r b t):
  aD (aO ak Pk α H) λy ae H'=>y=(if b then .normal else .exit 1)/\KI l te H0 6 11 1 4 v w n t ae H':=by
 obtain⟨m,L⟩:=H;obtain⟨q,O,Y,P,⟨o,J,g⟩,hn⟩:=hI;simp only at O J g hn;obtain⟨eA,e⟩:=aj.1 g.p;have V:=υ eA;have k1:=kY rfl rfl ih;have W:=aY (0<m+1);have X:=aY (m<m+1);have S:=aY (m<m+1+1);have U:=aY (m+1<m+1+1);have R:=dw (m=0);have Q:=dw (m+1=m);have hQ:Pk=.block _ (.seq _ _):=rfl;rw[hQ];obtain⟨x,d,N⟩:=al N;rw[Ez] at d;obtain⟨⟨o1,s0⟩,T,d⟩:=al d;cases d;obtain⟨G,I,N⟩:=al N;obtain⟨⟨y,s⟩,K,N⟩:=al N;simp only at I K;cases N
 cases o1 with
 |none=>
  simp only[eY] at hb;rcases hb with⟨x,d,rfl,rfl⟩|⟨d,E,rfl,rfl⟩|⟨d,E,s2,bG,rfl,rfl⟩
  ·try simp only at d
   obtain⟨j,Z,L2,B,h,z,C,F⟩:=kK (M:=m+1+1) (LL:=(m+1,.k 71 (aC y))::(m,.k 71 [.i 27,.i a,.i 0,.str [],.i 0,.vec .nil []])::aH L 0 (.c te (rc l (some x)))) (((g.up (Up.set g.p)).push _).push _) aa (.mk 27 a s.at_ [] 0 [y]);have en:AV.agg [.i 27,.i a,.i s.at_,.str [],.i 0,.vec .ro [aB y]]=aB (.mk 27 a s.at_ [] 0 [y]):=rfl;have A:=eF (e':=s0.bad) e;have D:=eF (e':=G.bad) e;have gs:=eF (e':=(some x)) e;simp[go_sem,q,O,J,V,e,W,X,S,U,R,Q,iT u,k1,aV,T,dI,dH,gh,eQ,en,gC u,I,D,K,A,aZ,cQ,B,z,C,d,aDg];refine⟨rfl,?_,?_,?_,?_,⟨.own j,?_,by simp[d];exact h⟩,aX⟩;all_goals simp[go_sem,q,Y,P]
   all_goals rfl
  ·try simp only at d E
   obtain⟨j,Z,L2,B,h,z,C,F⟩:=kK (M:=m+1+1) (LL:=(m+1,.k 71 (aC y))::(m,.k 71 [.i 27,.i a,.i 0,.str [],.i 0,.vec .nil []])::aH L 0 (.c te (rc l none))) (((g.up (Up.set g.p)).push _).push _) aa (.mk 27 a s.at_ [] 0 [y]);have en:AV.agg [.i 27,.i a,.i s.at_,.str [],.i 0,.vec .ro [aB y]]=aB (.mk 27 a s.at_ [] 0 [y]):=rfl;have A:=eF (e':=s0.bad) e;have D:=eF (e':=G.bad) e;have gs:=eF (e':=none) e;simp[go_sem,q,O,J,V,e,W,X,S,U,R,Q,iT u,k1,aV,T,dI,dH,gh,eQ,en,gC u,I,D,K,A,aZ,cQ,B,z,C,F,d,Ε,cO (l:=l),E];refine⟨rfl,?_,?_,?_,?_,⟨.own j,?_,by simp[d];exact h⟩,aX⟩;all_goals simp[go_sem,q,Y,P]
   all_goals rfl
  ·try simp only at d E bG
   obtain⟨j,Z,L2,B,h,z,C,F⟩:=kK (M:=m+1+1) (LL:=(m+1,.k 71 (aC y))::(m,.k 71 [.i 27,.i a,.i 0,.str [],.i 0,.vec .nil []])::aH L 0 (.c te (rc l none))) (((g.up (Up.set g.p)).push _).push _) aa (.mk 27 a s.at_ [] 0 [y]);have en:AV.agg [.i 27,.i a,.i s.at_,.str [],.i 0,.vec .ro [aB y]]=aB (.mk 27 a s.at_ [] 0 [y]):=rfl;have A:=eF (e':=s0.bad) e;have D:=eF (e':=G.bad) e;have gs:=eF (e':=none) e;have qL:=h.up (Up.set (x:=.c te (rc l s2.bad)) h.p);have gV:bX l [44] ⟨s.at_,none⟩=some s2:=by rw[<-bG,<-d]
   simp only[go_sem,seval,q,O,J,V,e,W,X,S,U,R,Q,iT u,k1,aV,T,dI,dH,gh,eQ,en,I,D,K,A,aZ,cQ,B,z,C,F,d,Ε,cO (l:=l),E,gC u,gV];refine⟨aK,?_,?_,?_,?_,⟨.own j,?_,qL⟩,aX⟩;all_goals simp[go_sem,q,Y,P]
   all_goals rfl
 |some f=>
  simp only[eY] at hb;rcases hb with⟨x,d,rfl,rfl⟩|⟨d,E,rfl,rfl⟩|⟨d,E,s2,bG,rfl,rfl⟩
  ·try simp only at d
   obtain⟨j,Z,L2,B,h,z,C,F⟩:=kK (M:=m+1+1) (LL:=(m+1,.k 71 (aC y))::(m,.k 71 [.i 27,.i a,.i 0,.str f.1,.i f.2,.vec .nil []])::aH L 0 (.c te (rc l (some x)))) (((g.up (Up.set g.p)).push _).push _) aa (.mk 27 a s.at_ f.1 f.2 [y]);have en:AV.agg [.i 27,.i a,.i s.at_,.str f.1,.i f.2,.vec .ro [aB y]]=aB (.mk 27 a s.at_ f.1 f.2 [y]):=rfl;have A:=eF (e':=s0.bad) e;have D:=eF (e':=G.bad) e;have gs:=eF (e':=(some x)) e;simp[go_sem,q,O,J,V,e,W,X,S,U,R,Q,iT u,k1,aV,T,dI,dH,gh,eQ,en,gC u,I,D,K,A,aZ,cQ,B,z,C,d,aDg];refine⟨rfl,?_,?_,?_,?_,⟨.own j,?_,by simp[d];exact h⟩,aX⟩;all_goals simp[go_sem,q,Y,P]
   all_goals rfl
  ·try simp only at d E
   obtain⟨j,Z,L2,B,h,z,C,F⟩:=kK (M:=m+1+1) (LL:=(m+1,.k 71 (aC y))::(m,.k 71 [.i 27,.i a,.i 0,.str f.1,.i f.2,.vec .nil []])::aH L 0 (.c te (rc l none))) (((g.up (Up.set g.p)).push _).push _) aa (.mk 27 a s.at_ f.1 f.2 [y]);have en:AV.agg [.i 27,.i a,.i s.at_,.str f.1,.i f.2,.vec .ro [aB y]]=aB (.mk 27 a s.at_ f.1 f.2 [y]):=rfl;have A:=eF (e':=s0.bad) e;have D:=eF (e':=G.bad) e;have gs:=eF (e':=none) e;simp[go_sem,q,O,J,V,e,W,X,S,U,R,Q,iT u,k1,aV,T,dI,dH,gh,eQ,en,gC u,I,D,K,A,aZ,cQ,B,z,C,F,d,Ε,cO (l:=l),E];refine⟨rfl,?_,?_,?_,?_,⟨.own j,?_,by simp[d];exact h⟩,aX⟩;all_goals simp[go_sem,q,Y,P]
   all_goals rfl
  ·try simp only at d E bG
   obtain⟨j,Z,L2,B,h,z,C,F⟩:=kK (M:=m+1+1) (LL:=(m+1,.k 71 (aC y))::(m,.k 71 [.i 27,.i a,.i 0,.str f.1,.i f.2,.vec .nil []])::aH L 0 (.c te (rc l none))) (((g.up (Up.set g.p)).push _).push _) aa (.mk 27 a s.at_ f.1 f.2 [y]);have en:AV.agg [.i 27,.i a,.i s.at_,.str f.1,.i f.2,.vec .ro [aB y]]=aB (.mk 27 a s.at_ f.1 f.2 [y]):=rfl;have A:=eF (e':=s0.bad) e;have D:=eF (e':=G.bad) e;have gs:=eF (e':=none) e;have qL:=h.up (Up.set (x:=.c te (rc l s2.bad)) h.p);have gV:bX l [44] ⟨s.at_,none⟩=some s2:=by rw[<-bG,<-d]
   simp only[go_sem,seval,q,O,J,V,e,W,X,S,U,R,Q,iT u,k1,aV,T,dI,dH,gh,eQ,en,I,D,K,A,aZ,cQ,B,z,C,F,d,Ε,cO (l:=l),E,gC u,gV];refine⟨aK,?_,?_,?_,?_,⟨.own j,?_,qL⟩,aX⟩;all_goals simp[go_sem,q,Y,P]
   all_goals rfl
def af2(F:l.length<=4000){te}{H0}{v w}{ty}(ih:dG l 271 ty)(n)(p)(b:Bool)(t:List Nd×RS)(α:az)(H:ab)(N:wN l (λs=>bn (iF l (.mk 27 s.at_ 0 [] 0 []) s) λx=>bn (bX l [58] x.2) λM=>bn (ty M) λt=>some (ended x.1 t.2.at_ [t.1],t.2)) [125] 0 p=some (b,t))(K:KI l te H0 6 11 1 4 v w (n+1) p α H):
  aD (aO ak EX α H) λy J H'=>y=(if b then .normal else .exit 1)/\KI l te H0 6 11 1 4 v w n t J H':=by
 obtain⟨ks,⟨a,z⟩⟩:=p;obtain⟨m,L⟩:=H;obtain⟨c,e,k,h,⟨o,d,f⟩,B⟩:=K;simp only at e d f B;obtain⟨I,q⟩:=aj.1 f.p;have j:=aF q;have i:=υ I;have u:(((ks.length:Nat):Int)==0)=decide (ks.length=0):=ez ks.length 0;have O:EX=.seq (.seq _ _) Pk:=rfl;rw[O];rcases D0 N with⟨x,rfl,rfl,rfl⟩|⟨rfl,A,C,rfl,rfl⟩|⟨rfl,A,r,G,E⟩
 ·simp only[go_sem,seval,c,j,i,awU];refine⟨aK,?_,?_,?_,?_,⟨o,?_,f⟩,by simp only;omega⟩;all_goals simp[go_sem,c,e,d,k,h]
 ·have g:decide (ks.length=0)=true:=π A;simp only[go_sem,seval,c,e,d,j,i,q,ψ,cz,u,g,cO (l:=l),aV,C,ω];refine⟨aK,?_,?_,?_,?_,⟨o,?_,f⟩,by simp only;omega⟩;all_goals simp[go_sem,c,e,d,k,h]
 ·by_cases D:ks.length=0
  ·have g:decide (ks.length=0)=true:=π D;have C:=A D;simp only[go_sem,seval,c,e,d,j,i,q,ψ,cz,u,g,cO (l:=l),aV,C,Α];refine Vr F ih (n:=n) ⟨?_,?_,?_,?_,⟨o,?_,f⟩,B⟩ G E;all_goals simp[go_sem,c,e,d,k,h]
  ·have g:decide (ks.length=0)=false:=ξ D;simp only[go_sem,seval,c,d,j,i,ψ,cz,u,g,Α];refine Vr F ih (n:=n) ⟨?_,?_,?_,?_,⟨o,?_,f⟩,B⟩ G E;all_goals simp[go_sem,c,e,d,k,h]
def af3(d:l.length<=4000){te}{H0}{v w}{ty}(ih:dG l 271 ty){n}{ks:List Nd}{s:RS}{r:List Nd×RS}{α:az}{H:ab}(a:jw l (λs=>bn (iF l (.mk 27 s.at_ 0 [] 0 []) s) λx=>bn (bX l [58] x.2) λf=>bn (ty f) λt=>some (ended x.1 t.2.at_ [t.1],t.2)) [125] 0 n ks s=some r)(c:KI l te H0 6 11 1 4 v w n (ks,s) α H):
  aD (aJ (aO ak EX) α H) λy e H'=>y=.exit 1/\∃m,KI l te H0 6 11 1 4 v w m r e H':=by
 rw[BH] at a;exact zK (Inv:=λn p α H=>KI l te H0 6 11 1 4 v w n p α H) (λn p b t α H g hi=>af2 d ih n p b t α H g hi) n (ks,s) r α H a c
end
set_option maxRecDepth 100000
set_option maxHeartbeats 4000000
section
variable {l:List Tok}
def iy:List AV:=[.i 0,.i 0,.i 0,.str [],.i 0,.vec .nil []]
def ag8(k):R l (k+1) .param=λs=>bn (iF l (.mk 5 s.at_ 0 [] 0 []) s) λx=>bn (R l k .typed x.2) λt=>some (ended x.1 t.2.at_ [t.1],t.2):=by funext s;simp[R]
def aiU(f:l.length<=4000){n}(hn:n<=900000)(ih:∀k,k<n->dG l 248 (R l k .typed)):dG l 247 (R l (n+1) .params):=by
 intro s r h;simp[R] at h;obtain⟨G,H,h⟩:=al h;obtain⟨q,b,h⟩:=al h;obtain⟨d,F,h⟩:=al h;cases h
 cases n with
 |zero=>cases b
 |succ k=>
 rw[ag8] at b;obtain⟨a,e⟩:=s;refine fX (c:=.seq _ (.seq _ (.seq _ (.seq (.block 0 (.loop EA)) _)))) rfl rfl func247 rfl (by rw[ntmps247];simp) (λte=> ?_) (sG _ _) (kg l _);simp[go_sem,gC f,aV,H];refine jE ?_;rw[gB];refine aT (afe f (ih k aa) b (te:=te) (H0:=⟨2,[(1,.k 71 iy),(0,.c te (rc l G.bad))]⟩) (v:=.i a) (w:=.ptr 1 0) ⟨?_,?_,?_,?_,⟨.nil,?_,⟨rfl,.inl ⟨rfl,rfl⟩,⟨μ _,λj t cs _ h=>h⟩⟩⟩,aX⟩) ?_
 case refine_6=>
  rintro x ae ⟨m1,L1⟩ ⟨rfl,m0,⟨d0,z,E,A,⟨o,B,m⟩,_⟩⟩;refine .inl ⟨.inr rfl,?_⟩;obtain⟨I,D⟩:=aj.1 m.p;obtain⟨C,u⟩:=aj.1 (m.k.2 1 (some 71) iy aA rfl);have y:bX l [41] ⟨q.2.at_,q.2.bad⟩=some d:=F;have J:iy.length=6:=rfl;simp only[go_sem,seval,d0,z,E,A,B,υ I,υ C,D,u,aF u,J,gC f,aV,y,aZ,eQ,nQ q.1,sn m.g,bg,fU,results247];exact Λ (λx=>some (x,te,rc l d.bad)) (lX (.mk 4 a d.at_ [] 0 q.1) _)
 all_goals simp[go_sem,]
 all_goals rfl
def vr(l:List Tok)(n:Nat)(s:RS):Option ((Nd×Nd×Nd)×RS):=bn (R l n .params s) λa=>bn (R l n .typed a.2) λb=>bn (R l n .block b.2) λc=>some ((a.1,b.1,c.1),c.2)
def KT(l:List Tok)(f:FuncId)(one:RS->Option ((Nd×Nd×Nd)×RS)):Prop:=∀s r,one s=some r->Io ak f [.i s.at_] (rc l s.bad) (.tup [.vec .ro [aB r.1.1,aB r.1.2.1,aB r.1.2.2],.i r.2.at_]) (rc l r.2.bad)
def aay{f}{one:RS->Option ((Nd×Nd×Nd)×RS)}(d:ak.cl f=false)(c:ak.io f=true)(h:KT l f one)(a:Nat)(i:Nat)(H:ab):
  bt ak f [.ptr i 0,.i a] H=ir (rg l) (H.get i) (λp=>vO (one ⟨a,p.2⟩) (λr=>some (.tup [.vec .ro [aB r.1.1,aB r.1.2.1,aB r.1.2.2],.i r.2.at_],H.set i (.cells p.1 (rc l r.2.bad)))) (bt ak f [.ptr i 0,.i a] H)) (bt ak f [.ptr i 0,.i a] H):=
 qW λs b=>BZ λr e=>sr (first:=[]) (ar:=[.ptr i 0,.i a]) (args:=[.i a]) d c rfl rfl (AD l s.2) (yd l s.2) (kg l s.2) b (h ⟨a,s.2⟩ r e)
def aiV(hl:l.length<=4000){n}(j:dG l 247 (R l n .params))(d:dG l 248 (R l n .typed))(i:dG l 249 (R l n .block)):KT l 231 (vr l n):=by intro s r h;unfold vr at h;obtain⟨a,f,h⟩:=al h;obtain⟨b,hb,h⟩:=al h;obtain⟨c,m,h⟩:=al h;cases h;obtain⟨at0,e⟩:=s;refine fX rfl rfl func231 rfl (by rw[ntmps231];simp) (λte=> ?_) (by simp[AV.aq,AV.aq.go,jI]) (kg l _);have k:R l n .typed ⟨a.2.at_,a.2.bad⟩=some b:=hb;have g:R l n .block ⟨b.2.at_,b.2.bad⟩=some c:=m;simp[go_sem,kY rfl rfl j,kY rfl rfl d,kY rfl rfl i,aV,f,k,g,results231];rfl
noncomputable def RG:=f249.c.r.r.r.l.b.b
def Ji(l:List Tok)(one:RS->RR)(p:List Nd×RS):Option (Bool×(List Nd×RS)):=
 if p.2.bad.isNone then bn (cP l p.2.at_ [125]) λb=>if b then some (false,p) else bn (one p.2) λr=>some (true,(p.1++[r.1],r.2)) else some (false,p)
def UT{one:RS->RR}:∀n ks s,oB l one n ks s=iter (Ji l one) n (ks,s)
 |0,ks,s=>rfl
 |n+1,ks,s=>by
  rw[oB,iter,Ji];simp only;split
  ·cases cP l s.at_ [125] with
   |none=>rfl
   |some b=>
    simp[fx]
    cases b with
    |true=>rfl
    |false=>
     simp
     cases one s with
     |none=>rfl
     |some r=>exact UT n _ _
  ·rfl
def af4(hl:l.length<=4000){te}{H0}{v w}{ty}(ih:dG l 263 ty)(n)(p)(b)(t)(α:az)(H:ab)(d:Ji l ty p=some (b,t))(J:KI l te H0 6 7 1 4 v w (n+1) p α H):
  aD (aO ak RG α H) λy G H'=>y=(if b then .normal else .exit 0)/\KI l te H0 6 7 1 4 v w n t G H':=by
 obtain⟨ks,⟨a,z⟩⟩:=p;obtain⟨m,L⟩:=H;obtain⟨f,h,A,q,⟨o,i,e⟩,M⟩:=J;simp only at h i e M;obtain⟨E,r⟩:=aj.1 e.p;have u:=aF r;have s:=υ E;have Q:RG=.seq (.seq _ _) _:=rfl;rw[Q];unfold Ji at d
 cases z with
 |some x=>
  simp at d;obtain⟨rfl,rfl⟩:=d;simp only[go_sem,seval,f,u,s,awU];refine⟨aK,?_,?_,?_,?_,⟨o,?_,e⟩,by simp only;omega⟩;all_goals simp[go_sem,f,h,i,A,q]
 |none=>
  simp at d;obtain⟨F,B,d⟩:=al d
  cases F with
  |true=>
   simp at d;obtain⟨rfl,rfl⟩:=d;simp only[go_sem,seval,f,h,u,s,r,ψ,cO (l:=l),aV,B,ω];refine⟨aK,?_,?_,?_,?_,⟨o,?_,e⟩,by simp only;omega⟩;all_goals simp[go_sem,f,h,i,A,q]
  |false=>
   simp at d;obtain⟨⟨y,C⟩,K,d⟩:=al d;cases d;have P:=aY (m<m+1);obtain⟨j,⟨D,O⟩,I,p2,p3,_⟩:=BP tC (m:=λ_=>false) rfl (o:=o) (o2:=.full) (es:=bA ks) (xs:=[aB y]) (H:=⟨m+1,(m,.k 71 (aC y))::aH L 0 (.c te (rc l C.bad))⟩) (by rw[cz];exact((e.up (Up.set e.p)).push _).g) (qv ks) (cB.one y) ai (by rw[cz];simp;omega) (by rw[cz];simp;omega);have N:j8 l te H0 (.own j) (ks++[y]) C.bad ⟨D,O⟩:=j8.app ((e.up (Up.set e.p)).push _) p3 (by simpa[cz] using p2);have es:bA ks++[aB y]=bA (ks++[y]):=by rw[tu];rfl
   simp only[go_sem,seval,f,h,i,u,s,r,P,ψ,cO (l:=l),aV,B,Α,kY rfl rfl ih,K,cQ,I,es];refine⟨aK,?_,?_,?_,?_,⟨.own j,?_,N⟩,aX⟩;all_goals simp[go_sem,f,A,q]
def amx(f:l.length<=4000){n}(hn:n<=900000)(ih:dG l 263 (R l n .stmt)):dG l 249 (R l (n+1) .block):=by
 intro s r h;simp[R] at h;obtain⟨F,G,h⟩:=al h;obtain⟨q,u,h⟩:=al h;obtain⟨d,E,h⟩:=al h;cases h;obtain⟨a,e⟩:=s;refine fX (c:=.seq _ (.seq _ (.seq _ (.seq (.block 0 (.loop RG)) _)))) rfl rfl func249 rfl (by rw[ntmps249];simp) (λte=> ?_) (sG _ _) (kg l _);simp[go_sem,gC f,aV,G];refine jE ?_;rw[gB];rw[UT] at u;refine aT (zK (Inv:=λn p α H=>KI l te ⟨2,[(1,.k 71 iy),(0,.c te (rc l F.bad))]⟩ 6 7 1 4 (.i a) (.ptr 1 0) n p α H) (λn p b t α H I hi=>af4 f ih n p b t α H I hi) n _ q _ _ u ⟨?_,?_,?_,?_,⟨.nil,?_,⟨rfl,.inl ⟨rfl,rfl⟩,⟨μ _,λj t cs _ h=>h⟩⟩⟩,aX⟩) ?_
 case refine_6=>
  rintro x ae ⟨m1,L1⟩ ⟨rfl,m0,⟨d0,y,D,z,⟨o,A,m⟩,_⟩⟩;refine .inl ⟨.inr rfl,?_⟩;obtain⟨J,C⟩:=aj.1 m.p;obtain⟨B,v⟩:=aj.1 (m.k.2 1 (some 71) iy aA rfl);have w:bX l [125] ⟨q.2.at_,q.2.bad⟩=some d:=E;have K:iy.length=6:=rfl;simp only[go_sem,seval,d0,y,D,z,A,υ J,υ B,C,v,aF v,K,gC f,aV,w,aZ,eQ,nQ q.1,sn m.g,bg,fU,results249];exact Λ (λx=>some (x,te,rc l d.bad)) (lX (.mk 6 a d.at_ [] 0 q.1) _)
 all_goals simp[go_sem,]
 all_goals rfl
end
set_option maxRecDepth 100000
set_option maxHeartbeats 4000000
section
variable {l:List Tok}
structure SI(l:List Tok)(te:Option TypeId)(x:Nd)(s:RS)(α:az)(H:ab):Prop where
 z:α 0=.ptr 0 0
 a:α 7=.i s.at_
 c:α 4=.ptr 1 0
 d:α 6=.ptr 2 0
 p:H.get 0=some (.c te (rc l s.bad))
 r:H.get 1=some (.k 71 iy)
 x:H.get 2=some (.k 71 (aC x))
def EY{te}{x}{e e'}{m}{L}{X}{cs}(d:cq L 0=some (.c te (rc l e)))(a:cq L 1=some (.k 71 iy))(b:cq L 2=some (.k 71 (aC x)))(m3:2<m):
  ab.get ⟨m+1,(m,X)::aH (aH L 0 (.c te (rc l e'))) 2 (.k 71 cs)⟩ 0=some (.c te (rc l e'))/\ab.get ⟨m+1,(m,X)::aH (aH L 0 (.c te (rc l e'))) 2 (.k 71 cs)⟩ 1=some (.k 71 iy)/\ab.get ⟨m+1,(m,X)::aH (aH L 0 (.c te (rc l e'))) 2 (.k 71 cs)⟩ 2=some (.k 71 cs):=by
 refine⟨aj.2 ⟨aa,?_⟩,aj.2 ⟨aa,?_⟩,aj.2 ⟨aa,?_⟩⟩
 ·rw[br,bV,bg,κ aA,bg,ν rfl,d];rfl
 ·rw[br,bV,bg,κ aA,bg,κ aA];exact a
 ·rw[br,bV,bg,ν rfl,bg,κ aA,b];rfl
def YZ{a}{x y}(h:cP l a x=some true)(b:x≠y):cP l a y=some false:=by
 unfold cP at h⊢
 cases hx:l[a]? with
 |none=>rw[hx] at h;cases h
 |some t=>rw[hx] at h;simp only[aEL,Ζ,ap2,aDs] at h⊢;rw[h.2,ξ b,Bool.and_false]
def wz:iy.length=6:=(rfl)
def uW(x):eD iy 0 (aC x)=aC x:=by rw[YH _ _ (by rw[Eu,wz])]
noncomputable def RH:=f277.c.r.r.l.b.b
def UU(I:l.length<=4000){te}{one}(ih:dG l 283 one):
  ∀n x s r α H,sE l one n x s=some r->SI l te x s α H->
   aD (aJ (aO ak RH) α H) λy E H'=>y=.exit 0/\SI l te r.1 r.2 E H'
 |0,x,s,r,α,H,c,C=>by cases c
 |n+1,x,s,r,α,H,c,C=>by
  obtain⟨m,L⟩:=H;obtain⟨a,z⟩:=s;obtain⟨d,g,B,h,o,w,v⟩:=C;obtain⟨D,e⟩:=aj.1 o;obtain⟨N,A⟩:=aj.1 v;obtain⟨ada,F⟩:=aj.1 w;simp only at g e;have u:=aF e;have t:=υ D;have M:RH=.seq (.seq _ _) _:=rfl;rw[aG,M];rw[sE] at c
  cases z with
  |some b=>
   simp at c;subst c;simp only[go_sem,seval,d,u,t,awU];refine⟨aK,?_,?_,?_,?_,o,w,v⟩;all_goals simp[go_sem,d,g,B,h]
  |none=>
   simp at c;obtain⟨p,j,c⟩:=al c
   cases p with
   |false=>
    simp at c;subst c;simp only[go_sem,seval,d,g,u,t,e,ψ,cO (l:=l),aV,j];refine⟨aK,?_,?_,?_,?_,o,w,v⟩;all_goals simp[go_sem,d,g,B,h]
   |true=>
    simp at c;obtain⟨⟨y,i⟩,J,c⟩:=al c;have G:=mO (n:=a) (by have:=uV j;omega);have O:=aY (2<m+1);have K:=aY (m<m+1);have n2:=dw (m=2);have q:=EY (e':=i.bad) (X:=.k 71 (aC y)) (cs:=aC (.mk 18 x.f i.at_ [] 0 [x,y])) e F A N;simp only[go_sem,seval,d,g,h,u,t,e,aF A,A,O,K,n2,ψ,cO (l:=l),aV,j,G,kY rfl rfl ih,J,aZ,eQ,bg,fU];refine UU I ih n (.mk 18 x.f i.at_ [] 0 [x,y]) i r _ _ c ⟨?_,?_,?_,?_,q.1,q.2.1,q.2.2⟩;all_goals simp[go_sem,d,B,h]
def ase(i:l.length<=4000){n}(ih:dG l 283 (R l n .post)):dG l 277 (R l (n+1) .term):=by
 rintro⟨a,e⟩ r h;simp[R] at h;obtain⟨⟨x,o⟩,g,h⟩:=al h;refine fX (c:=.seq _ (.seq _ (.seq (.block 0 (.loop RH)) _))) rfl rfl func277 rfl (by rw[ntmps277];simp) (λte=> ?_) (sG _ _) (kg l _);simp[go_sem,kY rfl rfl ih,aV,g];refine jE ?_;rw[gB];refine aT (UU i ih n x o r _ _ h (te:=te) ⟨?_,?_,?_,?_,rfl,rfl,rfl⟩) ?_
 case refine_5=>
  rintro y ae ⟨m1,L1⟩ ⟨rfl,⟨d0,d,m,t,dp,p,q⟩⟩;refine .inl ⟨.inr rfl,?_⟩;obtain⟨s,k⟩:=aj.1 dp;obtain⟨j,b⟩:=aj.1 p;obtain⟨f,g2⟩:=aj.1 q;simp[go_sem,d,m,t,υ s,υ j,υ f,k,b,aF b,aF g2,wz,uW,bg,fU,results277]
 all_goals simp[go_sem,]
noncomputable def RI:=f274.c.r.r.l.b.b
def MD(J:l.length<=4000){te}{one}(ih:dG l 277 one):
  ∀n x s r α H,pd l one n x s=some r->SI l te x s α H->
   aD (aJ (aO ak RI) α H) λy P H'=>y=.exit 0/\SI l te r.1 r.2 P H'
 |0,x,s,r,α,H,c,I=>by cases c
 |n+1,x,s,r,α,H,c,I=>by
  obtain⟨m,L⟩:=H;obtain⟨a,z⟩:=s;obtain⟨e,j,A,i,B,E,D⟩:=I;obtain⟨O,g⟩:=aj.1 B;obtain⟨M,u⟩:=aj.1 D;obtain⟨ada,F⟩:=aj.1 E;simp only at j g;have w:=aF g;have c2:=aF u;have v:=υ O;have k1:=kY rfl rfl ih;have Q:RI=.seq (.seq _ _) _:=rfl;rw[aG,Q];rw[pd] at c
  cases z with
  |some b=>
   simp at c;subst c;simp only[go_sem,seval,e,w,v,awU];refine⟨aK,?_,?_,?_,?_,B,E,D⟩;all_goals simp[go_sem,e,j,A,i]
  |none=>
   simp at c;obtain⟨p,o,c⟩:=al c;obtain⟨q,t,c⟩:=al c;have N:=aY (2<m+1);have K:=aY (m<m+1);have n2:=dw (m=2);have G:=mO (n:=a) (by have:=uV o;omega)
   cases p with
   |true=>
    simp at t;subst t;simp at c;obtain⟨⟨y,d⟩,C,c⟩:=al c;have h:=EY (e':=d.bad) (X:=.k 71 (aC y)) (cs:=aC (.mk 16 x.f d.at_ [] 0 [x,y])) g F u M;simp only[go_sem,seval,e,j,i,w,v,g,c2,u,N,K,n2,ψ,cO (l:=l),aV,o,(YZ o (y:=[45]) aA),G,k1,C,aZ,eQ,bg,fU];refine MD J ih n (.mk 16 x.f d.at_ [] 0 [x,y]) d r _ _ c ⟨?_,?_,?_,?_,h.1,h.2.1,h.2.2⟩;all_goals simp[go_sem,e,A,i]
   |false=>
    simp at t
    cases q with
    |false=>
     simp at c;subst c;simp only[go_sem,seval,e,j,w,v,g,ψ,cO (l:=l),aV,o,t];refine⟨aK,?_,?_,?_,?_,B,E,D⟩;all_goals simp[go_sem,e,j,A,i]
    |true=>
     simp at c;obtain⟨⟨y,d⟩,C,c⟩:=al c;have h:=EY (e':=d.bad) (X:=.k 71 (aC y)) (cs:=aC (.mk 17 x.f d.at_ [] 0 [x,y])) g F u M;simp only[go_sem,seval,e,j,i,w,v,g,c2,u,N,K,n2,ψ,cO (l:=l),aV,o,t,G,k1,C,aZ,eQ,bg,fU];refine MD J ih n (.mk 17 x.f d.at_ [] 0 [x,y]) d r _ _ c ⟨?_,?_,?_,?_,h.1,h.2.1,h.2.2⟩;all_goals simp[go_sem,e,A,i]
def awL(i:l.length<=4000){n}(ih:dG l 277 (R l n .term)):dG l 274 (R l (n+1) .sum):=by
 rintro⟨a,e⟩ r h;simp[R] at h;obtain⟨⟨x,o⟩,g,h⟩:=al h;refine fX (c:=.seq _ (.seq _ (.seq (.block 0 (.loop RI)) _))) rfl rfl func274 rfl (by rw[ntmps274];simp) (λte=> ?_) (sG _ _) (kg l _);simp[go_sem,kY rfl rfl ih,aV,g];refine jE ?_;rw[gB];refine aT (MD i ih n x o r _ _ h (te:=te) ⟨?_,?_,?_,?_,rfl,rfl,rfl⟩) ?_
 case refine_5=>
  rintro y ae ⟨m1,L1⟩ ⟨rfl,⟨d0,d,m,t,dp,p,q⟩⟩;refine .inl ⟨.inr rfl,?_⟩;obtain⟨s,k⟩:=aj.1 dp;obtain⟨j,b⟩:=aj.1 p;obtain⟨f,g2⟩:=aj.1 q;simp[go_sem,d,m,t,υ s,υ j,υ f,k,b,aF b,aF g2,wz,uW,bg,fU,results274]
 all_goals simp[go_sem,]
def asf(hl:l.length<=4000){n}(ih:dG l 274 (R l n .sum)):dG l 271 (R l (n+1) .expr):=by
 rintro⟨a,e⟩ r h;simp[R] at h;obtain⟨⟨x,⟨a1,t⟩⟩,m,h⟩:=al h;refine fX rfl rfl func271 rfl (by rw[ntmps271];simp) (λte=> ?_) (sG _ _) (kg l _);have k1:=kY rfl rfl ih
 cases t with
 |some b=>simp at h;subst h;simp[go_sem,k1,aV,m,aDg,results271]
 |none=>
  simp at h;obtain⟨p,d,h⟩:=al h;obtain⟨q,c,h⟩:=al h;have s:=mO (n:=a1) (by have:=uV d;omega)
  cases p with
  |true=>simp at c;subst c;simp at h;obtain⟨k,g,h⟩:=al h;have j:=YZ d (y:=[61,61]) aA;rw[j] at g;cases g;obtain⟨⟨y,i⟩,o,h⟩:=al h;simp at h;subst h;simp only[go_sem,seval,k1,aV,m,Ε,cO (l:=l),d,j,s,o,ω,aZ,eQ,results271];exact Λ (λx=>some (x,te,rc l i.bad)) (lX (.mk 14 x.f i.at_ [] 0 [x,y]) _)
  |false=>
   simp at c
   cases q with
   |false=>simp at h;subst h;simp[go_sem,k1,aV,m,Ε,cO (l:=l),d,c,Α,results271]
   |true=>simp at h;obtain⟨k,g,h⟩:=al h;rw[c] at g;cases g;obtain⟨⟨y,i⟩,o,h⟩:=al h;simp at h;subst h;simp only[go_sem,seval,k1,aV,m,Ε,cO (l:=l),d,c,s,o,ω,Α,aZ,eQ,results271];exact Λ (λx=>some (x,te,rc l i.bad)) (lX (.mk 15 x.f i.at_ [] 0 [x,y]) _)
end
end Go.Proofs.YtmehamiifalmaaaGreatDoor
namespace Go.Ab
open Go
def dE{E}{call}{id}{B}{α}{H}{Q:az->ab->Prop}(h:aD (aJ (aP E call aJ B) α H) λy a H'=>y=.exit id/\Q a H'):∃r,aP E call aJ (.loop B) α H=some r/\∃a H',r=(.exit id,a,H')/\Q a H':=by obtain⟨e,a,H',b,c,d⟩:=kf h;subst c;exact⟨(.exit id,a,H'),by rw[gB,b],a,H',rfl,d⟩
end Go.Ab
namespace Go.Proofs.YtmehamiifalmaaaGreatDoor
open Go Go.Ab Go.Proofs.Tryz
set_option maxRecDepth 100000
set_option maxHeartbeats 4000000
section
variable {l:List Tok}
def GU(C:l.length<=4000){te}{one:RS->RR}(ih:dG l 271 one):
  ∀n x s r α H,n<=900000->o_ l one n x s=some r->SI l te x s α H->
   aD (aJ (aO ak JK) α H) λy W H'=>y=.exit 0/\SI l te r.1 r.2 W H'
 |0,x,s,r,α,H,hn,c,hI=>by cases c
 |n+1,x,s,r,α,H,hn,c,hI=>by
  obtain⟨m,L⟩:=H;obtain⟨a,z⟩:=s;obtain⟨d,D,K,e,N,Q,P⟩:=hI;obtain⟨eA,u⟩:=aj.1 N;obtain⟨U,J⟩:=aj.1 P;obtain⟨ada,Z⟩:=aj.1 Q;simp only at D u;have G:=aF u;have c2:=aF J;have I:=υ eA;have R:=υ U;have hB:JK=.seq (.seq _ _) (.block _ (.seq _ (.seq _ (.seq _ (.seq (.block 2 (.loop Fj)) _))))):=rfl;rw[aG,hB];rw[o_] at c
  cases z with
  |some b=>
   simp only[awU,τ,aDf,Ζ] at c;subst c;simp only[go_sem,seval,d,G,I,awU];refine⟨aK,?_,?_,?_,?_,N,Q,P⟩;all_goals simp[go_sem,d,D,K,e]
  |none=>
   simp only[ψ,aDp] at c;obtain⟨p,F,c⟩:=al c;have y2:=aY (2<m+1);have ym:=aY (m<m+1);have n2:=dw (m=2);have T:=mO (n:=a) (by have:=uV F;omega)
   cases p with
   |true=>
    simp only[aDp] at c;obtain⟨y,O,c⟩:=al c;rw[Ez] at O;obtain⟨⟨o1,A⟩,V,O⟩:=al O;cases O
    cases o1 with
    |none=>
     have B:=EY (e':=A.bad) (X:=.k 71 [.i 19,.i x.f,.i 0,.str [],.i 0,.vec .nil []]) (cs:=aC (.mk 19 x.f A.at_ [] 0 [x])) u Z J U;simp only[go_sem,seval,d,D,e,G,I,R,u,c2,J,y2,ym,n2,ψ,cO (l:=l),aV,F,T,iT C,V,dI,dH,aZ,eQ,bg,fU];refine GU C ih n (.mk 19 x.f A.at_ [] 0 [x]) A r _ _ aa c ⟨?_,?_,?_,?_,B.1,B.2.1,B.2.2⟩;all_goals simp[go_sem,d,K,e]
    |some E=>
     have B:=EY (e':=A.bad) (X:=.k 71 [.i 19,.i x.f,.i 0,.str E.1,.i E.2,.vec .nil []]) (cs:=aC (.mk 19 x.f A.at_ E.1 E.2 [x])) u Z J U;simp only[go_sem,seval,d,D,e,G,I,R,u,c2,J,y2,ym,n2,ψ,cO (l:=l),aV,F,T,iT C,V,dI,dH,aZ,eQ,bg,fU];refine GU C ih n (.mk 19 x.f A.at_ E.1 E.2 [x]) A r _ _ aa c ⟨?_,?_,?_,?_,B.1,B.2.1,B.2.2⟩;all_goals simp[go_sem,d,K,e]
   |false=>
    simp only[τ,aDf] at c;obtain⟨q,gI,c⟩:=al c
    cases q with
    |false=>
     simp only[τ,aDf,Ζ] at c;subst c;simp only[go_sem,seval,d,D,G,I,u,ψ,cO (l:=l),aV,F,gI];refine⟨aK,?_,?_,?_,?_,N,Q,P⟩;all_goals simp[go_sem,d,D,K,e]
    |true=>
     simp only[aDp] at c;obtain⟨w,kO,c⟩:=al c;obtain⟨S,bG,c⟩:=al c;simp[go_sem,d,D,e,G,I,R,u,c2,ψ,cO (l:=l),aV,F,gI,T];simp only[cg];refine bL (dE (ag7 C ih kO (te:=te) (H0:=⟨m,L⟩) (v:=.ptr 1 0) (w:=.ptr 2 0) ⟨?_,?_,?_,?_,⟨.full,?_,⟨N,.inr (.inl ⟨rfl,ai⟩),⟨μ _,λj t cs _ h=>h⟩⟩⟩,aX⟩)) ?_
     case refine_6=>
      rintro _ ⟨W,⟨m1,L1⟩,rfl,m0,⟨d0,da,dc,dd,⟨o,dk,M⟩,_⟩⟩;obtain⟨w0,Y⟩:=aj.1 M.p;obtain⟨w1,g1⟩:=aj.1 (M.k.2 1 (some 71) iy aA Q);obtain⟨w2,g2⟩:=aj.1 (M.k.2 2 (some 71) (aC x) aA P);have gV:bX l [41] ⟨w.2.at_,w.2.bad⟩=some S:=bG;simp only[go_sem,seval,d0,da,dd,dk,υ w0,υ w2,Y,g2,aF g2,gC C,aV,gV,aZ,eQ,nQ w.1,sn M.g,bg,fU];refine GU C ih n (.mk 20 x.f S.at_ [] 0 w.1) S r _ _ aa c ⟨?_,?_,?_,?_,aj.2 ⟨w0,?_⟩,aj.2 ⟨w1,?_⟩,aj.2 ⟨w2,?_⟩⟩;case refine_5=>rw[bg,κ aA,bg,ν rfl,Y];rfl
      case refine_6=>rw[bg,κ aA,bg,κ aA];exact g1
      case refine_7=>rw[bg,ν rfl,bg,κ (show ¬(0=2) by decide),g2];rfl
      all_goals simp[go_sem,d0,dc,dd]
     all_goals simp[go_sem,d,K,e]
     rfl
def asg(j:l.length<=4000){n}(t:n<=900000)(ih:dG l 289 (R l n .atom))(d:dG l 271 (R l n .expr)):dG l 283 (R l (n+1) .post):=by
 rintro⟨a,e⟩ r h;simp[R] at h;obtain⟨⟨x,p⟩,i,h⟩:=al h;refine fX (c:=.seq _ (.seq _ (.seq (.block 0 (.loop JK)) _))) rfl rfl func283 rfl (by rw[ntmps283];simp) (λte=> ?_) (sG _ _) (kg l _);simp[go_sem,kY rfl rfl ih,aV,i];refine jE ?_;rw[gB];refine aT (GU j d n x p r _ _ t h (te:=te) ⟨?_,?_,?_,?_,rfl,rfl,rfl⟩) ?_
 case refine_5=>
  rintro y ae ⟨m1,L1⟩ ⟨rfl,⟨d0,f,o,v,dp,q,s⟩⟩;refine .inl ⟨.inr rfl,?_⟩;obtain⟨u,m⟩:=aj.1 dp;obtain⟨k,b⟩:=aj.1 q;obtain⟨g,g2⟩:=aj.1 s;simp[go_sem,f,o,v,υ u,υ k,υ g,m,b,aF b,aF g2,wz,uW,bg,fU,results283]
 all_goals simp[go_sem,]
end
set_option maxRecDepth 100000
set_option maxHeartbeats 4000000
section
variable {l:List Tok}
def w01:IntKind.i64.wrap (0+1)=1:=rfl
def Tj:IntKind.i64.wrap (1+1)=2:=rfl
def w23:IntKind.i64.wrap (2+1)=3:=rfl
def aAC:IntKind.i64.wrap (29+0)=29:=rfl
def aAD:IntKind.i64.wrap (29+1)=30:=rfl
def aAE:IntKind.i64.wrap (29+2)=31:=rfl
def l03:decide ((0:Int)<3)=true:=rfl
def l13:decide ((1:Int)<3)=true:=rfl
def l23:decide ((2:Int)<3)=true:=rfl
def l33:decide ((3:Int)<3)=false:=rfl
def aAF(a b c)(H):dS prog 66 3 [(0,.str a),(1,.str b),(2,.str c)] H=some (.vec .full [.str a,.str b,.str c],H):=by simp[dS,Al,lM,aau,mH,fF,lZ,aao,AV.width,AV.cells,eE,AV.one]
def aaz(a b c):dC prog 66 (.vec .full [.str a,.str b,.str c]) (.i 0)=some (.rptr [.str a]):=by simp[dC,Al,lM,AV.width,AV.cells]
def aaA(a b c):dC prog 66 (.vec .full [.str a,.str b,.str c]) (.i 1)=some (.rptr [.str b]):=by simp[dC,Al,lM,AV.width,AV.cells]
def aaB(a b c):dC prog 66 (.vec .full [.str a,.str b,.str c]) (.i 2)=some (.rptr [.str c]):=by simp[dC,Al,lM,AV.width,AV.cells]
noncomputable def IE:=f262.c.r.r.r.r.l.r.b.b
def ag9(k):R l (k+1) .field=λs=>bn (iF l (.mk 33 s.at_ 0 [] 0 []) s) λx=>bn (bX l [58] x.2) λa=>bn (R l k .kind a) λt=>some (ended x.1 t.2.at_ [t.1],t.2):=by funext s;simp[R]
def PlP(l:List Tok)(te:Option TypeId)(a:Nat)(b:Bool)(e:Ex)(d:az)(H':ab):Prop:=
   (∃k,((k=29/\b=true)\/(k=30/\b=false/\cP l a [115,116,114]=some true)\/(k=31/\b=false/\cP l a [115,116,114]=some false/\cP l a [100,121,110]=some true))/\(e=.ret/\H'=⟨2,[(1,.k 71 (aC (.mk k a (a+1) [] 0 []))),(0,.c te (rc l none))]⟩)/\d 4=.ptr 1 0/\d 5=.i (a+1:Nat))\/
   ((b=false/\cP l a [115,116,114]=some false/\cP l a [100,121,110]=some false)/\(e=.exit 0/\H'=⟨2,[(1,.k 71 iy),(0,.c te (rc l none))]⟩)/\d 0=.ptr 0 0/\d 1=.i a/\d 4=.ptr 1 0/\d 6=.i a)
def af5(hl:l.length<=4000){te}{a:Nat}{b:Bool}(p:cP l a [105,110,116]=some b){α:az}(a0:α 0=.ptr 0 0)(a1:α 1=.i a)(a4:α 4=.ptr 1 0)(a6:α 6=.i a)(a7:α 7=.vec .full [.str [105,110,116],.str [115,116,114],.str [100,121,110]])(a8:α 8=.i 0)
  (v:b=false->∃c,cP l a [115,116,114]=some c/\(c=false->∃d,cP l a [100,121,110]=some d)):
  ∃r,aP ak (run ak) aJ (.loop IE) α ⟨2,[(1,.k 71 iy),(0,.c te (rc l none))]⟩=some r/\
   ((∃k f,((k=29/\b=true)\/(k=30/\b=false/\cP l a [115,116,114]=some true)\/(k=31/\b=false/\cP l a [115,116,114]=some false/\cP l a [100,121,110]=some true))/\r=(.ret,f,⟨2,[(1,.k 71 (aC (.mk k a (a+1) [] 0 []))),(0,.c te (rc l none))]⟩)/\f 4=.ptr 1 0/\f 5=.i (a+1:Nat))\/
    (∃f,(b=false/\cP l a [115,116,114]=some false/\cP l a [100,121,110]=some false)/\r=(.exit 0,f,⟨2,[(1,.k 71 iy),(0,.c te (rc l none))]⟩)/\f 0=.ptr 0 0/\f 1=.i a/\f 4=.ptr 1 0/\f 6=.i a)):=by
 suffices hh:aD (aJ (aP ak (run ak) aJ IE) α ⟨2,[(1,.k 71 iy),(0,.c te (rc l none))]⟩) λe f H'=>
   PlP l te a b e f H' by
  obtain⟨e,f,H',u,w⟩:=kf hh;refine⟨(e,f,H'),by rw[gB];exact u,?_⟩;rcases w with⟨k,m,⟨rfl,rfl⟩,o,g⟩|⟨m,⟨rfl,rfl⟩,s,x,q,t⟩
  ·exact .inl ⟨k,f,m,rfl,o,g⟩
  ·exact .inr ⟨f,m,rfl,s,x,q,t⟩
 have j:=mO (n:=a) (by have:=uV p;omega);have y:IE=.seq (.seq _ _) _:=rfl;rw[aG,y]
 cases b with
 |true=>
  simp only[go_sem,↓reduceIte,Nat.reduceEqDiff,Nat.reduceAdd,Nat.reduceLT,Nat.reduceLeDiff,ne_eq,reduceCtorEq,aDX,aFB,Ι,Χ,a0,a1,a4,a6,a7,a8,l03,aAC,j,aaz,cO (l:=l),aV,p,aZ];refine .inl ⟨29,.inl ⟨rfl,rfl⟩,⟨rfl,rfl⟩,?_,?_⟩;all_goals simp only[go_sem,↓reduceIte,Nat.reduceEqDiff,a4]
 |false=>
  obtain⟨c,h,o⟩:=v rfl;simp only[go_sem,↓reduceIte,Nat.reduceEqDiff,Nat.reduceLT,reduceCtorEq,a0,a6,a7,a8,l03,w01,aaz,cO (l:=l),aV,p];rw[aG]
  cases c with
  |true=>
   simp only[go_sem,↓reduceIte,Nat.reduceEqDiff,Nat.reduceAdd,Nat.reduceLT,Nat.reduceLeDiff,ne_eq,reduceCtorEq,aDX,aFB,Ι,Χ,a0,a1,a4,a6,a7,l13,aAD,j,aaA,cO (l:=l),aV,h,aZ];refine .inl ⟨30,.inr (.inl ⟨rfl,rfl,h⟩),⟨rfl,rfl⟩,?_,?_⟩;all_goals simp only[go_sem,↓reduceIte,Nat.reduceEqDiff,a4]
  |false=>
   obtain⟨d,g⟩:=o rfl;simp only[go_sem,↓reduceIte,Nat.reduceEqDiff,Nat.reduceLT,reduceCtorEq,a0,a6,a7,l13,Tj,aaA,cO (l:=l),aV,h];rw[aG]
   cases d with
   |true=>
    simp only[go_sem,↓reduceIte,Nat.reduceEqDiff,Nat.reduceAdd,Nat.reduceLT,Nat.reduceLeDiff,ne_eq,reduceCtorEq,aDX,aFB,Ι,Χ,a0,a1,a4,a6,a7,l23,aAE,j,aaB,cO (l:=l),aV,g,aZ];refine .inl ⟨31,.inr (.inr ⟨rfl,rfl,h,g⟩),⟨rfl,rfl⟩,?_,?_⟩;all_goals simp only[go_sem,↓reduceIte,Nat.reduceEqDiff,a4]
   |false=>
    simp only[go_sem,↓reduceIte,Nat.reduceEqDiff,Nat.reduceLT,reduceCtorEq,a0,a6,a7,l23,w23,aaB,cO (l:=l),aV,g];rw[aG];simp only[go_sem,↓reduceIte,l33];refine .inr ⟨⟨rfl,h,g⟩,⟨rfl,rfl⟩,?_,?_,?_,?_⟩;all_goals simp only[go_sem,↓reduceIte,Nat.reduceEqDiff,reduceCtorEq,a0,a1,a4,a6]
end
set_option maxRecDepth 100000
set_option maxHeartbeats 4000000
section
variable {l:List Tok}
def aha(hl:l.length<=4000){n}{s}{q}(a:jw l (R l n .field) [125] 0 n [] s=some q):∃k,n=k+1:=by
 cases n with
 |zero=>cases a
 |succ k=>exact⟨k,rfl⟩
def UW{one}{e}{first}:∀{n:Nat} {ks:List Nd} {s:RS} {r:List Nd×RS},jw l one e first n ks s=some r->r.1.length<=ks.length+n
 |0,ks,s,r,h=>by cases h
 |n+1,ks,s,r,h=>by
  rw[jw] at h;split at h
  ·obtain⟨b,hb,h⟩:=al h
   cases b with
   |true=>simp at h;subst h;simp
   |false=>
    simp at h;obtain⟨x,hx,h⟩:=al h;obtain⟨c,hc,h⟩:=al h
    cases c with
    |true=>simp at h;subst h;simp only[χ,aD5];omega
    |false=>simp at h;obtain⟨s2,bG,h⟩:=al h;have:=UW h;simp at this;omega
  ·cases h;simp
def ash(u:l.length<=4000){n}(hn:n<=900000)(ih:∀k,k<=n->dG l 262 (R l k .kind)):dG l 262 (R l (n+1) .kind):=by
 rintro⟨a,e⟩ r h;simp only[R] at h;refine fX (c:=.seq _ (.seq _ (.seq _ (.seq _ (.seq (.seq _ (.block 0 (.loop IE))) (.seq _ (.seq (.seq _ (.cond _ (.seq _ (.seq (.block 2 (.loop FD)) _)) _)) (.seq _ (.seq _ (.seq (.block 4 (.loop Gg)) _)))))))))) af rfl func262 rfl (by rw[ntmps262];simp) (λte=> ?_) (sG _ _) (kg l _)
 cases e with
 |some b=>simp only[awU,τ,aDf,Ζ] at h;subst h;simp[go_sem,aDg,aZ,results262];rfl
 |none=>
  simp only[ψ,aDp] at h;obtain⟨b,hb,h⟩:=al h;have hw:=mO (n:=a) (by have:=uV hb;omega);simp[go_sem,Ε,aAF];simp only[cg];refine bL (af5 u hb (te:=te) ?_ ?_ ?_ ?_ ?_ ?_ ?_) ?_
  case refine_7=>
   rintro rfl;simp only[τ,aDf] at h;obtain⟨c,E,h⟩:=al h;refine⟨c,E,?_⟩;rintro rfl;simp only[τ,aDf] at h;obtain⟨d,hd,h⟩:=al h;exact⟨d,hd⟩
  case refine_8=>
   rintro _ (⟨k,ae,hk,rfl,D,q5⟩|⟨ae,⟨rfl,B,S⟩,rfl,C,q1,D,Y⟩)
   ·have hr:r=(.mk k a (a+1) [] 0 [],⟨a+1,none⟩):=by
     rcases hk with⟨rfl,rfl⟩|⟨rfl,rfl,B⟩|⟨rfl,rfl,B,S⟩
     ·simp only[aDp,Ζ] at h;exact h.symm
     ·simp only[B,fx,τ,aDf,aDp,Ζ] at h;exact h.symm
     ·simp only[B,S,fx,τ,aDf,aDp,Ζ] at h;exact h.symm
    subst hr;simp[go_sem,D,q5,results262]
   ·simp only[τ,aDf,B,S,fx] at h;obtain⟨c,E,h⟩:=al h
    cases c with
    |true=>
     simp only[aDp] at h;obtain⟨q,A,h⟩:=al h;obtain⟨f,J,h⟩:=al h;cases h;obtain⟨k,rfl⟩:=aha u A;rw[ag9] at A;simp[go_sem,C,Y,cO (l:=l),aV,E,hw];simp only[cg];refine bL (dE (aiT u (ih k aa) A (te:=te) (H0:=⟨2,[(1,.k 71 iy),(0,.c te (rc l none))]⟩) (v:=.i a) (w:=.ptr 1 0) ⟨?_,?_,?_,?_,⟨.nil,?_,⟨rfl,.inl ⟨rfl,rfl⟩,⟨μ _,λj t cs _ h=>h⟩⟩⟩,aX⟩)) ?_
     case refine_6=>
      rintro _ ⟨nZ,⟨m1,W⟩,rfl,m0,⟨d0,L,I,U,⟨o,Q,s⟩,_⟩⟩;obtain⟨T,N⟩:=aj.1 s.p;obtain⟨z1,g1⟩:=aj.1 (s.k.2 1 (some 71) iy aA rfl);have O:=aF g1;have M:=υ T;have P:=nQ q.1;have K:bX l [125] ⟨q.2.at_,q.2.bad⟩=some f:=J;simp only[go_sem,seval,d0,L,I,U,Q,M,υ z1,N,g1,O,wz,gC u,aV,K,aZ,eQ,P,sn s.g,bg,fU,results262];exact Λ (λx=>some (x,te,rc l f.bad)) (lX (.mk 32 a f.at_ [] 0 q.1) _)
     all_goals simp[go_sem,C,q1,D]
     rfl
    |false=>
     simp only[τ,aDf] at h;obtain⟨s1,cK,h⟩:=al h;obtain⟨f,J,h⟩:=al h;obtain⟨q,A,h⟩:=al h;obtain⟨V,S8,h⟩:=al h;obtain⟨F,S9,h⟩:=al h;obtain⟨⟨y,z⟩,hy,h⟩:=al h;cases h;have K:bX l [40] ⟨s1.at_,s1.bad⟩=some f:=J;simp[go_sem,C,Y,cO (l:=l),aV,E,gC u,cK,K];simp only[cg];refine bL (dE (amw u (ih n (μ n)) A (te:=te) (H0:=⟨2,[(1,.k 71 iy),(0,.c te (rc l f.bad))]⟩) (v:=.i a) (w:=.ptr 1 0) ⟨?_,?_,?_,?_,⟨.nil,?_,⟨rfl,.inl ⟨rfl,rfl⟩,⟨μ _,λj t cs _ h=>h⟩⟩⟩,aX⟩)) ?_
     case refine_6=>
      rintro _ ⟨nZ,⟨m1,W⟩,rfl,m0,⟨d0,L,I,U,⟨o,Q,s⟩,_⟩⟩;obtain⟨T,N⟩:=aj.1 s.p;have M:=υ T;have X:bX l [41] ⟨q.2.at_,q.2.bad⟩=some V:=S8;have G:bX l [58] ⟨V.at_,V.bad⟩=some F:=S9;have vF:R l n .kind ⟨F.at_,F.bad⟩=some (y,z):=hy;have Fy:=UW A;have Bc:j8 l te ⟨2,[(1,.k 71 iy),(0,.c te (rc l f.bad))]⟩ o q.1 z.bad (ab.push ⟨m1,aH W 0 (.c te (rc l z.bad))⟩ (.k 71 (aC y))):=(s.up (Up.set s.p)).push _;obtain⟨j,⟨m2,L2⟩,e2,p2,p3,_⟩:=BP tC (m:=λ_=>false) rfl (o:=o) (o2:=.full) (es:=bA q.1) (xs:=[aB y]) (H:=⟨m1+1,(m1,.k 71 (aC y))::aH W 0 (.c te (rc l z.bad))⟩) (by rw[cz];exact Bc.g) (qv q.1) (cB.one y) ai (by rw[cz];simp at Fy⊢;omega) (by rw[cz];simp at Fy⊢;omega);have cD:j8 l te ⟨2,[(1,.k 71 iy),(0,.c te (rc l f.bad))]⟩ (.own j) (q.1++[y]) z.bad ⟨m2,L2⟩:=j8.app Bc p3 (by simpa[cz] using p2);obtain⟨x0,f0⟩:=aj.1 cD.p;obtain⟨x1,Z⟩:=aj.1 (cD.k.2 1 (some 71) iy aA rfl);have O:=aF Z;have ym:=aY (m1<m1+1);have es:bA q.1++[aB y]=bA (q.1++[y]):=by rw[tu];rfl
      have P:=nQ (q.1++[y]);have aL:(q.1++[y])≠[]:=ai;simp only[go_sem,seval,d0,L,I,U,Q,M,υ x0,υ x1,ym,N,f0,Z,O,wz,gC u,aV,X,G,(kY af af (ih n (μ n))),vF,gh,aZ,cQ,e2,es,eQ,P,bg,fU,results262];rw[Qh _ (q.1++[y]) rfl aL];exact Λ (λx=>some (x,te,rc l z.bad)) (lX (.mk 34 a z.at_ [] 0 (q.1++[y])) _)
     all_goals simp[go_sem,C,q1,D]
     rfl
  all_goals simp[go_sem,]
end
set_option maxRecDepth 100000
set_option maxHeartbeats 8000000
section
variable {l:List Tok}
def ahb(k):R l (k+1) .entry=λs=>bn (iF l (.mk 27 s.at_ 0 [] 0 []) s) λx=>bn (bX l [58] x.2) λa=>bn (R l k .expr a) λt=>some (ended x.1 t.2.at_ [t.1],t.2):=by funext s;simp[R]
def aff{n}{s}{q}(a:jw l (R l n .entry) [125] 0 n [] s=some q):∃k,n=k+1:=by
 cases n with
 |zero=>cases a
 |succ k=>exact⟨k,rfl⟩
def asi(D:l.length<=4000){n}(hn:n<=900000)(ih:∀k,k<=n->dG l 271 (R l k .expr))(im:KT l 231 (vr l n)):dG l 289 (R l (n+1) .atom):=by
 rintro⟨a,e⟩ r h;simp only[R] at h;refine fX (c:=.seq _ (.seq _ (.seq _ (.seq _ (.seq _ (.seq _ (.seq _ (.seq _ (.seq _ (.seq (.seq _ (.cond _ (.seq _ (.seq _ (.seq (.block 1 (.loop EX)) _))) _)) _)))))))))) af rfl func289 rfl (by rw[ntmps289];simp) (λte=> ?_) (sG _ _) (kg l _)
 cases e with
 |some b=>simp only[awU,τ,aDf,Ζ] at h;subst h;simp[go_sem,aDg,aZ,results289];rfl
 |none=>
  simp only[ψ,aDp] at h;obtain⟨t,N,h⟩:=al h;have aN:=(ο.1 N).1;have A:=mO (n:=a) aa;have B:=uz N;obtain⟨k,p0,q0,y⟩:=t;have m:((k:Int)==3)=decide (k=3):=ez k 3;have s:((k:Int)==4)=decide (k=4):=ez k 4;have f:((k:Int)==1)=decide (k=1):=ez k 1;simp only at h;by_cases F:k=3
  ·rw[π F] at m;simp only[F,aDp,Ζ] at h;subst h;simp[go_sem,Ε,A,B,m,aZ,results289];rfl
  rw[ξ F] at m;simp only[F,aDf] at h;by_cases G:k=4
  ·rw[π G] at s;simp only[G,aDp,Ζ] at h;subst h;simp[go_sem,Ε,A,B,m,s,aZ,results289];rfl
  rw[ξ G] at s;simp only[G,aDf] at h;by_cases E:k=1
  ·rw[π E] at f;simp only[E,aDp,Ζ] at h;subst h;simp[go_sem,Ε,A,B,m,s,f,aZ,results289];rfl
  rw[ξ E] at f;simp only[E,aDf] at h;obtain⟨b,hb,h⟩:=al h
  cases b with
  |true=>simp only[aDp,Ζ] at h;subst h;simp[go_sem,Ε,A,B,m,s,f,cO (l:=l),aV,hb,aZ,results289];rfl
  |false=>
  simp only[τ,aDf] at h;obtain⟨c,L,h⟩:=al h
  cases c with
  |true=>simp only[aDp] at h;obtain⟨⟨x,C⟩,Z,h⟩:=al h;obtain⟨z,H,h⟩:=al h;cases h;have I:bX l [41] ⟨C.at_,C.bad⟩=some z:=H;simp only[go_sem,seval,Ε,A,B,m,s,f,cO (l:=l),gC D,aV,hb,L,(kY af af (ih n (μ n))),Z,I,aZ,eQ,results289];exact Λ (λx=>some (x,te,rc l z.bad)) (lX (.mk 25 a z.at_ [] 0 [x]) _)
  |false=>
  simp only[τ,aDf] at h;obtain⟨d,M,h⟩:=al h
  cases d with
  |true=>
   simp only[aDp] at h;obtain⟨q,J,h⟩:=al h;obtain⟨z,H,h⟩:=al h;cases h;obtain⟨W,rfl⟩:=aff J;rw[ahb] at J;simp[go_sem,Ε,A,B,m,s,f,cO (l:=l),aV,hb,L,M,aZ];simp only[cg];refine bL (dE (af3 D (ih W aa) J (te:=te) (v:=.i a) (w:=.ptr 1 0) ⟨?_,?_,?_,?_,⟨.nil,?_,⟨rfl,.inl ⟨rfl,rfl⟩,⟨μ _,λj t cs _ h=>h⟩⟩⟩,aX⟩)) ?_
   case refine_6=>
    rintro _ ⟨nZ,⟨m1,L1⟩,rfl,m0,⟨d0,T,P,dd,⟨o,X,K⟩,_⟩⟩;obtain⟨z0,V⟩:=aj.1 K.p;obtain⟨U,O⟩:=aj.1 (K.k.2 1 (some 71) iy aA rfl);have f:=aF O;have I:bX l [125] ⟨q.2.at_,q.2.bad⟩=some z:=H;simp only[go_sem,seval,d0,T,P,dd,X,υ z0,υ U,V,O,f,wz,gC D,aV,I,aZ,eQ,nQ q.1,sn K.g,bg,fU,results289];exact Λ (λx=>some (x,te,rc l z.bad)) (lX (.mk 26 a z.at_ [] 0 q.1) _)
   all_goals simp[go_sem,]
   rfl
  |false=>
   simp only[τ,aDf] at h;obtain⟨C,Q,h⟩:=al h;obtain⟨u,Y,h⟩:=al h;obtain⟨v,hv,h⟩:=al h;obtain⟨w,S,h⟩:=al h;cases h
   have wY:vr l n ⟨C.at_,C.bad⟩=some ((u.1,v.1,w.1),w.2):=by
    have:vr l n C=some ((u.1,v.1,w.1),w.2):=by simp only[vr,Y,hv,S,fx]
    exact this
   simp only[go_sem,seval,Ε,A,B,m,s,f,cO (l:=l),gC D,aV,hb,L,M,Q,(aay af af im),wY,aZ,eQ,results289];exact Λ (λx=>some (x,te,rc l w.2.bad)) (lX (.mk 28 a w.2.at_ [] 0 [u.1,v.1,w.1]) _)
end
set_option maxRecDepth 100000
set_option maxHeartbeats 8000000
def amy:ef (.vec .nil []) (.vec .nil [])=true:=by simp[ef,xX,iV]
mutual
def Qj(n):ef (aB n) (aB n)=true:=by
 match n with
 | .mk k f t w a ks=>
  have h:=Pl ks;have h2:ef (.vec (if ks.isEmpty then .nil else .ro) (bA ks)) (.vec (if ks.isEmpty then .nil else .ro) (bA ks))=true:=by cases ks<;>simp_all [ef,xX]
  rw[aB,Ix,qw,qw,qw,qw,qw,qw,Ah,Ah,Ah,Iw,Ah,h2,O2];rfl
def Pl(l):iV (bA l) (bA l)=true:=by
 match l with
 |[]=>simp[bA,iV]
 |n::r=>rw[bA,qw,Qj n,Pl r];rfl
end
def awM:ak.cl 201=true:=af
attribute [go_sem] amy Qj awM
section
variable {l:List Tok}
noncomputable def RJ:=f263.c.r.r.r.r.r.r
def yp(U:l.length<=4000){n}(ih:dG l 271 (R l n .expr)){te tn}{α}{H:ab}{o}{ks:List Nd}{s a:RS}{x}{kd f pl:Nat}{w:List UInt8}
  (D:α 0=.ptr 0 0) (J:α 4=.ptr 1 0) (h6:α 6=.ptr 2 0) (N:α 7=.i s.at_) (T:α 8=.vec o (bA ks)) (hg:bY H 71 o ks.length) (hk:ks.length<=5) (u:H.get 0=some (.c te (rc l s.bad))) (V:H.get 1=some (.k 71 iy))
  (z:H.get 2=some (.cells tn [.i kd,.i f,.i 0,.str w,.i pl,.vec .nil []])) (Y:R l n .expr s=some x) (X:bX l [59] x.2=some a):
  aD (aO ak RJ α H) λe K H'=>yz (finish prog [.cell 4 71,.tmp 5] (e,K,H'))=some (.tup [aB (.mk kd f a.at_ w pl (ks++[x.1])),.i a.at_],te,rc l a.bad):=by
 obtain⟨m,L⟩:=H;obtain⟨y,d⟩:=x;obtain⟨E,C⟩:=aj.1 u;obtain⟨rQ,de⟩:=aj.1 z;have y0:=aY (0<m+1);have y2:=aY (2<m+1);have ym:=aY (m<m+1);have P:=dw (m=0);have n2:=dw (m=2);have W:R l n .expr ⟨s.at_,s.bad⟩=some (y,d):=Y;have G:bX l [59] ⟨d.at_,d.bad⟩=some a:=X;have v:j8 l te ⟨m,L⟩ o ks s.bad ⟨m,L⟩:=⟨u,hg,⟨μ _,λj t cs _ h=>h⟩⟩;have A:j8 l te ⟨m,L⟩ o ks a.bad ⟨m+1,(m,.k 71 (aC y))::aH L 0 (.c te (rc l a.bad))⟩:=(v.up (Up.set v.p)).push _;obtain⟨j,⟨B,L2⟩,S,p2,p3,_⟩:=BP tC (m:=λ_=>false) rfl (o:=o) (o2:=.full) (es:=bA ks) (xs:=[aB y]) (H:=⟨m+1,(m,.k 71 (aC y))::aH L 0 (.c te (rc l a.bad))⟩) (by rw[cz];exact A.g) (qv ks) (cB.one y) ai (by rw[cz];simp;omega) (by rw[cz];simp;omega);have q:j8 l te ⟨m,L⟩ (.own j) (ks++[y]) a.bad ⟨B,L2⟩:=j8.app A p3 (by simpa[cz] using p2);obtain⟨Z,f0⟩:=aj.1 q.p;obtain⟨M,r⟩:=aj.1 (q.k.2 1 (some 71) iy aA V);obtain⟨I,f2⟩:=aj.1 (q.k.2 2 tn _ aA z);obtain⟨Q,O⟩:=aj.1 (p3.2 m (some 71) (aC y) (aj.2 ⟨aa,by rw[br,ν rfl]⟩));have b:=dw (1=m);have es:bA ks++[aB y]=bA (ks++[y]):=by rw[tu];rfl
 have F:(ks++[y])≠[]:=ai;have hB:RJ=.seq _ (.seq _ (.seq _ _)):=rfl;rw[hB];simp only[go_sem,seval,D,J,h6,N,T,υ E,C,aF de,kY rfl rfl ih,aV,W,y0,y2,ym,P,n2,gC U,G,gh,cQ,S,υ Z,υ M,υ I,υ Q,b,f0,r,aF r,aF f2,aF O,es,eQ,nQ (ks++[y]),wz,bg,fU];rw[Qh _ (ks++[y]) rfl F];exact Λ (λx=>some (x,te,rc l a.bad)) (lX (.mk kd f a.at_ w pl (ks++[y])) _)
end
set_option maxRecDepth 100000
set_option maxHeartbeats 8000000
section
variable {l:List Tok}
def awN{s:RS}{q}(h:rW l s=some q):q.2.at_<=s.at_+1:=by
 unfold rW at h;split at h
 ·obtain⟨t,ht,h⟩:=al h;cases h;split<;>simp
 ·cases h;simp
def Ee{k f a}{s}{x}(h:iF l (.mk k f 0 [] a []) s=some x):∃o b,rW l s=some (o,b)/\x=(eY (.mk k f 0 [] a []) o,b):=by rw[Ez] at h;obtain⟨⟨o,b⟩,d,c⟩:=al h;simp at c;exact⟨o,b,d,c.symm⟩
def asj(f:l.length<=4000){n}(v:dG l 271 (R l n .expr))(ib:dG l 249 (R l n .block))(it:dG l 248 (R l n .typed)):dG l 263 (R l (n+1) .stmt):=by
 rintro⟨a,e⟩ r h;simp[R] at h;refine fX (c:=.seq _ (.seq _ (.seq _ (.seq _ (.seq _ (.seq _ RJ)))))) rfl rfl func263 rfl (by rw[ntmps263];simp) (λte=> ?_) (sG _ _) (kg l _);have k1:=kY rfl rfl v;have k2:=kY rfl rfl ib;have S:=kY rfl rfl it;obtain⟨i,hi,h⟩:=al h;obtain⟨w,d,h⟩:=al h;have aN:=uV hi;have j:=mO (n:=a) aa
 cases w with
 |true=>
  simp at h;obtain⟨⟨c,⟨ca,cb⟩⟩,N,h⟩:=al h;obtain⟨⟨b,⟨L,Q⟩⟩,hb,h⟩:=al h
  cases i with
  |true=>
   simp at h d;obtain⟨el,D,h⟩:=al h;have X:=λH:ab=>Mm tC (m:=λ_=>false) rfl (H:=H) (o2:=.full) (qv [c,b]) (cB.one eG) ai (by rw[cz];simp) (by rw[cz];simp);have G:AV.agg [.i 0,.i 0,.i 0,.str [],.i 0,.vec .nil []]=aB eG:=rfl
   cases Q with
   |some y=>simp[wV] at D;subst D;simp at h;subst h;have A:∀H:ab,cj (λ_=>false) prog 69 69 (.vec .full [aB c,aB b]) (.vec .full [aB eG]) H=some (.vec (.own H.next) [aB c,aB b,aB eG],H.push (.bB 3 71)):=X;simp only[go_sem,seval,cO (l:=l),aV,hi,j,k1,N,k2,hb,aZ,G,awU,cQ,A,eQ,results263];exact Λ (λx=>some (x,te,rc l (some y))) (lX (.mk 9 a L [] 0 [c,b,eG]) _)
   |none=>
    simp[wV] at D;have I:=mO (n:=L) (by have:=uV D;omega)
    cases el with
    |false=>simp at h;subst h;have A:∀H:ab,cj (λ_=>false) prog 69 69 (.vec .full [aB c,aB b]) (.vec .full [aB eG]) H=some (.vec (.own H.next) [aB c,aB b,aB eG],H.push (.bB 3 71)):=X;simp only[go_sem,seval,cO (l:=l),aV,hi,j,k1,N,k2,hb,aZ,G,ψ,D,cQ,A,eQ,results263];exact Λ (λx=>some (x,te,rc l none)) (lX (.mk 9 a L [] 0 [c,b,eG]) _)
    |true=>simp at h;obtain⟨⟨o,W⟩,Z,h⟩:=al h;cases h;have O:=λH:ab=>Mm tC (m:=λ_=>false) rfl (H:=H) (o2:=.full) (qv [c,b]) (cB.one o) ai (by rw[cz];simp) (by rw[cz];simp);have A:∀H:ab,cj (λ_=>false) prog 69 69 (.vec .full [aB c,aB b]) (.vec .full [aB o]) H=some (.vec (.own H.next) [aB c,aB b,aB o],H.push (.bB 3 71)):=O;simp only[go_sem,seval,cO (l:=l),aV,hi,j,I,k1,N,k2,hb,Z,aZ,ψ,D,cQ,A,eQ,results263];exact Λ (λx=>some (x,te,rc l W.bad)) (lX (.mk 9 a W.at_ [] 0 [c,b,o]) _)
  |false=>simp at h d;cases h;simp only[go_sem,seval,cO (l:=l),aV,hi,d,j,k1,N,k2,hb,aZ,eQ,results263];exact Λ (λx=>some (x,te,rc l Q)) (lX (.mk 10 a L [] 0 [c,b]) _)
 |false=>
  have mu:i=false:=by
   cases i with
   |false=>rfl
   |true=>simp only[aDp,Ζ] at d;cases d
  subst mu;simp at h d;obtain⟨b,hb,h⟩:=al h
  cases b with
  |true=>
   simp at h;obtain⟨x,k,h⟩:=al h;obtain⟨t,J,h⟩:=al h;obtain⟨s1,Y,h⟩:=al h;obtain⟨p,u,h⟩:=al h;obtain⟨K,g,h⟩:=al h;cases h;obtain⟨o,s0,z,rfl⟩:=Ee k;simp only at J;have V:R l n .typed ⟨s0.at_,s0.bad⟩=some t:=J;have U:bX l [61] ⟨t.2.at_,t.2.bad⟩=some s1:=Y;have O:=λH:ab=>append_nil tC (m:=λ_=>false) rfl (H:=H) (o2:=.full) (cB.one t.1) ai ai ai;have A:∀H:ab,cj (λ_=>false) prog 69 69 (.vec .nil []) (.vec .full [aB t.1]) H=some (.vec (.own H.next) [aB t.1],H.push (.bB 1 71)):=O
   cases o with
   |none=>
    simp only[go_sem,seval,cO (l:=l),aV,hi,d,hb,j,iT f,z,dI,dH,S,V,gC f,U,aZ,cQ,A,results263];refine aT (yp f v (ks:=[t.1]) (kd:=7) (w:=[]) (pl:=0) ?_ ?_ ?_ ?_ ?_ (.inr (.inr ⟨ai,4,rfl,rfl⟩)) ai rfl rfl rfl u g) (λ_ _ _ h=>h);all_goals simp[go_sem,]
    all_goals rfl
   |some F=>
    simp only[go_sem,seval,cO (l:=l),aV,hi,d,hb,j,iT f,z,dI,dH,S,V,gC f,U,aZ,cQ,A,results263];refine aT (yp f v (ks:=[t.1]) (kd:=7) (w:=F.1) (pl:=F.2) ?_ ?_ ?_ ?_ ?_ (.inr (.inr ⟨ai,4,rfl,rfl⟩)) ai rfl rfl rfl u g) (λ_ _ _ h=>h);all_goals simp[go_sem,]
    all_goals rfl
  |false=>
   simp at h;obtain⟨p,u,h⟩:=al h
   cases p with
   |true=>
    simp at h;obtain⟨x,k,h⟩:=al h;obtain⟨K,g,h⟩:=al h;cases h;simp[go_sem,cO (l:=l),aV,hi,d,hb,u,j,aZ,results263];refine aT (yp f v (ks:=[]) (kd:=11) (w:=[]) (pl:=0) ?_ ?_ ?_ ?_ ?_ (.inl ⟨rfl,rfl⟩) ai rfl rfl rfl k g) (λ_ _ _ h=>h);all_goals simp[go_sem,]
    all_goals rfl
   |false=>
    simp at h;obtain⟨q,z,h⟩:=al h
    cases q with
    |true=>
     simp at h;obtain⟨x,k,h⟩:=al h;obtain⟨K,g,h⟩:=al h;cases h;simp[go_sem,cO (l:=l),aV,hi,d,hb,u,z,j,aZ,results263];refine aT (yp f v (ks:=[]) (kd:=12) (w:=[]) (pl:=0) ?_ ?_ ?_ ?_ ?_ (.inl ⟨rfl,rfl⟩) ai rfl rfl rfl k g) (λ_ _ _ h=>h);all_goals simp[go_sem,]
     all_goals rfl
    |false=>
     simp at h;obtain⟨t,J,h⟩:=al h;have M:=uz J;have B:((t.1:Int)==1)=decide (t.1=1):=ez t.1 1;obtain⟨b2,C,h⟩:=al h
     cases b2 with
     |true=>
      have E:t.1=1:=by
       by_cases T:t.1=1
       ·exact T
       ·rw[κ T] at C;cases C
      rw[ν E] at C;rw[π E] at B;simp at h;obtain⟨y,hy,h⟩:=al h;obtain⟨o,s0,P,rfl⟩:=Ee hy;obtain⟨x,k,h⟩:=al h;obtain⟨K,g,h⟩:=al h;cases h;have I:=mO (n:=s0.at_) (by have:=awN P;simp only at this;omega)
      cases o with
      |none=>
       simp only[go_sem,seval,cO (l:=l),aV,hi,d,hb,u,z,M,B,C,j,I,iT f,P,dI,dH,aZ,results263];refine aT (yp f v (s:=⟨s0.at_+1,s0.bad⟩) (ks:=[]) (kd:=8) (w:=[]) (pl:=0) ?_ ?_ ?_ ?_ ?_ (.inl ⟨rfl,rfl⟩) ai rfl rfl rfl k g) (λ_ _ _ h=>h);all_goals simp[go_sem,]
       all_goals rfl
      |some F=>
       simp only[go_sem,seval,cO (l:=l),aV,hi,d,hb,u,z,M,B,C,j,I,iT f,P,dI,dH,aZ,results263];refine aT (yp f v (s:=⟨s0.at_+1,s0.bad⟩) (ks:=[]) (kd:=8) (w:=F.1) (pl:=F.2) ?_ ?_ ?_ ?_ ?_ (.inl ⟨rfl,rfl⟩) ai rfl rfl rfl k g) (λ_ _ _ h=>h);all_goals simp[go_sem,]
       all_goals rfl
     |false=>
      simp at h;obtain⟨x,k,h⟩:=al h;obtain⟨K,g,h⟩:=al h;cases h;by_cases E:t.1=1
      ·rw[ν E] at C;rw[π E] at B;simp only[go_sem,seval,cO (l:=l),aV,hi,d,hb,u,z,M,B,C,j,aZ,results263];refine aT (yp f v (ks:=[]) (kd:=13) (w:=[]) (pl:=0) ?_ ?_ ?_ ?_ ?_ (.inl ⟨rfl,rfl⟩) ai rfl rfl rfl k g) (λ_ _ _ h=>h);all_goals simp[go_sem,]
       all_goals rfl
      ·rw[ξ E] at B;simp[go_sem,cO (l:=l),aV,hi,d,hb,u,z,M,B,aZ,results263];refine aT (yp f v (ks:=[]) (kd:=13) (w:=[]) (pl:=0) ?_ ?_ ?_ ?_ ?_ (.inl ⟨rfl,rfl⟩) ai rfl rfl rfl k g) (λ_ _ _ h=>h);all_goals simp[go_sem,]
       all_goals rfl
end
set_option maxRecDepth 100000
set_option maxHeartbeats 8000000
section
variable {l:List Tok}
structure KW(l:List Tok)(n:Nat):Prop where
 kind:dG l 262 (R l n .kind)
 typed:dG l 248 (R l n .typed)
 params:dG l 247 (R l n .params)
 block:dG l 249 (R l n .block)
 stmt:dG l 263 (R l n .stmt)
 expr:dG l 271 (R l n .expr)
 sum:dG l 274 (R l n .sum)
 term:dG l 277 (R l n .term)
 post:dG l 283 (R l n .post)
 atom:dG l 289 (R l n .atom)
def KW.lam(a:l.length<=4000){n}(h:KW l n):KT l 231 (vr l n):=aiV a h.params h.typed h.block
def ab2(a:l.length<=4000):∀n,n<=900000->∀k,k<=n->KW l k
 |0,_,k,b=>by have:k=0:=aa;subst this;exact⟨λs r h=>(by cases h),λs r h=>(by cases h),λs r h=>(by cases h),λs r h=>(by cases h),λs r h=>(by cases h),λs r h=>(by cases h),λs r h=>(by cases h),λs r h=>(by cases h),λs r h=>(by cases h),λs r h=>(by cases h)⟩
 |n+1,hn,k,b=>by
  have ih:=ab2 a n aa;by_cases d:k<=n
  ·exact ih k d
  have:k=n+1:=aa;subst this;have c:n<=900000:=aa;have h:=ih n (μ n);exact⟨ash a c λk b=>(ih k b).kind,amu a h.kind,aiU a c λk b=>(ih k aa).typed,amx a c h.stmt,asj a h.expr h.block h.typed,asf a h.sum,awL a h.term,ase a h.post,asg a c h.atom h.expr,asi a c (λk b=>(ih k b).expr) (h.lam a)⟩
def awO(d:l.length<=4000){s:RS}{r}(hb:s.at_<l.length)(h:A0 l s=some r):Io ak 199 [.i s.at_] (rc l s.bad) (.tup [aB r.1,.i r.2.at_]) (rc l r.2.bad):=by
 obtain⟨a,e⟩:=s;simp[A0] at h;obtain⟨m,hm,h⟩:=al h;obtain⟨A,E,h⟩:=al h;obtain⟨x,G,h⟩:=al h;obtain⟨c,D,h⟩:=al h;cases h;obtain⟨o,b,y,rfl⟩:=Ee hm;obtain⟨o2,B,F,rfl⟩:=Ee G;simp only at E D;refine fX rfl rfl func199 rfl (by rw[ntmps199];simp) (λte=> ?_) (sG _ _) (kg l _);have q:=mO (n:=a) (by simp only at hb;omega);have u:bX l [46] ⟨b.at_,b.bad⟩=some A:=E;have v:bX l [59] ⟨B.at_,B.bad⟩=some c:=D;have z:rW l ⟨A.at_,A.bad⟩=some (o2,B):=F;have C:∀(k f t a:Nat) (w:List UInt8),AV.agg [.i k,.i f,.i t,.str w,.i a,.vec .nil []]=aB (.mk k f t w a []):=λ_ _ _ _ _=>rfl
 cases o with
 |none=>
  have j:AV.agg [.i 23,.i (a+1:Nat),.i b.at_,.str [],.i 0,.vec .nil []]=_:=C 23 (a+1) b.at_ 0 []
  cases o2 with
  |none=>simp only[go_sem,seval,q,iT d,y,aV,dI,dH,gC d,u,z,v,j,aZ,eQ,results199];exact Λ (λx=>some (x,te,rc l c.bad)) (lX (.mk 2 a c.at_ [] 0 [.mk 23 (a+1) b.at_ [] 0 []]) _)
  |some p=>simp only[go_sem,seval,q,iT d,y,aV,dI,dH,gC d,u,z,v,j,aZ,eQ,results199];exact Λ (λx=>some (x,te,rc l c.bad)) (lX (.mk 2 a c.at_ p.1 p.2 [.mk 23 (a+1) b.at_ [] 0 []]) _)
 |some g=>
  have j:AV.agg [.i 23,.i (a+1:Nat),.i b.at_,.str g.1,.i g.2,.vec .nil []]=_:=C 23 (a+1) b.at_ g.2 g.1
  cases o2 with
  |none=>simp only[go_sem,seval,q,iT d,y,aV,dI,dH,gC d,u,z,v,j,aZ,eQ,results199];exact Λ (λx=>some (x,te,rc l c.bad)) (lX (.mk 2 a c.at_ [] 0 [.mk 23 (a+1) b.at_ g.1 g.2 []]) _)
  |some p=>simp only[go_sem,seval,q,iT d,y,aV,dI,dH,gC d,u,z,v,j,aZ,eQ,results199];exact Λ (λx=>some (x,te,rc l c.bad)) (lX (.mk 2 a c.at_ p.1 p.2 [.mk 23 (a+1) b.at_ g.1 g.2 []]) _)
def awP(b:l.length<=4000){n}(ih:KW l n):dG l 200 (A1 l n):=by
 rintro⟨a,e⟩ r h;simp[A1] at h;obtain⟨s0,f,h⟩:=al h;obtain⟨x,q,h⟩:=al h;obtain⟨u,g,h⟩:=al h;obtain⟨v,m,h⟩:=al h;obtain⟨w,p,h⟩:=al h;cases h;obtain⟨o,c,k,rfl⟩:=Ee q;simp only at g;refine fX rfl rfl func200 rfl (by rw[ntmps200];simp) (λte=> ?_) (sG _ _) (kg l _);have k2:=aay rfl rfl (ih.lam b)
 have i:vr l n ⟨c.at_,c.bad⟩=some ((u.1,v.1,w.1),w.2):=by
  have:vr l n c=some ((u.1,v.1,w.1),w.2):=by simp[vr,g,m,p,fx]
  exact this
 have d:rW l ⟨s0.at_,s0.bad⟩=some (o,c):=k
 cases o with
 |none=>simp only[go_sem,seval,iT b,d,aV,dI,dH,gC b,f,k2,i,aZ,eQ,results200];exact Λ (λx=>some (x,te,rc l w.2.bad)) (lX (.mk 3 a w.2.at_ [] 0 [u.1,v.1,w.1]) _)
 |some j=>simp only[go_sem,seval,iT b,d,aV,dI,dH,gC b,f,k2,i,aZ,eQ,results200];exact Λ (λx=>some (x,te,rc l w.2.bad)) (lX (.mk 3 a w.2.at_ j.1 j.2 [u.1,v.1,w.1]) _)
noncomputable def RL:=f158.c.r.r.r.l.b.b
def aiW(b:l.length<=4000){a}{r}(hb:a<l.length)(h:A0 l ⟨a,none⟩=some r){i}{te}{H:ab}(hg:H.get i=some (.c te (rc l none))):bt ak 199 [.ptr i 0,.i a] H=some (.tup [aB r.1,.i r.2.at_],H.set i (.c te (rc l r.2.bad))):=
 sr (first:=[]) (ar:=[.ptr i 0,.i a]) (args:=[.i a]) rfl rfl rfl rfl (AD l none) (yd l none) (kg l none) hg (awO (s:=⟨a,none⟩) b hb h)
def ME(w:l.length<=4000){te}{H0}{v}:
  ∀n ks s r α H,n<=900000->rn l n ks s=some r->KI l te H0 3 4 2 0 v (.ptr 0 0) n (ks,s) α H->
   aD (aJ (aO ak RL) α H) λy W H'=>y=.exit 0/\∃m,KI l te H0 3 4 2 0 v (.ptr 0 0) m r W H'
 |0,ks,s,r,α,H,Y,d,P=>by cases d
 |n+1,ks,s,r,α,H,Y,d,P=>by
  obtain⟨m,L⟩:=H;obtain⟨a,z⟩:=s;obtain⟨e,q,G,hd,⟨o,u,f⟩,Z⟩:=P;simp only at q u f Z;obtain⟨V,B⟩:=aj.1 f.p;have F:=aF B;have E:=υ V;have hB:RL=.seq (.seq _ _) _:=rfl;rw[aG,hB];rw[rn] at d
  cases z with
  |some x=>
   simp at d;subst d;simp only[go_sem,seval,e,F,E,awU];refine⟨aK,0,?_,?_,?_,?_,⟨o,?_,f⟩,by simp only;omega⟩;all_goals simp[go_sem,e,q,u,G]
  |none=>
   simp at d;obtain⟨t,J,d⟩:=al d;have I:=uz J;have A:((t.1:Int) != 0)= !decide (t.1=0):=rO t.1 0;by_cases C:t.1=0
   ·rw[π C] at A;simp[C] at d;subst d;simp only[go_sem,seval,e,q,F,E,ψ,I,A,ω];refine⟨aK,0,?_,?_,?_,?_,⟨o,?_,f⟩,by simp only;omega⟩;all_goals simp[go_sem,e,q,u,G]
   ·rw[ξ C] at A;simp[C] at d;obtain⟨b,hb,d⟩:=al d;obtain⟨⟨y,h⟩,D,K⟩:=al d;have Q:=aY (0<m+1);have S:=aY (m<m+1);have N:=dw (m=0);have T:j8 l te H0 o ks h.bad (ab.mk (m+1) ((m,.k 71 (aC y))::aH L 0 (.c te (rc l h.bad)))):=(f.up (Up.set f.p)).push _;obtain⟨j,⟨U,L2⟩,O,p2,p3,_⟩:=BP tC (m:=λ_=>false) rfl (o:=o) (o2:=.full) (es:=bA ks) (xs:=[aB y]) (H:=⟨m+1,(m,.k 71 (aC y))::aH L 0 (.c te (rc l h.bad))⟩) (by rw[cz];exact T.g) (qv ks) (cB.one y) ai (by rw[cz];simp;omega) (by rw[cz];simp;omega);have R:j8 l te H0 (.own j) (ks++[y]) h.bad ⟨U,L2⟩:=j8.app T p3 (by simpa[cz] using p2);have es:bA ks++[aB y]=bA (ks++[y]):=by rw[tu];rfl
    have M:∀X:Nd,eD [AV.i 0,.i 0,.i 0,.str [],.i 0,.vec .nil []] 0 (aC X)=aC X:=uW
    cases b with
    |true=>
     simp at D;have hg:ab.get ⟨m+1,(m,.k 71 iy)::L⟩ 0=some (.c te (rc l none)):=aj.2 ⟨aa,by rw[br,bV];exact B⟩;have k1:=aiW w ((ο.1 J).1) D hg;simp[iy] at k1;simp[go_sem,e,q,u,F,E,B,Q,S,N,ψ,I,A,Α,cO (l:=l),aV,hb,k1,M,cQ,O,es];refine ME w n (ks++[y]) h r _ _ aa K ⟨?_,?_,?_,?_,⟨.own j,?_,R⟩,aX⟩;all_goals simp[go_sem,e,G]
    |false=>
     simp at D;simp[go_sem,e,q,u,F,E,B,Q,S,N,ψ,I,A,Α,cO (l:=l),aV,hb,kY rfl rfl (awP w (ab2 w n aa n (μ n))),D,M,cQ,O,es];refine ME w n (ks++[y]) h r _ _ aa K ⟨?_,?_,?_,?_,⟨.own j,?_,R⟩,aX⟩;all_goals simp[go_sem,e,G]
def asl(f:l.length<=4000){n}(hn:n<=90000){r}(h:CI l n=some r):Io ak 158 [] (rc l none) (aB r.1) (rc l r.2.bad):=by
 simp[CI] at h;obtain⟨q,e,h⟩:=al h;cases h;refine fX (c:=.seq _ (.seq _ (.seq _ (.seq (.block 0 (.loop RL)) _)))) rfl rfl func158 rfl aA (λte=> ?_) (jI _) (kg l _);simp[go_sem,];refine jE ?_;rw[gB];refine aT (ME f n [] ⟨0,none⟩ q _ _ aa e (te:=te) (H0:=⟨2,[(1,.k 71 iy),(0,.c te (rc l none))]⟩) (v:=.ptr 1 0) ⟨?_,?_,?_,?_,⟨.nil,?_,⟨rfl,.inl ⟨rfl,rfl⟩,⟨μ _,λj t cs _ h=>h⟩⟩⟩,aX⟩) ?_
 case refine_6=>
  rintro x ae ⟨m1,L1⟩ ⟨rfl,m0,⟨d0,d,u,dd,⟨o,i,a⟩,_⟩⟩;refine .inl ⟨.inr rfl,?_⟩;obtain⟨w,s⟩:=aj.1 a.p;obtain⟨m,b⟩:=aj.1 (a.k.2 1 (some 71) iy aA rfl);simp only[go_sem,seval,d,u,i,υ w,υ m,s,b,aF b,wz,aZ,eQ,nQ q.1,sn a.g,bg,fU,results158];rfl
 all_goals simp[go_sem,]
 all_goals rfl
end
set_option maxRecDepth 100000
set_option maxHeartbeats 4000000
def Y0:∀{ks:List Nd} {i:Nat} {x:Nd},ks[i]? =some x->(bA ks)[i]? =some (aB x)
 |[],i,x,h=>by simp at h
 |n::r,0,x,h=>by simp at h;subst h;rfl
 |n::r,i+1,x,h=>by simp at h;have:=Y0 h;simpa[bA] using this
def mB(o){ks}{i:Nat}{x:Nd}(h:ks[i]? =some x):dC prog 69 (.vec o (bA ks)) (.i i)=some (.rptr (aC x)):=by have:=Y0 h;simp[dC,yo,sF,this,xO,zL]
def rF(n:Nd):(aC n)[5]? =some (.vec (if n.ks.isEmpty then .nil else .ro) (bA n.ks)):=by cases n;rfl
def amz(n)(H:ab):fY (aB n) H=some (.ptr H.next 0,H.push (.z (aC n))):=by rw[yc];exact aav _ H
attribute [go_sem] amz
def amA(a b:Nat):CU [.i a,.i b]=some (.i (max a b:Nat)):=by
 simp[CU];by_cases h:b>a
 ·omega
 ·omega
def ph{n:Nat}(h:n<=1000000000000000000):IntKind.i64.wrap ((n:Int)+1)=((n+1:Nat):Int):=by rw[aDH _ (by omega)];omega
def V6(l)(x):fC (l++[x])=max (fC l) (dz x):=by rw[W4,aip]
def Vs{A:Type}{l:List A}{i}{x:A}(h:l[i]? =some x):l.take (i+1)=l.take i++[x]:=by rw[List.take_add_one,h];rfl
noncomputable def RM:=f145.c.r.r.l.r.b.b
def Ht(d){f}(a:ak.cl f=true){n}(h:aI prog (run ak) f [aB n]=some (.i d))(H):dX ak (run ak) (.fn (.func f) [] []) [aB n] H=some (.i d,H):=by rw[sf a,show ak.P=prog from rfl,h];rfl
def adb(ks:List Nd)(i:Nat)(α:az)(H:ab):Prop:=i<=ks.length/\α 3=.i (fC (ks.take i):Nat)/\(∃o,α 7=.vec o (bA ks))/\α 8=.i ks.length/\α 9=.i i
def amB{ks:List Nd}(hk:ks.length<=1000000000000000000)(ih:∀k∈ks,aI prog (run ak) 145 [aB k]=some (.i (dz k)))(α:az)(H:ab)(j:adb ks 0 α H):
  aD (aJ (aO ak RM) α H) λe l H'=>e=.exit 0/\l 3=.i (fC ks:Nat):=by
 have h:RM=.seq _ (.seq _ _):=rfl;refine N4 (adb ks) ks.length _ ?_ ?_ ks.length 0 α H aa j
 ·rintro i α ⟨m,L⟩ hi ⟨q,f,⟨o,d⟩,a,b⟩;obtain⟨x,g⟩:=fG hi;have c:=bJ ((i:Int)<(ks.length:Int));have p:=aY (m<m+1);rw[h];simp only[go_sem,seval,f,d,a,b,c,mB o g,Ht (dz x) rfl (ih x (Β g)),amA (fC (ks.take i)) (dz x),(ph (n:=i) aa),p];refine⟨aK,aa,?_,⟨o,?_⟩,?_,?_⟩
  ·simp[go_sem,];rw[Vs g,V6]
  all_goals simp[go_sem,d,a]
 ·rintro α ⟨m,L⟩ ⟨q,f,⟨o,d⟩,a,b⟩;have c:=bP ((ks.length:Int)<(ks.length:Int));rw[h];simp only[go_sem,seval,f,a,b,c];refine⟨ai,aK,?_⟩;rw[aFp]
def aaC:∀n,mx n<=900000000000000000->aI prog (run ak) 145 [aB n]=some (.i (dz n:Int))
 | .mk k f t w a ks,b=>by
  have d:∀x∈ks,aI prog (run ak) 145 [aB x]=some (.i (dz x:Int)):=λx e=>aaC x (by
   rw[eN] at b;have:=sq e
   omega)
  rw[eN] at b;have hd:=Hr ks;refine fk (c:=.seq _ (.seq _ (.seq (.seq _ (.block 0 (.loop RM))) _))) rfl rfl func145 rfl (by rw[ntmps145];simp) (bW:=[aB (.mk k f t w a ks)]) (by simp[xP]) (by rw[Ew];rfl) ?_ rfl;simp only[go_sem,seval,ab.empty,rF,Nd.ks,cz];simp only[cg];refine bL (dE (amB (ks:=ks) aa d _ _ ⟨aa,?_,⟨if ks.isEmpty then .nil else .ro,?_⟩,?_,?_⟩)) ?_
  case refine_5=>
   rintro _ ⟨ae,⟨m1,L1⟩,rfl,g⟩;simp only[go_sem,seval,g,(ph (n:=fC ks) aa),results145];refine⟨_,rfl,?_⟩;rw[tI];rfl
  all_goals simp[go_sem,]
  all_goals rfl
 termination_by n=>SizeOf.sizeOf n
noncomputable def RO:=f159.c.r.r.l.r.b.b
def ade(n:Nd)(i:Nat)(α:az)(H:ab):Prop:=i<=n.ks.length/\α 1=.ptr 0 0/\α 3=.i (fC (n.ks.take i)+1:Nat)/\α 4=.i i/\H=⟨1,[(0,.z (aC n))]⟩
def amC{n:Nd}(hk:n.ks.length<=1000000000000000000)(q:∀k∈n.ks,dz k<=1000000000000000000)(ih:∀k∈n.ks,aI prog (run ak) 159 [aB k]=some (.i (dz k)))(α:az)(H:ab)(r:ade n 0 α H):
  aD (aJ (aO ak RO) α H) λe s H'=>e=.exit 0/\s 3=.i (fC n.ks+1:Nat):=by
 have j:RO=.seq (.seq _ _) (.seq _ _):=rfl;refine N4 (ade n) n.ks.length _ ?_ ?_ n.ks.length 0 α H aa r
 ·rintro i α H hi ⟨t,a,b,d,rfl⟩;obtain⟨x,g⟩:=fG hi;have hm:=Β g;have c:=bJ ((i:Int)<(n.ks.length:Int));have m:=mB (if n.ks.isEmpty then .nil else .ro) g;have p:=Ht (dz x) rfl (ih x hm);have h:=ph (n:=i) aa;have o:=ph (q x hm);have l:fC (n.ks.take (i+1))=max (fC (n.ks.take i)) (dz x):=by rw[Vs g,V6]
  rw[j];by_cases hg:dz x>fC (n.ks.take i)
  ·have f:=bJ (((dz x+1:Nat):Int)>((fC (n.ks.take i)+1:Nat):Int));simp only[go_sem,seval,a,b,d,c,m,p,h,o,f,rF,cz];refine⟨aK,aa,?_,?_,?_,rfl⟩
   ·simp[go_sem,a]
   ·simp[go_sem,l];rw[Nat.max_eq_right aa]
   ·simp[go_sem,]
  ·have f:=bP (((dz x+1:Nat):Int)>((fC (n.ks.take i)+1:Nat):Int));simp only[go_sem,seval,a,b,d,c,m,p,h,o,f,rF,cz];refine⟨aK,aa,?_,?_,?_,rfl⟩
   ·simp[go_sem,a]
   ·simp[go_sem,b,l];rw[Nat.max_eq_left aa]
   ·simp[go_sem,]
 ·rintro α H ⟨t,a,b,d,rfl⟩;have c:=bP ((n.ks.length:Int)<(n.ks.length:Int));rw[j];simp only[go_sem,seval,a,b,d,c,rF,cz];refine⟨ai,aK,?_⟩;rw[aFp]
def aaD:∀n,mx n<=900000000000000000->aI prog (run ak) 159 [aB n]=some (.i (dz n:Int))
 | .mk k f t w a ks,d=>by
  have e:∀x∈ks,aI prog (run ak) 159 [aB x]=some (.i (dz x:Int)):=λx b=>aaD x (by
   rw[eN] at d;have:=sq b
   omega)
  rw[eN] at d;refine fk (c:=.seq _ (.seq _ (.seq (.seq _ (.block 0 (.loop RO))) _))) rfl rfl func159 rfl (by rw[ntmps159];simp) (bW:=[aB (.mk k f t w a ks)]) (by simp[xP]) (by rw[Ew];rfl) ?_ rfl;simp[go_sem,ab.empty];simp[cg];refine bL (dE (amC (n:=.mk k f t w a ks) (by simp[Nd.ks];omega) (λx b=>by have:=ts b;have:=Hr ks;simp[Nd.ks] at*;omega) e _ _ ⟨aa,?_,?_,?_,rfl⟩)) ?_
  case refine_4=>
   rintro _ ⟨ae,⟨m1,L1⟩,rfl,g⟩;simp only[go_sem,seval,g,results159];refine⟨_,rfl,?_⟩;rw[tI];rfl
  all_goals simp[go_sem,]
  all_goals rfl
 termination_by n=>SizeOf.sizeOf n
set_option maxHeartbeats 8000000
def qE(l:List Tok):Nat:=17*l.length+10
def jj(l:List Tok):Except (Nat×Nat) Nd:=match u_ l (qE l) with
 |some r=>match r.2.err with
  |some b=>.error (24,b)
  |none=>if dz r.1>60 then .error (25,0) else .ok r.1
 |none=>.error (0,0)
def tJ:Except (Nat×Nat) Nd->AV
 | .error (e,b)=>.tup [aB eG,.i e,.i b]
 | .ok t=>.tup [aB t,.i 0,.i 0]
def V7(x:Except (Nat×Nat) Nd):(tJ x).aq=true:=by
 cases x with
 |error p=>obtain⟨e,b⟩:=p;simp[tJ,AV.aq,AV.aq.go,jI]
 |ok t=>simp[tJ,AV.aq,AV.aq.go,jI]
def asm(b:Nat):A3 (some b)=24:=(rfl)
def asn(b:Nat):mR (some b)=(b:Int):=(rfl)
def Y1(n:Nd)(a b:Int):(AV.tup [aB n,.i a,.i b]).erase=.tup [aB n,.i a,.i b]:=by
 cases n with
 |mk k f t w c ks=>cases ks<;>rfl
def HW(o:Ab.Own)(es:List AV)(n:Nd)(a b:Int):(AV.tup [.vec o es,aB n,.i a,.i b]).erase=.tup [.vec o.bare es,aB n,.i a,.i b]:=by
 cases n with
 |mk k f t w c ks=>cases ks<;>rfl
section
variable {l:List Tok}
def Og(h:p_ l):qE l<=68010:=by have:=h.len;simp[qE];omega
def Qk(h:p_ l){r:Nd×PS}(a:u_ l (qE l)=some r):mx r.1<=900000000000000000:=by have h1:=alA a;have h2:=av8 (qE l);have h3:=Og h;have h4:(qE l+9)*(qE l+9)<=68019*68019:=Nat.mul_le_mul aa aa;omega
def adf{n:Nat}(h:0<n)(h2:n<=1000000):IntKind.i64.wrap ((n:Int)-1)=((n-1:Nat):Int):=by rw[aDH _ (by omega)];omega
def adg{n:Nat}(h:0<n):((n:Int)==0)=false:=by rw[aDL];omega
def aiX(h:p_ l):aI prog (run ak) 101 [.vec .ro (V l)]=some (tJ (jj l)):=by
 have u:=h.len;have s:=aDV.2 h.ne;obtain⟨e,t,x⟩:=h.last;obtain⟨r,r',a,e2,_⟩:=Ec h.ok h.ne (n:=qE l) (μ _);have f:=adf s aa;have m:=uz t;have o:=adg s;have p:((e.1:Int) != 0)=false:=by rw[x];rfl
 have c2:=bP ((l.length:Int)>4000);have w:=ar7 u (n:=qE l) (by have:=Og h;omega) a;have k1:∀i te H,H.get i=some (.c te (pc l ⟨0,none⟩))->bt ak 144 [.ptr i 0] H=some (aB r.1,H.set i (.c te (pc l r.2))):=λi te H hg=>sr (first:=[]) (ar:=[.ptr i 0]) (args:=[]) rfl rfl rfl rfl (Fh l _) (zX l _) (iL l _) hg w
 have k2:=k1 1 none ⟨2,[(1,.z (pc l ⟨0,none⟩)),(0,.k 71 iy)]⟩ rfl;simp[pc,A3,mR,iy] at k2;have g:bt ak 144 [.ptr 1 0] ⟨2,[(1,.z [.vec .ro (V l),.i 0,.i 0,.i 0]),(0,.k 71 [.i 0,.i 0,.i 0,.str [],.i 0,.vec .nil []])]⟩=some (aB r.1,⟨2,[(1,.z (pc l r.2)),(0,.k 71 [.i 0,.i 0,.i 0,.str [],.i 0,.vec .nil []])]⟩):=k2;refine fk rfl rfl func101 rfl (by rw[ntmps101];simp) (bW:=[.vec .ro (V l)]) rfl (by show(AV.aq.go (V l)&&true)=true;rw[wW];rfl) ?_ (V7 _);have p3:(pc l r.2)[3]? =some (.i (mR r.2.err)):=rfl;have v:∀X:Nd,eD [AV.i 0,.i 0,.i 0,.str [],.i 0,.vec .nil []] 0 (aC X)=aC X:=uW
 cases hb:r.2.err with
 |some b=>
  have d:jj l=.error (24,b):=by simp[jj,a,hb]
  rw[d];simp only[go_sem,seval,ab.empty,tR,o,p,c2,f,m,aZ,g,p3,hb,asm,asn,results101];exact⟨_,rfl,rfl⟩
 |none=>
  have q:=Ht (dz r.1) rfl (aaC r.1 (Qk h a));by_cases hg:dz r.1>60
  ·have d:jj l=.error (25,0):=by simp[jj,a,hb,ν hg]
   have j:=bJ ((dz r.1:Int)>60);rw[d];simp only[go_sem,seval,ab.empty,tR,o,p,c2,f,m,aZ,g,hb,Ε,q,j,results101];exact⟨_,rfl,rfl⟩
  ·have d:jj l=.ok r.1:=by simp[jj,a,hb,κ hg]
   have j:=bP ((dz r.1:Int)>60);rw[d];simp only[go_sem,seval,ab.empty,tR,o,p,c2,f,m,aZ,g,hb,Ε,q,j,v,results101];refine⟨_,rfl,?_⟩;exact Y1 _ _ _
end
end Go.Proofs.YtmehamiifalmaaaGreatDoor
