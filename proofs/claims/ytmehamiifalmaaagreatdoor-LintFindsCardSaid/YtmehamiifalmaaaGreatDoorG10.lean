/- LintFinds: part 11 of its proof. -/
import Derived.Test.YtmehamiifalmaaaGreatDoorG9
set_option linter.all false
namespace Go.Proofs.YtmehamiifalmaaaGreatDoor
open Go Go.Ab Go.Proofs.Tryz
set_option maxRecDepth 100000
structure j7(l:List Tok)(te:Option TypeId)(H0:ab)(o:Ab.Own)(ks:List Nd)(e:Option Nat)(H:ab):Prop where
 p:H.get 0=some (.c te (rc l e))
 g:cY H 71 o ks.length
 k:H0.next<=H.next/\∀j t cs,j≠0->H0.get j=some (.c t cs)->H.get j=some (.c t cs)
def j7.up{l}{te}{H0 H H1:ab}{o}{ks}{e b}(h:j7 l te H0 o ks e H)(u:Up H 0 (.c te (rc l b)) H1):j7 l te H0 o ks b H1:=
 ⟨u.2.1,h.g.cj λj m a=>u.2.2 j _ (by rintro rfl;rw[h.p] at a;cases a) a,atB h.k.1 u.1,λj t cs a d=>u.2.2 j _ a (h.k.2 j t cs a d)⟩
def j7.push{l}{te}{H0 H:ab}{o}{ks}{e}(h:j7 l te H0 o ks e H)(x):j7 l te H0 o ks e (H.push x):=by
 have b:∀{j y},H.get j=some y->(H.push x).get j=some y:=λ{j y} a=>by rw[ab.fL,κ (by have:=ab.ep a;omega)];exact a
 exact⟨b h.p,h.g.cj λj m a=>b a,atB h.k.1 (aEg _),λj t cs a c=>b (h.k.2 j t cs a c)⟩
def j7.app{l}{te}{H0 H H1}{o o1}{ks a:List Nd}{e}(h:j7 l te H0 o ks e H)(k:y_ H H1)(g:cY H1 71 o1 a.length):j7 l te H0 o1 a e H1:=
 ⟨k.2 _ _ _ h.p,g,atB h.k.1 k.1,λj t cs b c=>k.2 j _ _ (h.k.2 j t cs b c)⟩
def kG{l}{te}{H0}{o}{ks:List Nd}{e}{M}{LL}(f:j7 l te H0 o ks e ⟨M,LL⟩)(hn:ks.length<=1000000)(X:Nd):∃j b a,cH (λ_=>false) prog 69 69 (.vec o (br ks)) (.vec .full [aw X]) ⟨M,LL⟩=some (.vec (.own j) (br (ks++[X])),⟨b,a⟩)/\j7 l te H0 (.own j) (ks++[X]) e ⟨b,a⟩/\((0<b)=True)/\eF a 0=some (rc l e)/\cg a 0=some (.c te (rc l e)):=by obtain⟨j,⟨b,a⟩,i,n,p3,_⟩:=Ch pS (m:=λ_=>false) rfl (o:=o) (o2:=.full) (es:=br ks) (xs:=[aw X]) (H:=⟨M,LL⟩) (by rw[bL];exact f.g) (qB ks) (cQ.one X) ah (by rw[bL];simp;omega) (by rw[bL];simp;omega);have d:j7 l te H0 (.own j) (ks++[X]) e ⟨b,a⟩:=j7.app f p3 (by simpa[bL] using n);obtain⟨k,h⟩:=ai.1 d.p;rw[show br ks++[aw X]=br (ks++[X]) by rw[tY];rfl] at i;exact⟨j,b,a,i,d,ο k,aC h,h⟩
def F'(l:List Tok)(c:List UInt8)(ks:List Nd)(r:Nd×RS)(b:Bool)(t:List Nd×RS):Prop:=(∃x,r.2.bad=some x/\b=false/\t=(ks++[r.1],r.2))\/(r.2.bad=none/\cV l r.2.at_ c=some true/\b=false/\t=(ks++[r.1],r.2))\/(r.2.bad=none/\cV l r.2.at_ c=some false/\∃a,bZ l [44] r.2=some a/\b=true/\t=(ks++[r.1],a))
structure KI(l:List Tok)(te:Option TypeId)(H0:ab)(A K C D:Nat)(v w:AV)(n:Nat)(p:List Nd×RS)(α:az)(H:ab):Prop where
 z:α 0=.ptr 0 0
 a:α A=.i p.2.at_
 c:α C=v
 d:α D=w
 k:∃o,α K=.vec o (br p.1)/\j7 l te H0 o p.1 p.2.bad H
 n:p.1.length+n<=1000000
def xg(l:List Tok)(one:RS->RR)(e:List UInt8)(first:Nat)(p:List Nd×RS):Option (Bool×(List Nd×RS)):=
 if p.2.bad.isNone then bn (if p.1.length=first then cV l p.2.at_ e else some false) λb=>if b then some (false,p) else bn (one p.2) λr=>bn (if r.2.bad.isNone then cV l r.2.at_ e else some true) λb=>if b then some (false,(p.1++[r.1],r.2)) else bn (bZ l [44] r.2) λa=>some (true,(p.1++[r.1],a)) else some (false,p)
def B6{l:List Tok}{one:RS->RR}{e:List UInt8}{first:Nat}:∀n ks s,jn l one e first n ks s=iter (xg l one e first) n (ks,s)
 |0,ks,s=>rfl
 |n+1,ks,s=>by
  rw[jn,iter,xg];simp only;split
  ·cases(if ks.length=first then cV l s.at_ e else some false) with
   |none=>rfl
   |some b=>
    simp only[fy]
    cases b with
    |true=>rfl
    |false=>
     simp only[υ,ap1]
     cases one s with
     |none=>rfl
     |some r=>
      simp only[fy]
      cases(if r.2.bad.isNone then cV l r.2.at_ e else some true) with
      |none=>rfl
      |some b=>
       simp[fy]
       cases b with
       |true=>rfl
       |false=>
        simp
        cases bZ l [44] r.2 with
        |none=>rfl
        |some s2=>exact B6 n _ _
  ·rfl
def Eu{l}{one}{e}{first}{ks:List Nd}{a:Nat}{z:Option Nat}{b:Bool}{t:List Nd×RS}(h:xg l one e first (ks,⟨a,z⟩)=some (b,t)):
  (∃x,z=some x/\b=false/\t=(ks,⟨a,z⟩))\/(z=none/\ks.length=first/\cV l a e=some true/\b=false/\t=(ks,⟨a,none⟩))\/
  (z=none/\(ks.length=first->cV l a e=some false)/\∃r,one ⟨a,none⟩=some r/\
   ((∃x,r.2.bad=some x/\b=false/\t=(ks++[r.1],r.2))\/(r.2.bad=none/\cV l r.2.at_ e=some true/\b=false/\t=(ks++[r.1],r.2))\/(r.2.bad=none/\cV l r.2.at_ e=some false/\∃f,bZ l [44] r.2=some f/\b=true/\t=(ks++[r.1],f)))):=by
 unfold xg at h
 cases z with
 |some x=>simp only[ap2,υ,ap1,Ζ,aES] at h;exact .inl ⟨x,rfl,h.1.symm,h.2.symm⟩
 |none=>
  simp at h;obtain⟨i,d,h⟩:=al h
  cases i with
  |true=>
   simp only[aEl,Ζ,aES] at h;by_cases hf:ks.length=first
   ·rw[μ hf] at d;exact .inr (.inl ⟨rfl,hf,d,h.1.symm,h.2.symm⟩)
   ·rw[κ hf] at d;cases d
  |false=>
   simp at h;obtain⟨r,j,h⟩:=al h;refine .inr (.inr ⟨rfl,λhf=>by rwa [μ hf] at d,r,j,?_⟩);obtain⟨b1,c,h⟩:=al h
   cases hz:r.2.bad with
   |some x=>simp[hz] at c;subst c;simp only[aEl,Ζ,aES] at h;exact .inl ⟨x,rfl,h.1.symm,h.2.symm⟩
   |none=>
    simp[hz] at c
    cases b1 with
    |true=>simp only[aEl,Ζ,aES] at h;exact .inr (.inl ⟨rfl,c,h.1.symm,h.2.symm⟩)
    |false=>simp at h;obtain⟨f,g,h⟩:=al h;simp only[Ζ,aES] at h;exact .inr (.inr ⟨rfl,c,f,g,h.1.symm,h.2.symm⟩)
def eD{l}{e}{te}{L}{e'}(h:cg L 0=some (.c te (rc l e))):cg (aH L 0 (.c te (rc l e'))) 0=some (.c te (rc l e')):=by rw[aR,μ rfl,h];rfl
section
variable {l:List Tok}
noncomputable def E5:=f247.c.r.r.r.l.b.b
noncomputable def O7:=E5.r
def Vd(E:l.length<=4000){te}{H0}{v w}{ty}(ih:dM l 248 ty){ks}{a n}{b}{t}{α}{H}(hI:KI l te H0 6 7 1 4 v w (n+1) (ks,⟨a,none⟩) α H){r}(Y:(λs=>bn (iu l (.mk 5 s.at_ 0 [] 0 []) s) λx=>bn (ty x.2) λt=>some (ended x.1 t.2.at_ [t.1],t.2):RS->RR) ⟨a,none⟩=some r)
  (hb:F' l [41] ks r b t):
  aF (aT ak O7 α H) λy ae H'=>y=(if b then .normal else .exit 0)/\KI l te H0 6 7 1 4 v w n t ae H':=by
 obtain⟨m,L⟩:=H;obtain⟨q,I,U,J,⟨o,F,g⟩,hn⟩:=hI;simp only at I F g hn;obtain⟨eB,f⟩:=ai.1 g.p;have R:=ο eB;have k1:=kQ rfl rfl ih;have S:=bf (0<m+1);have T:=bf (m<m+1);have O:=bf (m<m+1+1);have Q:=bf (m+1<m+1+1);have N:=dJ (m=0);have K:=dJ (m+1=m);have hQ:O7=.block _ (.seq _ _):=rfl;rw[hQ];obtain⟨x,d,Y⟩:=al Y;rw[E4] at d;obtain⟨⟨o1,s0⟩,P,d⟩:=al d;cases d;obtain⟨⟨y,s⟩,G,Y⟩:=al Y;simp only at G;cases Y
 cases o1 with
 |none=>
  simp only[e9] at hb;rcases hb with⟨x,d,rfl,rfl⟩|⟨d,C,rfl,rfl⟩|⟨d,C,X,V,rfl,rfl⟩
  ·try simp only at d
   obtain⟨j,W,Z,A,h,B,u,D⟩:=kG (M:=m+1+1) (LL:=(m+1,.k 71 (aB y))::(m,.k 71 [.i 5,.i a,.i 0,.str [],.i 0,.vec .nil []])::aH L 0 (.c te (rc l (some x)))) (((g.up (Up.set g.p)).push _).push _) aa (.mk 5 a s.at_ [] 0 [y]);have en:AV.agg [.i 5,.i a,.i s.at_,.str [],.i 0,.vec .ro [aw y]]=aw (.mk 5 a s.at_ [] 0 [y]):=rfl;have z:=eD (e':=s0.bad) f;have gs:=eD (e':=(some x)) f;simp[go_sem,q,I,F,R,f,S,T,O,Q,N,K,iJ E,k1,aU,P,dO,dN,f_,eO,en,G,z,aQ,cG,A,B,u,d,aEf];refine⟨rfl,?_,?_,?_,?_,⟨.own j,?_,by simp[d];exact h⟩,aP⟩;all_goals simp[go_sem,q,U,J]
   all_goals rfl
  ·try simp only at d C
   obtain⟨j,W,Z,A,h,B,u,D⟩:=kG (M:=m+1+1) (LL:=(m+1,.k 71 (aB y))::(m,.k 71 [.i 5,.i a,.i 0,.str [],.i 0,.vec .nil []])::aH L 0 (.c te (rc l none))) (((g.up (Up.set g.p)).push _).push _) aa (.mk 5 a s.at_ [] 0 [y]);have en:AV.agg [.i 5,.i a,.i s.at_,.str [],.i 0,.vec .ro [aw y]]=aw (.mk 5 a s.at_ [] 0 [y]):=rfl;have z:=eD (e':=s0.bad) f;have gs:=eD (e':=none) f;simp[go_sem,q,I,F,R,f,S,T,O,Q,N,K,iJ E,k1,aU,P,dO,dN,f_,eO,en,G,z,aQ,cG,A,B,u,D,d,Β,cP (l:=l),C];refine⟨rfl,?_,?_,?_,?_,⟨.own j,?_,by simp[d];exact h⟩,aP⟩;all_goals simp[go_sem,q,U,J]
   all_goals rfl
  ·try simp only at d C V
   obtain⟨j,W,Z,A,h,B,u,D⟩:=kG (M:=m+1+1) (LL:=(m+1,.k 71 (aB y))::(m,.k 71 [.i 5,.i a,.i 0,.str [],.i 0,.vec .nil []])::aH L 0 (.c te (rc l none))) (((g.up (Up.set g.p)).push _).push _) aa (.mk 5 a s.at_ [] 0 [y]);have en:AV.agg [.i 5,.i a,.i s.at_,.str [],.i 0,.vec .ro [aw y]]=aw (.mk 5 a s.at_ [] 0 [y]):=rfl;have z:=eD (e':=s0.bad) f;have gs:=eD (e':=none) f;have qY:=h.up (Up.set (x:=.c te (rc l X.bad)) h.p);have gS:bZ l [44] ⟨s.at_,none⟩=some X:=by rw[<-V,<-d]
   simp only[go_sem,seval,q,I,F,R,f,S,T,O,Q,N,K,iJ E,k1,aU,P,dO,dN,f_,eO,en,G,z,aQ,cG,A,B,u,D,d,Β,cP (l:=l),C,gy E,gS];refine⟨aI,?_,?_,?_,?_,⟨.own j,?_,qY⟩,aP⟩;all_goals simp[go_sem,q,U,J]
   all_goals rfl
 |some e=>
  simp only[e9] at hb;rcases hb with⟨x,d,rfl,rfl⟩|⟨d,C,rfl,rfl⟩|⟨d,C,X,V,rfl,rfl⟩
  ·try simp only at d
   obtain⟨j,W,Z,A,h,B,u,D⟩:=kG (M:=m+1+1) (LL:=(m+1,.k 71 (aB y))::(m,.k 71 [.i 5,.i a,.i 0,.str e.1,.i e.2,.vec .nil []])::aH L 0 (.c te (rc l (some x)))) (((g.up (Up.set g.p)).push _).push _) aa (.mk 5 a s.at_ e.1 e.2 [y]);have en:AV.agg [.i 5,.i a,.i s.at_,.str e.1,.i e.2,.vec .ro [aw y]]=aw (.mk 5 a s.at_ e.1 e.2 [y]):=rfl;have z:=eD (e':=s0.bad) f;have gs:=eD (e':=(some x)) f;simp[go_sem,q,I,F,R,f,S,T,O,Q,N,K,iJ E,k1,aU,P,dO,dN,f_,eO,en,G,z,aQ,cG,A,B,u,d,aEf];refine⟨rfl,?_,?_,?_,?_,⟨.own j,?_,by simp[d];exact h⟩,aP⟩;all_goals simp[go_sem,q,U,J]
   all_goals rfl
  ·try simp only at d C
   obtain⟨j,W,Z,A,h,B,u,D⟩:=kG (M:=m+1+1) (LL:=(m+1,.k 71 (aB y))::(m,.k 71 [.i 5,.i a,.i 0,.str e.1,.i e.2,.vec .nil []])::aH L 0 (.c te (rc l none))) (((g.up (Up.set g.p)).push _).push _) aa (.mk 5 a s.at_ e.1 e.2 [y]);have en:AV.agg [.i 5,.i a,.i s.at_,.str e.1,.i e.2,.vec .ro [aw y]]=aw (.mk 5 a s.at_ e.1 e.2 [y]):=rfl;have z:=eD (e':=s0.bad) f;have gs:=eD (e':=none) f;simp[go_sem,q,I,F,R,f,S,T,O,Q,N,K,iJ E,k1,aU,P,dO,dN,f_,eO,en,G,z,aQ,cG,A,B,u,D,d,Β,cP (l:=l),C];refine⟨rfl,?_,?_,?_,?_,⟨.own j,?_,by simp[d];exact h⟩,aP⟩;all_goals simp[go_sem,q,U,J]
   all_goals rfl
  ·try simp only at d C V
   obtain⟨j,W,Z,A,h,B,u,D⟩:=kG (M:=m+1+1) (LL:=(m+1,.k 71 (aB y))::(m,.k 71 [.i 5,.i a,.i 0,.str e.1,.i e.2,.vec .nil []])::aH L 0 (.c te (rc l none))) (((g.up (Up.set g.p)).push _).push _) aa (.mk 5 a s.at_ e.1 e.2 [y]);have en:AV.agg [.i 5,.i a,.i s.at_,.str e.1,.i e.2,.vec .ro [aw y]]=aw (.mk 5 a s.at_ e.1 e.2 [y]):=rfl;have z:=eD (e':=s0.bad) f;have gs:=eD (e':=none) f;have qY:=h.up (Up.set (x:=.c te (rc l X.bad)) h.p);have gS:bZ l [44] ⟨s.at_,none⟩=some X:=by rw[<-V,<-d]
   simp only[go_sem,seval,q,I,F,R,f,S,T,O,Q,N,K,iJ E,k1,aU,P,dO,dN,f_,eO,en,G,z,aQ,cG,A,B,u,D,d,Β,cP (l:=l),C,gy E,gS];refine⟨aI,?_,?_,?_,?_,⟨.own j,?_,qY⟩,aP⟩;all_goals simp[go_sem,q,U,J]
   all_goals rfl
def afR(E:l.length<=4000){te}{H0}{v w}{ty}(ih:dM l 248 ty)(n)(p)(b:Bool)(t:List Nd×RS)(α:az)(H:ab)(K:xg l (λs=>bn (iu l (.mk 5 s.at_ 0 [] 0 []) s) λx=>bn (ty x.2) λt=>some (ended x.1 t.2.at_ [t.1],t.2)) [41] 0 p=some (b,t))(I:KI l te H0 6 7 1 4 v w (n+1) p α H):
  aF (aT ak E5 α H) λy G H'=>y=(if b then .normal else .exit 0)/\KI l te H0 6 7 1 4 v w n t G H':=by
 obtain⟨ks,⟨a,z⟩⟩:=p;obtain⟨m,L⟩:=H;obtain⟨c,e,k,h,⟨o,d,f⟩,B⟩:=I;simp only at e d f B;obtain⟨J,u⟩:=ai.1 f.p;have j:=aC u;have i:=ο J;have q:(((ks.length:Nat):Int)==0)=decide (ks.length=0):=dF ks.length 0;have M:E5=.seq (.seq _ _) O7:=rfl;rw[M];rcases Eu K with⟨x,rfl,rfl,rfl⟩|⟨rfl,hf,C,rfl,rfl⟩|⟨rfl,hf,r,F,D⟩
 ·simp only[go_sem,seval,c,j,i,ap2];refine⟨aI,?_,?_,?_,?_,⟨o,?_,f⟩,by simp only;omega⟩;all_goals simp[go_sem,c,e,d,k,h]
 ·have g:decide (ks.length=0)=true:=π hf;simp only[go_sem,seval,c,e,d,j,i,u,ψ,bL,q,g,cP (l:=l),aU,C,ω];refine⟨aI,?_,?_,?_,?_,⟨o,?_,f⟩,by simp only;omega⟩;all_goals simp[go_sem,c,e,d,k,h]
 ·by_cases A:ks.length=0
  ·have g:decide (ks.length=0)=true:=π A;have C:=hf A;simp only[go_sem,seval,c,e,d,j,i,u,ψ,bL,q,g,cP (l:=l),aU,C,χ];refine Vd E ih (n:=n) ⟨?_,?_,?_,?_,⟨o,?_,f⟩,B⟩ F D;all_goals simp[go_sem,c,e,d,k,h]
  ·have g:decide (ks.length=0)=false:=ξ A;simp only[go_sem,seval,c,d,j,i,ψ,bL,q,g,χ];refine Vd E ih (n:=n) ⟨?_,?_,?_,?_,⟨o,?_,f⟩,B⟩ F D;all_goals simp[go_sem,c,e,d,k,h]
def afS(d:l.length<=4000){te}{H0}{v w}{ty}(ih:dM l 248 ty){n}{ks:List Nd}{s:RS}{r:List Nd×RS}{α:az}{H:ab}(a:jn l (λs=>bn (iu l (.mk 5 s.at_ 0 [] 0 []) s) λx=>bn (ty x.2) λt=>some (ended x.1 t.2.at_ [t.1],t.2)) [41] 0 n ks s=some r)(c:KI l te H0 6 7 1 4 v w n (ks,s) α H):
  aF (aL (aT ak E5) α H) λy e H'=>y=.exit 0/\∃m,KI l te H0 6 7 1 4 v w m r e H':=by
 rw[B6] at a;exact Ao (Inv:=λn p α H=>KI l te H0 6 7 1 4 v w n p α H) (λn p b t α H f hi=>afR d ih n p b t α H f hi) n (ks,s) r α H a c
noncomputable def Ga:=f262.c.r.r.r.r.r.r.l.r.t.r.l.b.b
noncomputable def R':=Ga.r
def XN(u:l.length<=4000){te}{H0}{v w}{ty}(ih:dM l 262 ty){ks}{a n}{b}{t}{α}{H}(hI:KI l te H0 6 9 1 4 v w (n+1) (ks,⟨a,none⟩) α H){r}(K:(λs=>bn (iu l (.mk 33 s.at_ 0 [] 0 []) s) λx=>bn (bZ l [58] x.2) λG=>bn (ty G) λt=>some (ended x.1 t.2.at_ [t.1],t.2):RS->RR) ⟨a,none⟩=some r)
  (hb:F' l [125] ks r b t):
  aF (aT ak R' α H) λy ae H'=>y=(if b then .normal else .exit 2)/\KI l te H0 6 9 1 4 v w n t ae H':=by
 obtain⟨m,L⟩:=H;obtain⟨q,N,Y,P,⟨o,I,g⟩,hn⟩:=hI;simp only at N I g hn;obtain⟨eB,e⟩:=ai.1 g.p;have V:=ο eB;have k1:=kQ rfl rfl ih;have W:=bf (0<m+1);have X:=bf (m<m+1);have S:=bf (m<m+1+1);have U:=bf (m+1<m+1+1);have R:=dJ (m=0);have Q:=dJ (m+1=m);have hQ:R'=.block _ (.seq _ _):=rfl;rw[hQ];obtain⟨x,d,K⟩:=al K;rw[E4] at d;obtain⟨⟨o1,s0⟩,T,d⟩:=al d;cases d;obtain⟨G,O,K⟩:=al K;obtain⟨⟨y,s⟩,J,K⟩:=al K;simp only at O J;cases K
 cases o1 with
 |none=>
  simp only[e9] at hb;rcases hb with⟨x,d,rfl,rfl⟩|⟨d,E,rfl,rfl⟩|⟨d,E,s2,Z,rfl,rfl⟩
  ·try simp only at d
   obtain⟨j,m2,L2,B,h,D,z,F⟩:=kG (M:=m+1+1) (LL:=(m+1,.k 71 (aB y))::(m,.k 71 [.i 33,.i a,.i 0,.str [],.i 0,.vec .nil []])::aH L 0 (.c te (rc l (some x)))) (((g.up (Up.set g.p)).push _).push _) aa (.mk 33 a s.at_ [] 0 [y]);have en:AV.agg [.i 33,.i a,.i s.at_,.str [],.i 0,.vec .ro [aw y]]=aw (.mk 33 a s.at_ [] 0 [y]):=rfl;have A:=eD (e':=s0.bad) e;have C:=eD (e':=G.bad) e;have gs:=eD (e':=(some x)) e;simp[go_sem,q,N,I,V,e,W,X,S,U,R,Q,iJ u,k1,aU,T,dO,dN,f_,eO,en,gy u,O,C,J,A,aQ,cG,B,D,z,d,aEf];refine⟨rfl,?_,?_,?_,?_,⟨.own j,?_,by simp[d];exact h⟩,aP⟩;all_goals simp[go_sem,q,Y,P]
   all_goals rfl
  ·try simp only at d E
   obtain⟨j,m2,L2,B,h,D,z,F⟩:=kG (M:=m+1+1) (LL:=(m+1,.k 71 (aB y))::(m,.k 71 [.i 33,.i a,.i 0,.str [],.i 0,.vec .nil []])::aH L 0 (.c te (rc l none))) (((g.up (Up.set g.p)).push _).push _) aa (.mk 33 a s.at_ [] 0 [y]);have en:AV.agg [.i 33,.i a,.i s.at_,.str [],.i 0,.vec .ro [aw y]]=aw (.mk 33 a s.at_ [] 0 [y]):=rfl;have A:=eD (e':=s0.bad) e;have C:=eD (e':=G.bad) e;have gs:=eD (e':=none) e;simp[go_sem,q,N,I,V,e,W,X,S,U,R,Q,iJ u,k1,aU,T,dO,dN,f_,eO,en,gy u,O,C,J,A,aQ,cG,B,D,z,F,d,Β,cP (l:=l),E];refine⟨rfl,?_,?_,?_,?_,⟨.own j,?_,by simp[d];exact h⟩,aP⟩;all_goals simp[go_sem,q,Y,P]
   all_goals rfl
  ·try simp only at d E Z
   obtain⟨j,m2,L2,B,h,D,z,F⟩:=kG (M:=m+1+1) (LL:=(m+1,.k 71 (aB y))::(m,.k 71 [.i 33,.i a,.i 0,.str [],.i 0,.vec .nil []])::aH L 0 (.c te (rc l none))) (((g.up (Up.set g.p)).push _).push _) aa (.mk 33 a s.at_ [] 0 [y]);have en:AV.agg [.i 33,.i a,.i s.at_,.str [],.i 0,.vec .ro [aw y]]=aw (.mk 33 a s.at_ [] 0 [y]):=rfl;have A:=eD (e':=s0.bad) e;have C:=eD (e':=G.bad) e;have gs:=eD (e':=none) e;have qY:=h.up (Up.set (x:=.c te (rc l s2.bad)) h.p);have gS:bZ l [44] ⟨s.at_,none⟩=some s2:=by rw[<-Z,<-d]
   simp only[go_sem,seval,q,N,I,V,e,W,X,S,U,R,Q,iJ u,k1,aU,T,dO,dN,f_,eO,en,O,C,J,A,aQ,cG,B,D,z,F,d,Β,cP (l:=l),E,gy u,gS];refine⟨aI,?_,?_,?_,?_,⟨.own j,?_,qY⟩,aP⟩;all_goals simp[go_sem,q,Y,P]
   all_goals rfl
 |some f=>
  simp only[e9] at hb;rcases hb with⟨x,d,rfl,rfl⟩|⟨d,E,rfl,rfl⟩|⟨d,E,s2,Z,rfl,rfl⟩
  ·try simp only at d
   obtain⟨j,m2,L2,B,h,D,z,F⟩:=kG (M:=m+1+1) (LL:=(m+1,.k 71 (aB y))::(m,.k 71 [.i 33,.i a,.i 0,.str f.1,.i f.2,.vec .nil []])::aH L 0 (.c te (rc l (some x)))) (((g.up (Up.set g.p)).push _).push _) aa (.mk 33 a s.at_ f.1 f.2 [y]);have en:AV.agg [.i 33,.i a,.i s.at_,.str f.1,.i f.2,.vec .ro [aw y]]=aw (.mk 33 a s.at_ f.1 f.2 [y]):=rfl;have A:=eD (e':=s0.bad) e;have C:=eD (e':=G.bad) e;have gs:=eD (e':=(some x)) e;simp[go_sem,q,N,I,V,e,W,X,S,U,R,Q,iJ u,k1,aU,T,dO,dN,f_,eO,en,gy u,O,C,J,A,aQ,cG,B,D,z,d,aEf];refine⟨rfl,?_,?_,?_,?_,⟨.own j,?_,by simp[d];exact h⟩,aP⟩;all_goals simp[go_sem,q,Y,P]
   all_goals rfl
  ·try simp only at d E
   obtain⟨j,m2,L2,B,h,D,z,F⟩:=kG (M:=m+1+1) (LL:=(m+1,.k 71 (aB y))::(m,.k 71 [.i 33,.i a,.i 0,.str f.1,.i f.2,.vec .nil []])::aH L 0 (.c te (rc l none))) (((g.up (Up.set g.p)).push _).push _) aa (.mk 33 a s.at_ f.1 f.2 [y]);have en:AV.agg [.i 33,.i a,.i s.at_,.str f.1,.i f.2,.vec .ro [aw y]]=aw (.mk 33 a s.at_ f.1 f.2 [y]):=rfl;have A:=eD (e':=s0.bad) e;have C:=eD (e':=G.bad) e;have gs:=eD (e':=none) e;simp[go_sem,q,N,I,V,e,W,X,S,U,R,Q,iJ u,k1,aU,T,dO,dN,f_,eO,en,gy u,O,C,J,A,aQ,cG,B,D,z,F,d,Β,cP (l:=l),E];refine⟨rfl,?_,?_,?_,?_,⟨.own j,?_,by simp[d];exact h⟩,aP⟩;all_goals simp[go_sem,q,Y,P]
   all_goals rfl
  ·try simp only at d E Z
   obtain⟨j,m2,L2,B,h,D,z,F⟩:=kG (M:=m+1+1) (LL:=(m+1,.k 71 (aB y))::(m,.k 71 [.i 33,.i a,.i 0,.str f.1,.i f.2,.vec .nil []])::aH L 0 (.c te (rc l none))) (((g.up (Up.set g.p)).push _).push _) aa (.mk 33 a s.at_ f.1 f.2 [y]);have en:AV.agg [.i 33,.i a,.i s.at_,.str f.1,.i f.2,.vec .ro [aw y]]=aw (.mk 33 a s.at_ f.1 f.2 [y]):=rfl;have A:=eD (e':=s0.bad) e;have C:=eD (e':=G.bad) e;have gs:=eD (e':=none) e;have qY:=h.up (Up.set (x:=.c te (rc l s2.bad)) h.p);have gS:bZ l [44] ⟨s.at_,none⟩=some s2:=by rw[<-Z,<-d]
   simp only[go_sem,seval,q,N,I,V,e,W,X,S,U,R,Q,iJ u,k1,aU,T,dO,dN,f_,eO,en,O,C,J,A,aQ,cG,B,D,z,F,d,Β,cP (l:=l),E,gy u,gS];refine⟨aI,?_,?_,?_,?_,⟨.own j,?_,qY⟩,aP⟩;all_goals simp[go_sem,q,Y,P]
   all_goals rfl
def ajv(E:l.length<=4000){te}{H0}{v w}{ty}(ih:dM l 262 ty)(n)(p)(b:Bool)(t:List Nd×RS)(α:az)(H:ab)(M:xg l (λs=>bn (iu l (.mk 33 s.at_ 0 [] 0 []) s) λx=>bn (bZ l [58] x.2) λJ=>bn (ty J) λt=>some (ended x.1 t.2.at_ [t.1],t.2)) [125] 0 p=some (b,t))(I:KI l te H0 6 9 1 4 v w (n+1) p α H):
  aF (aT ak Ga α H) λy G H'=>y=(if b then .normal else .exit 2)/\KI l te H0 6 9 1 4 v w n t G H':=by
 obtain⟨ks,⟨a,z⟩⟩:=p;obtain⟨m,L⟩:=H;obtain⟨c,e,k,h,⟨o,d,f⟩,B⟩:=I;simp only at e d f B;obtain⟨K,u⟩:=ai.1 f.p;have j:=aC u;have i:=ο K;have q:(((ks.length:Nat):Int)==0)=decide (ks.length=0):=dF ks.length 0;have N:Ga=.seq (.seq _ _) R':=rfl;rw[N];rcases Eu M with⟨x,rfl,rfl,rfl⟩|⟨rfl,hf,C,rfl,rfl⟩|⟨rfl,hf,r,F,D⟩
 ·simp only[go_sem,seval,c,j,i,ap2];refine⟨aI,?_,?_,?_,?_,⟨o,?_,f⟩,by simp only;omega⟩;all_goals simp[go_sem,c,e,d,k,h]
 ·have g:decide (ks.length=0)=true:=π hf;simp only[go_sem,seval,c,e,d,j,i,u,ψ,bL,q,g,cP (l:=l),aU,C,ω];refine⟨aI,?_,?_,?_,?_,⟨o,?_,f⟩,by simp only;omega⟩;all_goals simp[go_sem,c,e,d,k,h]
 ·by_cases A:ks.length=0
  ·have g:decide (ks.length=0)=true:=π A;have C:=hf A;simp only[go_sem,seval,c,e,d,j,i,u,ψ,bL,q,g,cP (l:=l),aU,C,χ];refine XN E ih (n:=n) ⟨?_,?_,?_,?_,⟨o,?_,f⟩,B⟩ F D;all_goals simp[go_sem,c,e,d,k,h]
  ·have g:decide (ks.length=0)=false:=ξ A;simp only[go_sem,seval,c,d,j,i,ψ,bL,q,g,χ];refine XN E ih (n:=n) ⟨?_,?_,?_,?_,⟨o,?_,f⟩,B⟩ F D;all_goals simp[go_sem,c,e,d,k,h]
def ajw(d:l.length<=4000){te}{H0}{v w}{ty}(ih:dM l 262 ty){n}{ks:List Nd}{s:RS}{r:List Nd×RS}{α:az}{H:ab}(a:jn l (λs=>bn (iu l (.mk 33 s.at_ 0 [] 0 []) s) λx=>bn (bZ l [58] x.2) λf=>bn (ty f) λt=>some (ended x.1 t.2.at_ [t.1],t.2)) [125] 0 n ks s=some r)(c:KI l te H0 6 9 1 4 v w n (ks,s) α H):
  aF (aL (aT ak Ga) α H) λy e H'=>y=.exit 2/\∃m,KI l te H0 6 9 1 4 v w m r e H':=by
 rw[B6] at a;exact Ao (Inv:=λn p α H=>KI l te H0 6 9 1 4 v w n p α H) (λn p b t α H g hi=>ajv d ih n p b t α H g hi) n (ks,s) r α H a c
noncomputable def GR:=f262.c.r.r.r.r.r.r.r.r.r.l.b.b
noncomputable def Tz:=GR.r
def Zv(S:l.length<=4000){te}{H0}{v w}{ty}(ih:dM l 262 ty){ks}{a n}{b}{t}{α}{H}(R:KI l te H0 6 9 1 4 v w (n+1) (ks,⟨a,none⟩) α H){r}(E:(ty:RS->RR) ⟨a,none⟩=some r)
  (hb:F' l [41] ks r b t):
  aF (aT ak Tz α H) λy Q H'=>y=(if b then .normal else .exit 4)/\KI l te H0 6 9 1 4 v w n t Q H':=by
 obtain⟨m,L⟩:=H;obtain⟨f,A,C,B,⟨o,u,e⟩,V⟩:=R;simp only at A u e V;obtain⟨T,D⟩:=ai.1 e.p;have G:=ο T;have k1:=kQ rfl rfl ih;have F:=bf (m<m+1);have P:Tz=.block _ (.seq _ _):=rfl;rw[P];obtain⟨y,U⟩:=r;rcases hb with⟨x,d,rfl,rfl⟩|⟨d,s,rfl,rfl⟩|⟨d,s,K,I,rfl,rfl⟩
 ·try simp only at d
  obtain⟨j,J,N,i,g,q,h,z⟩:=kG (M:=m+1) (LL:=(m,.k 71 (aB y))::aH L 0 (.c te (rc l (some x)))) ((e.up (Up.set e.p)).push _) aa y;simp[go_sem,f,A,u,G,D,F,k1,aU,E,cG,i,q,h,d,aEf];refine⟨rfl,?_,?_,?_,?_,⟨.own j,?_,by simp[d];exact g⟩,aP⟩;all_goals simp[go_sem,f,C,B]
 ·try simp only at d s
  obtain⟨j,J,N,i,g,q,h,z⟩:=kG (M:=m+1) (LL:=(m,.k 71 (aB y))::aH L 0 (.c te (rc l none))) ((e.up (Up.set e.p)).push _) aa y;simp[go_sem,f,A,u,G,D,F,k1,aU,E,cG,i,q,h,z,d,Β,cP (l:=l),s];refine⟨rfl,?_,?_,?_,?_,⟨.own j,?_,by simp[d];exact g⟩,aP⟩;all_goals simp[go_sem,f,C,B]
 ·try simp only at d s I
  obtain⟨j,J,N,i,g,q,h,z⟩:=kG (M:=m+1) (LL:=(m,.k 71 (aB y))::aH L 0 (.c te (rc l none))) ((e.up (Up.set e.p)).push _) aa y;have O:bZ l [44] ⟨U.at_,none⟩=some K:=by rw[<-I,<-d]
  simp only[go_sem,seval,f,A,u,G,D,F,k1,aU,E,cG,i,q,h,z,d,Β,cP (l:=l),s,gy S,O];refine⟨aI,?_,?_,?_,?_,⟨.own j,?_,(g.up (Up.set (x:=.c te (rc l K.bad)) g.p))⟩,aP⟩;all_goals simp[go_sem,f,C,B]
def am9(D:l.length<=4000){te}{H0}{v w}{ty}(ih:dM l 262 ty)(n)(p)(b:Bool)(t:List Nd×RS)(α:az)(H:ab)(J:xg l (ty) [41] 0 p=some (b,t))(G:KI l te H0 6 9 1 4 v w (n+1) p α H):
  aF (aT ak GR α H) λy F H'=>y=(if b then .normal else .exit 4)/\KI l te H0 6 9 1 4 v w n t F H':=by
 obtain⟨ks,⟨a,z⟩⟩:=p;obtain⟨m,L⟩:=H;obtain⟨c,e,k,h,⟨o,d,f⟩,A⟩:=G;simp only at e d f A;obtain⟨I,s⟩:=ai.1 f.p;have j:=aC s;have i:=ο I;have q:(((ks.length:Nat):Int)==0)=decide (ks.length=0):=dF ks.length 0;have K:GR=.seq (.seq _ _) Tz:=rfl;rw[K];rcases Eu J with⟨x,rfl,rfl,rfl⟩|⟨rfl,hf,B,rfl,rfl⟩|⟨rfl,hf,r,E,C⟩
 ·simp only[go_sem,seval,c,j,i,ap2];refine⟨aI,?_,?_,?_,?_,⟨o,?_,f⟩,by simp only;omega⟩;all_goals simp[go_sem,c,e,d,k,h]
 ·have g:decide (ks.length=0)=true:=π hf;simp only[go_sem,seval,c,e,d,j,i,s,ψ,bL,q,g,cP (l:=l),aU,B,ω];refine⟨aI,?_,?_,?_,?_,⟨o,?_,f⟩,by simp only;omega⟩;all_goals simp[go_sem,c,e,d,k,h]
 ·by_cases u:ks.length=0
  ·have g:decide (ks.length=0)=true:=π u;have B:=hf u;simp only[go_sem,seval,c,e,d,j,i,s,ψ,bL,q,g,cP (l:=l),aU,B,χ];refine Zv D ih (n:=n) ⟨?_,?_,?_,?_,⟨o,?_,f⟩,A⟩ E C;all_goals simp[go_sem,c,e,d,k,h]
  ·have g:decide (ks.length=0)=false:=ξ u;simp only[go_sem,seval,c,d,j,i,ψ,bL,q,g,χ];refine Zv D ih (n:=n) ⟨?_,?_,?_,?_,⟨o,?_,f⟩,A⟩ E C;all_goals simp[go_sem,c,e,d,k,h]
def ana(d:l.length<=4000){te}{H0}{v w}{ty}(ih:dM l 262 ty){n}{ks}{s:RS}{r:List Nd×RS}{α:az}{H:ab}(a:jn l (ty) [41] 0 n ks s=some r)(c:KI l te H0 6 9 1 4 v w n (ks,s) α H):
  aF (aL (aT ak GR) α H) λy e H'=>y=.exit 4/\∃m,KI l te H0 6 9 1 4 v w m r e H':=by
 rw[B6] at a;exact Ao (Inv:=λn p α H=>KI l te H0 6 9 1 4 v w n p α H) (λn p b t α H f hi=>am9 d ih n p b t α H f hi) n (ks,s) r α H a c
noncomputable def Kv:=f283.c.r.r.l.b.b
noncomputable def FP:=Kv.r.b.r.r.r.l.b.b
noncomputable def QP:=FP.r
def Wp(S:l.length<=4000){te}{H0}{v w}{ty}(ih:dM l 271 ty){ks}{a n}{b}{t}{α}{H}(R:KI l te H0 7 10 4 6 v w (n+1) (ks,⟨a,none⟩) α H){r}(E:(ty:RS->RR) ⟨a,none⟩=some r)
  (hb:F' l [41] ks r b t):
  aF (aT ak QP α H) λy Q H'=>y=(if b then .normal else .exit 2)/\KI l te H0 7 10 4 6 v w n t Q H':=by
 obtain⟨m,L⟩:=H;obtain⟨f,A,C,B,⟨o,u,e⟩,V⟩:=R;simp only at A u e V;obtain⟨T,D⟩:=ai.1 e.p;have G:=ο T;have k1:=kQ rfl rfl ih;have F:=bf (m<m+1);have P:QP=.block _ (.seq _ _):=rfl;rw[P];obtain⟨y,U⟩:=r;rcases hb with⟨x,d,rfl,rfl⟩|⟨d,s,rfl,rfl⟩|⟨d,s,K,I,rfl,rfl⟩
 ·try simp only at d
  obtain⟨j,J,N,i,g,q,h,z⟩:=kG (M:=m+1) (LL:=(m,.k 71 (aB y))::aH L 0 (.c te (rc l (some x)))) ((e.up (Up.set e.p)).push _) aa y;simp[go_sem,f,A,u,G,D,F,k1,aU,E,cG,i,q,h,d,aEf];refine⟨rfl,?_,?_,?_,?_,⟨.own j,?_,by simp[d];exact g⟩,aP⟩;all_goals simp[go_sem,f,C,B]
 ·try simp only at d s
  obtain⟨j,J,N,i,g,q,h,z⟩:=kG (M:=m+1) (LL:=(m,.k 71 (aB y))::aH L 0 (.c te (rc l none))) ((e.up (Up.set e.p)).push _) aa y;simp[go_sem,f,A,u,G,D,F,k1,aU,E,cG,i,q,h,z,d,Β,cP (l:=l),s];refine⟨rfl,?_,?_,?_,?_,⟨.own j,?_,by simp[d];exact g⟩,aP⟩;all_goals simp[go_sem,f,C,B]
 ·try simp only at d s I
  obtain⟨j,J,N,i,g,q,h,z⟩:=kG (M:=m+1) (LL:=(m,.k 71 (aB y))::aH L 0 (.c te (rc l none))) ((e.up (Up.set e.p)).push _) aa y;have O:bZ l [44] ⟨U.at_,none⟩=some K:=by rw[<-I,<-d]
  simp only[go_sem,seval,f,A,u,G,D,F,k1,aU,E,cG,i,q,h,z,d,Β,cP (l:=l),s,gy S,O];refine⟨aI,?_,?_,?_,?_,⟨.own j,?_,(g.up (Up.set (x:=.c te (rc l K.bad)) g.p))⟩,aP⟩;all_goals simp[go_sem,f,C,B]
def ahH(D:l.length<=4000){te}{H0}{v w}{ty}(ih:dM l 271 ty)(n)(p)(b:Bool)(t:List Nd×RS)(α:az)(H:ab)(J:xg l (ty) [41] 1 p=some (b,t))(G:KI l te H0 7 10 4 6 v w (n+1) p α H):
  aF (aT ak FP α H) λy F H'=>y=(if b then .normal else .exit 2)/\KI l te H0 7 10 4 6 v w n t F H':=by
 obtain⟨ks,⟨a,z⟩⟩:=p;obtain⟨m,L⟩:=H;obtain⟨c,e,k,h,⟨o,d,f⟩,A⟩:=G;simp only at e d f A;obtain⟨I,s⟩:=ai.1 f.p;have j:=aC s;have i:=ο I;have q:(((ks.length:Nat):Int)==1)=decide (ks.length=1):=dF ks.length 1;have K:FP=.seq (.seq _ _) QP:=rfl;rw[K];rcases Eu J with⟨x,rfl,rfl,rfl⟩|⟨rfl,hf,B,rfl,rfl⟩|⟨rfl,hf,r,E,C⟩
 ·simp only[go_sem,seval,c,j,i,ap2];refine⟨aI,?_,?_,?_,?_,⟨o,?_,f⟩,by simp only;omega⟩;all_goals simp[go_sem,c,e,d,k,h]
 ·have g:decide (ks.length=1)=true:=π hf;simp only[go_sem,seval,c,e,d,j,i,s,ψ,bL,q,g,cP (l:=l),aU,B,ω];refine⟨aI,?_,?_,?_,?_,⟨o,?_,f⟩,by simp only;omega⟩;all_goals simp[go_sem,c,e,d,k,h]
 ·by_cases u:ks.length=1
  ·have g:decide (ks.length=1)=true:=π u;have B:=hf u;simp[go_sem,c,e,d,j,i,s,ψ,bL,q,g,cP (l:=l),aU,B,χ];refine Wp D ih (n:=n) ⟨?_,?_,?_,?_,⟨o,?_,f⟩,A⟩ E C;all_goals simp[go_sem,c,e,d,k,h]
  ·have g:decide (ks.length=1)=false:=ξ u;simp[go_sem,c,d,j,i,ψ,bL,q,g,χ];refine Wp D ih (n:=n) ⟨?_,?_,?_,?_,⟨o,?_,f⟩,A⟩ E C;all_goals simp[go_sem,c,e,d,k,h]
def ahI(d:l.length<=4000){te}{H0}{v w}{ty}(ih:dM l 271 ty){n}{ks}{s:RS}{r:List Nd×RS}{α:az}{H:ab}(a:jn l (ty) [41] 1 n ks s=some r)(c:KI l te H0 7 10 4 6 v w n (ks,s) α H):
  aF (aL (aT ak FP) α H) λy e H'=>y=.exit 2/\∃m,KI l te H0 7 10 4 6 v w m r e H':=by
 rw[B6] at a;exact Ao (Inv:=λn p α H=>KI l te H0 7 10 4 6 v w n p α H) (λn p b t α H f hi=>ahH d ih n p b t α H f hi) n (ks,s) r α H a c
noncomputable def Fq:=f289.c.r.r.r.r.r.r.r.r.r.l.r.t.r.r.l.b.b
noncomputable def P5:=Fq.r
def VN(u:l.length<=4000){te}{H0}{v w}{ty}(ih:dM l 271 ty){ks}{a n}{b}{t}{α}{H}(hI:KI l te H0 6 11 1 4 v w (n+1) (ks,⟨a,none⟩) α H){r}(K:(λs=>bn (iu l (.mk 27 s.at_ 0 [] 0 []) s) λx=>bn (bZ l [58] x.2) λG=>bn (ty G) λt=>some (ended x.1 t.2.at_ [t.1],t.2):RS->RR) ⟨a,none⟩=some r)
  (hb:F' l [125] ks r b t):
  aF (aT ak P5 α H) λy ae H'=>y=(if b then .normal else .exit 1)/\KI l te H0 6 11 1 4 v w n t ae H':=by
 obtain⟨m,L⟩:=H;obtain⟨q,N,Y,P,⟨o,I,g⟩,hn⟩:=hI;simp only at N I g hn;obtain⟨eB,e⟩:=ai.1 g.p;have V:=ο eB;have k1:=kQ rfl rfl ih;have W:=bf (0<m+1);have X:=bf (m<m+1);have S:=bf (m<m+1+1);have U:=bf (m+1<m+1+1);have R:=dJ (m=0);have Q:=dJ (m+1=m);have hQ:P5=.block _ (.seq _ _):=rfl;rw[hQ];obtain⟨x,d,K⟩:=al K;rw[E4] at d;obtain⟨⟨o1,s0⟩,T,d⟩:=al d;cases d;obtain⟨G,O,K⟩:=al K;obtain⟨⟨y,s⟩,J,K⟩:=al K;simp only at O J;cases K
 cases o1 with
 |none=>
  simp only[e9] at hb;rcases hb with⟨x,d,rfl,rfl⟩|⟨d,E,rfl,rfl⟩|⟨d,E,s2,Z,rfl,rfl⟩
  ·try simp only at d
   obtain⟨j,m2,L2,B,h,D,z,F⟩:=kG (M:=m+1+1) (LL:=(m+1,.k 71 (aB y))::(m,.k 71 [.i 27,.i a,.i 0,.str [],.i 0,.vec .nil []])::aH L 0 (.c te (rc l (some x)))) (((g.up (Up.set g.p)).push _).push _) aa (.mk 27 a s.at_ [] 0 [y]);have en:AV.agg [.i 27,.i a,.i s.at_,.str [],.i 0,.vec .ro [aw y]]=aw (.mk 27 a s.at_ [] 0 [y]):=rfl;have A:=eD (e':=s0.bad) e;have C:=eD (e':=G.bad) e;have gs:=eD (e':=(some x)) e;simp[go_sem,q,N,I,V,e,W,X,S,U,R,Q,iJ u,k1,aU,T,dO,dN,f_,eO,en,gy u,O,C,J,A,aQ,cG,B,D,z,d,aEf];refine⟨rfl,?_,?_,?_,?_,⟨.own j,?_,by simp[d];exact h⟩,aP⟩;all_goals simp[go_sem,q,Y,P]
   all_goals rfl
  ·try simp only at d E
   obtain⟨j,m2,L2,B,h,D,z,F⟩:=kG (M:=m+1+1) (LL:=(m+1,.k 71 (aB y))::(m,.k 71 [.i 27,.i a,.i 0,.str [],.i 0,.vec .nil []])::aH L 0 (.c te (rc l none))) (((g.up (Up.set g.p)).push _).push _) aa (.mk 27 a s.at_ [] 0 [y]);have en:AV.agg [.i 27,.i a,.i s.at_,.str [],.i 0,.vec .ro [aw y]]=aw (.mk 27 a s.at_ [] 0 [y]):=rfl;have A:=eD (e':=s0.bad) e;have C:=eD (e':=G.bad) e;have gs:=eD (e':=none) e;simp[go_sem,q,N,I,V,e,W,X,S,U,R,Q,iJ u,k1,aU,T,dO,dN,f_,eO,en,gy u,O,C,J,A,aQ,cG,B,D,z,F,d,Β,cP (l:=l),E];refine⟨rfl,?_,?_,?_,?_,⟨.own j,?_,by simp[d];exact h⟩,aP⟩;all_goals simp[go_sem,q,Y,P]
   all_goals rfl
  ·try simp only at d E Z
   obtain⟨j,m2,L2,B,h,D,z,F⟩:=kG (M:=m+1+1) (LL:=(m+1,.k 71 (aB y))::(m,.k 71 [.i 27,.i a,.i 0,.str [],.i 0,.vec .nil []])::aH L 0 (.c te (rc l none))) (((g.up (Up.set g.p)).push _).push _) aa (.mk 27 a s.at_ [] 0 [y]);have en:AV.agg [.i 27,.i a,.i s.at_,.str [],.i 0,.vec .ro [aw y]]=aw (.mk 27 a s.at_ [] 0 [y]):=rfl;have A:=eD (e':=s0.bad) e;have C:=eD (e':=G.bad) e;have gs:=eD (e':=none) e;have qY:=h.up (Up.set (x:=.c te (rc l s2.bad)) h.p);have gS:bZ l [44] ⟨s.at_,none⟩=some s2:=by rw[<-Z,<-d]
   simp only[go_sem,seval,q,N,I,V,e,W,X,S,U,R,Q,iJ u,k1,aU,T,dO,dN,f_,eO,en,O,C,J,A,aQ,cG,B,D,z,F,d,Β,cP (l:=l),E,gy u,gS];refine⟨aI,?_,?_,?_,?_,⟨.own j,?_,qY⟩,aP⟩;all_goals simp[go_sem,q,Y,P]
   all_goals rfl
 |some f=>
  simp only[e9] at hb;rcases hb with⟨x,d,rfl,rfl⟩|⟨d,E,rfl,rfl⟩|⟨d,E,s2,Z,rfl,rfl⟩
  ·try simp only at d
   obtain⟨j,m2,L2,B,h,D,z,F⟩:=kG (M:=m+1+1) (LL:=(m+1,.k 71 (aB y))::(m,.k 71 [.i 27,.i a,.i 0,.str f.1,.i f.2,.vec .nil []])::aH L 0 (.c te (rc l (some x)))) (((g.up (Up.set g.p)).push _).push _) aa (.mk 27 a s.at_ f.1 f.2 [y]);have en:AV.agg [.i 27,.i a,.i s.at_,.str f.1,.i f.2,.vec .ro [aw y]]=aw (.mk 27 a s.at_ f.1 f.2 [y]):=rfl;have A:=eD (e':=s0.bad) e;have C:=eD (e':=G.bad) e;have gs:=eD (e':=(some x)) e;simp[go_sem,q,N,I,V,e,W,X,S,U,R,Q,iJ u,k1,aU,T,dO,dN,f_,eO,en,gy u,O,C,J,A,aQ,cG,B,D,z,d,aEf];refine⟨rfl,?_,?_,?_,?_,⟨.own j,?_,by simp[d];exact h⟩,aP⟩;all_goals simp[go_sem,q,Y,P]
   all_goals rfl
  ·try simp only at d E
   obtain⟨j,m2,L2,B,h,D,z,F⟩:=kG (M:=m+1+1) (LL:=(m+1,.k 71 (aB y))::(m,.k 71 [.i 27,.i a,.i 0,.str f.1,.i f.2,.vec .nil []])::aH L 0 (.c te (rc l none))) (((g.up (Up.set g.p)).push _).push _) aa (.mk 27 a s.at_ f.1 f.2 [y]);have en:AV.agg [.i 27,.i a,.i s.at_,.str f.1,.i f.2,.vec .ro [aw y]]=aw (.mk 27 a s.at_ f.1 f.2 [y]):=rfl;have A:=eD (e':=s0.bad) e;have C:=eD (e':=G.bad) e;have gs:=eD (e':=none) e;simp[go_sem,q,N,I,V,e,W,X,S,U,R,Q,iJ u,k1,aU,T,dO,dN,f_,eO,en,gy u,O,C,J,A,aQ,cG,B,D,z,F,d,Β,cP (l:=l),E];refine⟨rfl,?_,?_,?_,?_,⟨.own j,?_,by simp[d];exact h⟩,aP⟩;all_goals simp[go_sem,q,Y,P]
   all_goals rfl
  ·try simp only at d E Z
   obtain⟨j,m2,L2,B,h,D,z,F⟩:=kG (M:=m+1+1) (LL:=(m+1,.k 71 (aB y))::(m,.k 71 [.i 27,.i a,.i 0,.str f.1,.i f.2,.vec .nil []])::aH L 0 (.c te (rc l none))) (((g.up (Up.set g.p)).push _).push _) aa (.mk 27 a s.at_ f.1 f.2 [y]);have en:AV.agg [.i 27,.i a,.i s.at_,.str f.1,.i f.2,.vec .ro [aw y]]=aw (.mk 27 a s.at_ f.1 f.2 [y]):=rfl;have A:=eD (e':=s0.bad) e;have C:=eD (e':=G.bad) e;have gs:=eD (e':=none) e;have qY:=h.up (Up.set (x:=.c te (rc l s2.bad)) h.p);have gS:bZ l [44] ⟨s.at_,none⟩=some s2:=by rw[<-Z,<-d]
   simp only[go_sem,seval,q,N,I,V,e,W,X,S,U,R,Q,iJ u,k1,aU,T,dO,dN,f_,eO,en,O,C,J,A,aQ,cG,B,D,z,F,d,Β,cP (l:=l),E,gy u,gS];refine⟨aI,?_,?_,?_,?_,⟨.own j,?_,qY⟩,aP⟩;all_goals simp[go_sem,q,Y,P]
   all_goals rfl
def agF(E:l.length<=4000){te}{H0}{v w}{ty}(ih:dM l 271 ty)(n)(p)(b:Bool)(t:List Nd×RS)(α:az)(H:ab)(M:xg l (λs=>bn (iu l (.mk 27 s.at_ 0 [] 0 []) s) λx=>bn (bZ l [58] x.2) λJ=>bn (ty J) λt=>some (ended x.1 t.2.at_ [t.1],t.2)) [125] 0 p=some (b,t))(I:KI l te H0 6 11 1 4 v w (n+1) p α H):
  aF (aT ak Fq α H) λy G H'=>y=(if b then .normal else .exit 1)/\KI l te H0 6 11 1 4 v w n t G H':=by
 obtain⟨ks,⟨a,z⟩⟩:=p;obtain⟨m,L⟩:=H;obtain⟨c,e,k,h,⟨o,d,f⟩,B⟩:=I;simp only at e d f B;obtain⟨K,u⟩:=ai.1 f.p;have j:=aC u;have i:=ο K;have q:(((ks.length:Nat):Int)==0)=decide (ks.length=0):=dF ks.length 0;have N:Fq=.seq (.seq _ _) P5:=rfl;rw[N];rcases Eu M with⟨x,rfl,rfl,rfl⟩|⟨rfl,hf,C,rfl,rfl⟩|⟨rfl,hf,r,F,D⟩
 ·simp only[go_sem,seval,c,j,i,ap2];refine⟨aI,?_,?_,?_,?_,⟨o,?_,f⟩,by simp only;omega⟩;all_goals simp[go_sem,c,e,d,k,h]
 ·have g:decide (ks.length=0)=true:=π hf;simp only[go_sem,seval,c,e,d,j,i,u,ψ,bL,q,g,cP (l:=l),aU,C,ω];refine⟨aI,?_,?_,?_,?_,⟨o,?_,f⟩,by simp only;omega⟩;all_goals simp[go_sem,c,e,d,k,h]
 ·by_cases A:ks.length=0
  ·have g:decide (ks.length=0)=true:=π A;have C:=hf A;simp only[go_sem,seval,c,e,d,j,i,u,ψ,bL,q,g,cP (l:=l),aU,C,χ];refine VN E ih (n:=n) ⟨?_,?_,?_,?_,⟨o,?_,f⟩,B⟩ F D;all_goals simp[go_sem,c,e,d,k,h]
  ·have g:decide (ks.length=0)=false:=ξ A;simp only[go_sem,seval,c,d,j,i,ψ,bL,q,g,χ];refine VN E ih (n:=n) ⟨?_,?_,?_,?_,⟨o,?_,f⟩,B⟩ F D;all_goals simp[go_sem,c,e,d,k,h]
def agG(d:l.length<=4000){te}{H0}{v w}{ty}(ih:dM l 271 ty){n}{ks:List Nd}{s:RS}{r:List Nd×RS}{α:az}{H:ab}(a:jn l (λs=>bn (iu l (.mk 27 s.at_ 0 [] 0 []) s) λx=>bn (bZ l [58] x.2) λf=>bn (ty f) λt=>some (ended x.1 t.2.at_ [t.1],t.2)) [125] 0 n ks s=some r)(c:KI l te H0 6 11 1 4 v w n (ks,s) α H):
  aF (aL (aT ak Fq) α H) λy e H'=>y=.exit 1/\∃m,KI l te H0 6 11 1 4 v w m r e H':=by
 rw[B6] at a;exact Ao (Inv:=λn p α H=>KI l te H0 6 11 1 4 v w n p α H) (λn p b t α H g hi=>agF d ih n p b t α H g hi) n (ks,s) r α H a c
end
set_option maxRecDepth 100000
set_option maxHeartbeats 4000000
section
variable {l:List Tok}
def ig:List AV:=[.i 0,.i 0,.i 0,.str [],.i 0,.vec .nil []]
def ahJ(k):R l (k+1) .param=λs=>bn (iu l (.mk 5 s.at_ 0 [] 0 []) s) λx=>bn (R l k .typed x.2) λt=>some (ended x.1 t.2.at_ [t.1],t.2):=by funext s;simp[R]
def ajx(f:l.length<=4000){n}(hn:n<=900000)(ih:∀k,k<n->dM l 248 (R l k .typed)):dM l 247 (R l (n+1) .params):=by
 intro s r h;simp[R] at h;obtain⟨G,H,h⟩:=al h;obtain⟨q,b,h⟩:=al h;obtain⟨d,y,h⟩:=al h;cases h
 cases n with
 |zero=>cases b
 |succ k=>
 rw[ahJ] at b;obtain⟨a,e⟩:=s;refine fX (c:=.seq _ (.seq _ (.seq _ (.seq (.block 0 (.loop E5)) _)))) rfl rfl func247 rfl (by rw[ntmps247];simp) (λte=> ?_) (s_ _ _) (kj l _);simp[go_sem,gy f,aU,H];refine jw ?_;rw[gu];refine aW (afS f (ih k aa) b (te:=te) (H0:=⟨2,[(1,.k 71 ig),(0,.c te (rc l G.bad))]⟩) (v:=.i a) (w:=.ptr 1 0) ⟨?_,?_,?_,?_,⟨.nil,?_,⟨rfl,.inl ⟨rfl,rfl⟩,⟨ν _,λj t cs _ h=>h⟩⟩⟩,aP⟩) ?_
 case refine_6=>
  rintro x ae ⟨m1,L1⟩ ⟨rfl,m0,⟨d0,z,E,A,⟨o,B,m⟩,_⟩⟩;refine .inl ⟨.inr rfl,?_⟩;obtain⟨I,D⟩:=ai.1 m.p;obtain⟨C,u⟩:=ai.1 (m.k.2 1 (some 71) ig aA rfl);have F:bZ l [41] ⟨q.2.at_,q.2.bad⟩=some d:=y;have J:ig.length=6:=rfl;simp only[go_sem,seval,d0,z,E,A,B,ο I,ο C,D,u,aC u,J,gy f,aU,F,aQ,eO,nK q.1,sO m.g,aR,fV,results247];exact Ι (λx=>some (x,te,rc l d.bad)) (lM (.mk 4 a d.at_ [] 0 q.1) _)
 all_goals simp[go_sem,]
 all_goals rfl
def vM(l:List Tok)(n:Nat)(s:RS):Option ((Nd×Nd×Nd)×RS):=bn (R l n .params s) λa=>bn (R l n .typed a.2) λb=>bn (R l n .block b.2) λc=>some ((a.1,b.1,c.1),c.2)
def LA(l:List Tok)(f:FuncId)(one:RS->Option ((Nd×Nd×Nd)×RS)):Prop:=∀s r,one s=some r->Io ak f [.i s.at_] (rc l s.bad) (.tup [.vec .ro [aw r.1.1,aw r.1.2.1,aw r.1.2.2],.i r.2.at_]) (rc l r.2.bad)
def abb{f}{one:RS->Option ((Nd×Nd×Nd)×RS)}(d:ak.cl f=false)(c:ak.io f=true)(h:LA l f one)(a:Nat)(i:Nat)(H:ab):
  bu ak f [.ptr i 0,.i a] H=ia (rg l) (H.get i) (λp=>wm (one ⟨a,p.2⟩) (λr=>some (.tup [.vec .ro [aw r.1.1,aw r.1.2.1,aw r.1.2.2],.i r.2.at_],H.set i (.cells p.1 (rc l r.2.bad)))) (bu ak f [.ptr i 0,.i a] H)) (bu ak f [.ptr i 0,.i a] H):=
 rI λs b=>Ct λr e=>sQ (first:=[]) (ar:=[.ptr i 0,.i a]) (args:=[.i a]) d c rfl rfl (A6 l s.2) (yC l s.2) (kj l s.2) b (h ⟨a,s.2⟩ r e)
def ajy(hl:l.length<=4000){n}(i:dM l 247 (R l n .params))(d:dM l 248 (R l n .typed))(j:dM l 249 (R l n .block)):LA l 231 (vM l n):=by intro s r h;unfold vM at h;obtain⟨a,g,h⟩:=al h;obtain⟨b,hb,h⟩:=al h;obtain⟨c,k,h⟩:=al h;cases h;obtain⟨at0,e⟩:=s;refine fX rfl rfl func231 rfl (by rw[ntmps231];simp) (λte=> ?_) (by simp[AV.aq,AV.aq.go,iL]) (kj l _);have m:R l n .typed ⟨a.2.at_,a.2.bad⟩=some b:=hb;have f:R l n .block ⟨b.2.at_,b.2.bad⟩=some c:=k;simp[go_sem,kQ rfl rfl i,kQ rfl rfl d,kQ rfl rfl j,aU,g,m,f,results231];rfl
noncomputable def Sa:=f249.c.r.r.r.l.b.b
def J4(l:List Tok)(one:RS->RR)(p:List Nd×RS):Option (Bool×(List Nd×RS)):=
 if p.2.bad.isNone then bn (cV l p.2.at_ [125]) λb=>if b then some (false,p) else bn (one p.2) λr=>some (true,(p.1++[r.1],r.2)) else some (false,p)
def Ve{one:RS->RR}:∀n ks s,oD l one n ks s=iter (J4 l one) n (ks,s)
 |0,ks,s=>rfl
 |n+1,ks,s=>by
  rw[oD,iter,J4];simp only;split
  ·cases cV l s.at_ [125] with
   |none=>rfl
   |some b=>
    simp[fy]
    cases b with
    |true=>rfl
    |false=>
     simp
     cases one s with
     |none=>rfl
     |some r=>exact Ve n _ _
  ·rfl
def agH(hl:l.length<=4000){te}{H0}{v w}{ty}(ih:dM l 263 ty)(n)(p)(b)(t)(α:az)(H:ab)(d:J4 l ty p=some (b,t))(K:KI l te H0 6 7 1 4 v w (n+1) p α H):
  aF (aT ak Sa α H) λy G H'=>y=(if b then .normal else .exit 0)/\KI l te H0 6 7 1 4 v w n t G H':=by
 obtain⟨ks,⟨a,z⟩⟩:=p;obtain⟨m,L⟩:=H;obtain⟨f,h,A,q,⟨o,i,e⟩,O⟩:=K;simp only at h i e O;obtain⟨N,r⟩:=ai.1 e.p;have u:=aC r;have s:=ο N;have R:Sa=.seq (.seq _ _) _:=rfl;rw[R];unfold J4 at d
 cases z with
 |some x=>
  simp at d;obtain⟨rfl,rfl⟩:=d;simp only[go_sem,seval,f,u,s,ap2];refine⟨aI,?_,?_,?_,?_,⟨o,?_,e⟩,by simp only;omega⟩;all_goals simp[go_sem,f,h,i,A,q]
 |none=>
  simp at d;obtain⟨F,C,d⟩:=al d
  cases F with
  |true=>
   simp at d;obtain⟨rfl,rfl⟩:=d;simp only[go_sem,seval,f,h,u,s,r,ψ,cP (l:=l),aU,C,ω];refine⟨aI,?_,?_,?_,?_,⟨o,?_,e⟩,by simp only;omega⟩;all_goals simp[go_sem,f,h,i,A,q]
  |false=>
   simp at d;obtain⟨⟨y,B⟩,M,d⟩:=al d;cases d;have Q:=bf (m<m+1);obtain⟨j,⟨D,P⟩,I,E,p3,_⟩:=Ch pS (m:=λ_=>false) rfl (o:=o) (o2:=.full) (es:=br ks) (xs:=[aw y]) (H:=⟨m+1,(m,.k 71 (aB y))::aH L 0 (.c te (rc l B.bad))⟩) (by rw[bL];exact((e.up (Up.set e.p)).push _).g) (qB ks) (cQ.one y) ah (by rw[bL];simp;omega) (by rw[bL];simp;omega);have J:j7 l te H0 (.own j) (ks++[y]) B.bad ⟨D,P⟩:=j7.app ((e.up (Up.set e.p)).push _) p3 (by simpa[bL] using E);have es:br ks++[aw y]=br (ks++[y]):=by rw[tY];rfl
   simp only[go_sem,seval,f,h,i,u,s,r,Q,ψ,cP (l:=l),aU,C,χ,kQ rfl rfl ih,M,cG,I,es];refine⟨aI,?_,?_,?_,?_,⟨.own j,?_,J⟩,aP⟩;all_goals simp[go_sem,f,A,q]
def anb(f:l.length<=4000){n}(hn:n<=900000)(ih:dM l 263 (R l n .stmt)):dM l 249 (R l (n+1) .block):=by
 intro s r h;simp[R] at h;obtain⟨F,G,h⟩:=al h;obtain⟨q,u,h⟩:=al h;obtain⟨d,w,h⟩:=al h;cases h;obtain⟨a,e⟩:=s;refine fX (c:=.seq _ (.seq _ (.seq _ (.seq (.block 0 (.loop Sa)) _)))) rfl rfl func249 rfl (by rw[ntmps249];simp) (λte=> ?_) (s_ _ _) (kj l _);simp[go_sem,gy f,aU,G];refine jw ?_;rw[gu];rw[Ve] at u;refine aW (Ao (Inv:=λn p α H=>KI l te ⟨2,[(1,.k 71 ig),(0,.c te (rc l F.bad))]⟩ 6 7 1 4 (.i a) (.ptr 1 0) n p α H) (λn p b t α H I hi=>agH f ih n p b t α H I hi) n _ q _ _ u ⟨?_,?_,?_,?_,⟨.nil,?_,⟨rfl,.inl ⟨rfl,rfl⟩,⟨ν _,λj t cs _ h=>h⟩⟩⟩,aP⟩) ?_
 case refine_6=>
  rintro x ae ⟨m1,L1⟩ ⟨rfl,m0,⟨d0,y,D,z,⟨o,A,m⟩,_⟩⟩;refine .inl ⟨.inr rfl,?_⟩;obtain⟨J,C⟩:=ai.1 m.p;obtain⟨B,v⟩:=ai.1 (m.k.2 1 (some 71) ig aA rfl);have E:bZ l [125] ⟨q.2.at_,q.2.bad⟩=some d:=w;have K:ig.length=6:=rfl;simp only[go_sem,seval,d0,y,D,z,A,ο J,ο B,C,v,aC v,K,gy f,aU,E,aQ,eO,nK q.1,sO m.g,aR,fV,results249];exact Ι (λx=>some (x,te,rc l d.bad)) (lM (.mk 6 a d.at_ [] 0 q.1) _)
 all_goals simp[go_sem,]
 all_goals rfl
end
set_option maxRecDepth 100000
set_option maxHeartbeats 4000000
section
variable {l:List Tok}
structure SI(l:List Tok)(te:Option TypeId)(x:Nd)(s:RS)(α:az)(H:ab):Prop where
 z:α 0=.ptr 0 0
 a:α 7=.i s.at_
 c:α 4=.ptr 1 0
 d:α 6=.ptr 2 0
 p:H.get 0=some (.c te (rc l s.bad))
 r:H.get 1=some (.k 71 ig)
 x:H.get 2=some (.k 71 (aB x))
def Fs{te}{x}{e e'}{m}{L}{X}{cs}(d:cg L 0=some (.c te (rc l e)))(a:cg L 1=some (.k 71 ig))(b:cg L 2=some (.k 71 (aB x)))(m3:2<m):
  ab.get ⟨m+1,(m,X)::aH (aH L 0 (.c te (rc l e'))) 2 (.k 71 cs)⟩ 0=some (.c te (rc l e'))/\ab.get ⟨m+1,(m,X)::aH (aH L 0 (.c te (rc l e'))) 2 (.k 71 cs)⟩ 1=some (.k 71 ig)/\ab.get ⟨m+1,(m,X)::aH (aH L 0 (.c te (rc l e'))) 2 (.k 71 cs)⟩ 2=some (.k 71 cs):=by
 refine⟨ai.2 ⟨aa,?_⟩,ai.2 ⟨aa,?_⟩,ai.2 ⟨aa,?_⟩⟩
 ·rw[bo,bM,aR,κ aA,aR,μ rfl,d];rfl
 ·rw[bo,bM,aR,κ aA,aR,κ aA];exact a
 ·rw[bo,bM,aR,μ rfl,aR,κ aA,b];rfl
def Zw{a}{x y}(h:cV l a x=some true)(b:x≠y):cV l a y=some false:=by
 unfold cV at h⊢
 cases hx:l[a]? with
 |none=>rw[hx] at h;cases h
 |some t=>rw[hx] at h;simp only[aFJ,Ζ,Ω,aEn] at h⊢;rw[h.2,ξ b,Bool.and_false]
def wQ:ig.length=6:=(rfl)
def vA(x):eg ig 0 (aB x)=aB x:=by rw[Zd _ _ (by rw[IV,wQ])]
noncomputable def Sd:=f277.c.r.r.l.b.b
def Vf(F:l.length<=4000){te}{one}(ih:dM l 283 one):
  ∀n x s r α H,s8 l one n x s=some r->SI l te x s α H->
   aF (aL (aT ak Sd) α H) λy D H'=>y=.exit 0/\SI l te r.1 r.2 D H'
 |0,x,s,r,α,H,c,B=>by cases c
 |n+1,x,s,r,α,H,c,B=>by
  obtain⟨m,L⟩:=H;obtain⟨a,z⟩:=s;obtain⟨d,g,A,h,q,w,v⟩:=B;obtain⟨I,e⟩:=ai.1 q;obtain⟨C,o⟩:=ai.1 v;obtain⟨adN,K⟩:=ai.1 w;simp only at g e;have u:=aC e;have t:=ο I;have M:Sd=.seq (.seq _ _) _:=rfl;rw[aJ,M];rw[s8] at c
  cases z with
  |some b=>
   simp at c;subst c;simp only[go_sem,seval,d,u,t,ap2];refine⟨aI,?_,?_,?_,?_,q,w,v⟩;all_goals simp[go_sem,d,g,A,h]
  |none=>
   simp at c;obtain⟨p,j,c⟩:=al c
   cases p with
   |false=>
    simp at c;subst c;simp only[go_sem,seval,d,g,u,t,e,ψ,cP (l:=l),aU,j];refine⟨aI,?_,?_,?_,?_,q,w,v⟩;all_goals simp[go_sem,d,g,A,h]
   |true=>
    simp at c;obtain⟨⟨y,i⟩,G,c⟩:=al c;have E:=mh (n:=a) (by have:=vz j;omega);have N:=bf (2<m+1);have J:=bf (m<m+1);have n2:=dJ (m=2);have hf:=Fs (e':=i.bad) (X:=.k 71 (aB y)) (cs:=aB (.mk 18 x.f i.at_ [] 0 [x,y])) e K o C;simp only[go_sem,seval,d,g,h,u,t,e,aC o,o,N,J,n2,ψ,cP (l:=l),aU,j,E,kQ rfl rfl ih,G,aQ,eO,aR,fV];refine Vf F ih n (.mk 18 x.f i.at_ [] 0 [x,y]) i r _ _ c ⟨?_,?_,?_,?_,hf.1,hf.2.1,hf.2.2⟩;all_goals simp[go_sem,d,A,h]
def as2(i:l.length<=4000){n}(ih:dM l 283 (R l n .post)):dM l 277 (R l (n+1) .term):=by
 rintro⟨a,e⟩ r h;simp[R] at h;obtain⟨⟨x,o⟩,g,h⟩:=al h;refine fX (c:=.seq _ (.seq _ (.seq (.block 0 (.loop Sd)) _))) rfl rfl func277 rfl (by rw[ntmps277];simp) (λte=> ?_) (s_ _ _) (kj l _);simp[go_sem,kQ rfl rfl ih,aU,g];refine jw ?_;rw[gu];refine aW (Vf i ih n x o r _ _ h (te:=te) ⟨?_,?_,?_,?_,rfl,rfl,rfl⟩) ?_
 case refine_5=>
  rintro y ae ⟨m1,L1⟩ ⟨rfl,⟨d0,d,m,t,dp,p,q⟩⟩;refine .inl ⟨.inr rfl,?_⟩;obtain⟨s,k⟩:=ai.1 dp;obtain⟨j,b⟩:=ai.1 p;obtain⟨f,g2⟩:=ai.1 q;simp[go_sem,d,m,t,ο s,ο j,ο f,k,b,aC b,aC g2,wQ,vA,aR,fV,results277]
 all_goals simp[go_sem,]
noncomputable def Se:=f274.c.r.r.l.b.b
def Nh(I:l.length<=4000){te}{one}(ih:dM l 277 one):
  ∀n x s r α H,o6 l one n x s=some r->SI l te x s α H->
   aF (aL (aT ak Se) α H) λy N H'=>y=.exit 0/\SI l te r.1 r.2 N H'
 |0,x,s,r,α,H,c,G=>by cases c
 |n+1,x,s,r,α,H,c,G=>by
  obtain⟨m,L⟩:=H;obtain⟨a,z⟩:=s;obtain⟨e,i,w,h,A,D,C⟩:=G;obtain⟨O,g⟩:=ai.1 A;obtain⟨E,t⟩:=ai.1 C;obtain⟨adN,K⟩:=ai.1 D;simp only at i g;have v:=aC g;have c2:=aC t;have u:=ο O;have k1:=kQ rfl rfl ih;have P:Se=.seq (.seq _ _) _:=rfl;rw[aJ,P];rw[o6] at c
  cases z with
  |some b=>
   simp at c;subst c;simp only[go_sem,seval,e,v,u,ap2];refine⟨aI,?_,?_,?_,?_,A,D,C⟩;all_goals simp[go_sem,e,i,w,h]
  |none=>
   simp at c;obtain⟨p,o,c⟩:=al c;obtain⟨q,j,c⟩:=al c;have M:=bf (2<m+1);have J:=bf (m<m+1);have n2:=dJ (m=2);have F:=mh (n:=a) (by have:=vz o;omega)
   cases p with
   |true=>
    simp at j;subst j;simp at c;obtain⟨⟨y,d⟩,B,c⟩:=al c;have hf:=Fs (e':=d.bad) (X:=.k 71 (aB y)) (cs:=aB (.mk 16 x.f d.at_ [] 0 [x,y])) g K t E;simp only[go_sem,seval,e,i,h,v,u,g,c2,t,M,J,n2,ψ,cP (l:=l),aU,o,(Zw o (y:=[45]) aA),F,k1,B,aQ,eO,aR,fV];refine Nh I ih n (.mk 16 x.f d.at_ [] 0 [x,y]) d r _ _ c ⟨?_,?_,?_,?_,hf.1,hf.2.1,hf.2.2⟩;all_goals simp[go_sem,e,w,h]
   |false=>
    simp at j
    cases q with
    |false=>
     simp at c;subst c;simp only[go_sem,seval,e,i,v,u,g,ψ,cP (l:=l),aU,o,j];refine⟨aI,?_,?_,?_,?_,A,D,C⟩;all_goals simp[go_sem,e,i,w,h]
    |true=>
     simp at c;obtain⟨⟨y,d⟩,B,c⟩:=al c;have hf:=Fs (e':=d.bad) (X:=.k 71 (aB y)) (cs:=aB (.mk 17 x.f d.at_ [] 0 [x,y])) g K t E;simp only[go_sem,seval,e,i,h,v,u,g,c2,t,M,J,n2,ψ,cP (l:=l),aU,o,j,F,k1,B,aQ,eO,aR,fV];refine Nh I ih n (.mk 17 x.f d.at_ [] 0 [x,y]) d r _ _ c ⟨?_,?_,?_,?_,hf.1,hf.2.1,hf.2.2⟩;all_goals simp[go_sem,e,w,h]
def axR(i:l.length<=4000){n}(ih:dM l 277 (R l n .term)):dM l 274 (R l (n+1) .sum):=by
 rintro⟨a,e⟩ r h;simp[R] at h;obtain⟨⟨x,o⟩,g,h⟩:=al h;refine fX (c:=.seq _ (.seq _ (.seq (.block 0 (.loop Se)) _))) rfl rfl func274 rfl (by rw[ntmps274];simp) (λte=> ?_) (s_ _ _) (kj l _);simp[go_sem,kQ rfl rfl ih,aU,g];refine jw ?_;rw[gu];refine aW (Nh i ih n x o r _ _ h (te:=te) ⟨?_,?_,?_,?_,rfl,rfl,rfl⟩) ?_
 case refine_5=>
  rintro y ae ⟨m1,L1⟩ ⟨rfl,⟨d0,d,m,t,dp,p,q⟩⟩;refine .inl ⟨.inr rfl,?_⟩;obtain⟨s,k⟩:=ai.1 dp;obtain⟨j,b⟩:=ai.1 p;obtain⟨f,g2⟩:=ai.1 q;simp[go_sem,d,m,t,ο s,ο j,ο f,k,b,aC b,aC g2,wQ,vA,aR,fV,results274]
 all_goals simp[go_sem,]
def as3(hl:l.length<=4000){n}(ih:dM l 274 (R l n .sum)):dM l 271 (R l (n+1) .expr):=by
 rintro⟨a,e⟩ r h;simp[R] at h;obtain⟨⟨x,⟨a1,t⟩⟩,m,h⟩:=al h;refine fX rfl rfl func271 rfl (by rw[ntmps271];simp) (λte=> ?_) (s_ _ _) (kj l _);have k1:=kQ rfl rfl ih
 cases t with
 |some b=>simp at h;subst h;simp[go_sem,k1,aU,m,aEf,results271]
 |none=>
  simp at h;obtain⟨p,d,h⟩:=al h;obtain⟨q,c,h⟩:=al h;have s:=mh (n:=a1) (by have:=vz d;omega)
  cases p with
  |true=>simp at c;subst c;simp at h;obtain⟨k,g,h⟩:=al h;have j:=Zw d (y:=[61,61]) aA;rw[j] at g;cases g;obtain⟨⟨y,i⟩,o,h⟩:=al h;simp at h;subst h;simp only[go_sem,seval,k1,aU,m,Β,cP (l:=l),d,j,s,o,ω,aQ,eO,results271];exact Ι (λx=>some (x,te,rc l i.bad)) (lM (.mk 14 x.f i.at_ [] 0 [x,y]) _)
  |false=>
   simp at c
   cases q with
   |false=>simp at h;subst h;simp[go_sem,k1,aU,m,Β,cP (l:=l),d,c,χ,results271]
   |true=>simp at h;obtain⟨k,g,h⟩:=al h;rw[c] at g;cases g;obtain⟨⟨y,i⟩,o,h⟩:=al h;simp at h;subst h;simp only[go_sem,seval,k1,aU,m,Β,cP (l:=l),d,c,s,o,ω,χ,aQ,eO,results271];exact Ι (λx=>some (x,te,rc l i.bad)) (lM (.mk 15 x.f i.at_ [] 0 [x,y]) _)
end
end Go.Proofs.YtmehamiifalmaaaGreatDoor
namespace Go.Ab
open Go
def dm{E}{call}{id}{B}{α}{H}{Q:az->ab->Prop}(h:aF (aL (aN E call aL B) α H) λy a H'=>y=.exit id/\Q a H'):∃r,aN E call aL (.loop B) α H=some r/\∃a H',r=(.exit id,a,H')/\Q a H':=by obtain⟨e,a,H',b,c,h3⟩:=ke h;subst c;exact⟨(.exit id,a,H'),by rw[gu,b],a,H',rfl,h3⟩
end Go.Ab
namespace Go.Proofs.YtmehamiifalmaaaGreatDoor
open Go Go.Ab Go.Proofs.Tryz
set_option maxRecDepth 100000
set_option maxHeartbeats 4000000
section
variable {l:List Tok}
def HE(B:l.length<=4000){te}{one:RS->RR}(ih:dM l 271 one):
  ∀n x s r α H,n<=900000->oX l one n x s=some r->SI l te x s α H->
   aF (aL (aT ak Kv) α H) λy W H'=>y=.exit 0/\SI l te r.1 r.2 W H'
 |0,x,s,r,α,H,hn,c,Z=>by cases c
 |n+1,x,s,r,α,H,hn,c,Z=>by
  obtain⟨m,L⟩:=H;obtain⟨a,z⟩:=s;obtain⟨d,C,J,e,M,P,O⟩:=Z;obtain⟨eB,u⟩:=ai.1 M;obtain⟨Q,F⟩:=ai.1 O;obtain⟨adN,Bn⟩:=ai.1 P;simp only at C u;have G:=aC u;have c2:=aC F;have I:=ο eB;have R:=ο Q;have hB:Kv=.seq (.seq _ _) (.block _ (.seq _ (.seq _ (.seq _ (.seq (.block 2 (.loop FP)) _))))):=rfl;rw[aJ,hB];rw[oX] at c
  cases z with
  |some b=>
   simp only[ap2,υ,ap1,Ζ] at c;subst c;simp only[go_sem,seval,d,G,I,ap2];refine⟨aI,?_,?_,?_,?_,M,P,O⟩;all_goals simp[go_sem,d,C,J,e]
  |none=>
   simp only[ψ,aEl] at c;obtain⟨p,E,c⟩:=al c;have y2:=bf (2<m+1);have ym:=bf (m<m+1);have n2:=dJ (m=2);have T:=mh (n:=a) (by have:=vz E;omega)
   cases p with
   |true=>
    simp only[aEl] at c;obtain⟨y,N,c⟩:=al c;rw[E4] at N;obtain⟨⟨o1,A⟩,V,N⟩:=al N;cases N
    cases o1 with
    |none=>
     have hf:=Fs (e':=A.bad) (X:=.k 71 [.i 19,.i x.f,.i 0,.str [],.i 0,.vec .nil []]) (cs:=aB (.mk 19 x.f A.at_ [] 0 [x])) u Bn F Q;simp only[go_sem,seval,d,C,e,G,I,R,u,c2,F,y2,ym,n2,ψ,cP (l:=l),aU,E,T,iJ B,V,dO,dN,aQ,eO,aR,fV];refine HE B ih n (.mk 19 x.f A.at_ [] 0 [x]) A r _ _ aa c ⟨?_,?_,?_,?_,hf.1,hf.2.1,hf.2.2⟩;all_goals simp[go_sem,d,J,e]
    |some D=>
     have hf:=Fs (e':=A.bad) (X:=.k 71 [.i 19,.i x.f,.i 0,.str D.1,.i D.2,.vec .nil []]) (cs:=aB (.mk 19 x.f A.at_ D.1 D.2 [x])) u Bn F Q;simp only[go_sem,seval,d,C,e,G,I,R,u,c2,F,y2,ym,n2,ψ,cP (l:=l),aU,E,T,iJ B,V,dO,dN,aQ,eO,aR,fV];refine HE B ih n (.mk 19 x.f A.at_ D.1 D.2 [x]) A r _ _ aa c ⟨?_,?_,?_,?_,hf.1,hf.2.1,hf.2.2⟩;all_goals simp[go_sem,d,J,e]
   |false=>
    simp only[υ,ap1] at c;obtain⟨q,U,c⟩:=al c
    cases q with
    |false=>
     simp only[υ,ap1,Ζ] at c;subst c;simp only[go_sem,seval,d,C,G,I,u,ψ,cP (l:=l),aU,E,U];refine⟨aI,?_,?_,?_,?_,M,P,O⟩;all_goals simp[go_sem,d,C,J,e]
    |true=>
     simp only[aEl] at c;obtain⟨w,lG,c⟩:=al c;obtain⟨S,bF,c⟩:=al c;simp[go_sem,d,C,e,G,I,R,u,c2,ψ,cP (l:=l),aU,E,U,T];simp only[bW];refine bz (dm (ahI B ih lG (te:=te) (H0:=⟨m,L⟩) (v:=.ptr 1 0) (w:=.ptr 2 0) ⟨?_,?_,?_,?_,⟨.full,?_,⟨M,.inr (.inl ⟨rfl,ah⟩),⟨ν _,λj t cs _ h=>h⟩⟩⟩,aP⟩)) ?_
     case refine_6=>
      rintro _ ⟨W,⟨m1,L1⟩,rfl,m0,⟨d0,da,dc,dd,⟨o,dk,K⟩,_⟩⟩;obtain⟨w0,Y⟩:=ai.1 K.p;obtain⟨w1,g1⟩:=ai.1 (K.k.2 1 (some 71) ig aA P);obtain⟨w2,g2⟩:=ai.1 (K.k.2 2 (some 71) (aB x) aA O);have gS:bZ l [41] ⟨w.2.at_,w.2.bad⟩=some S:=bF;simp only[go_sem,seval,d0,da,dd,dk,ο w0,ο w2,Y,g2,aC g2,gy B,aU,gS,aQ,eO,nK w.1,sO K.g,aR,fV];refine HE B ih n (.mk 20 x.f S.at_ [] 0 w.1) S r _ _ aa c ⟨?_,?_,?_,?_,ai.2 ⟨w0,?_⟩,ai.2 ⟨w1,?_⟩,ai.2 ⟨w2,?_⟩⟩;case refine_5=>rw[aR,κ aA,aR,μ rfl,Y];rfl
      case refine_6=>rw[aR,κ aA,aR,κ aA];exact g1
      case refine_7=>rw[aR,μ rfl,aR,κ (show ¬(0=2) by decide),g2];rfl
      all_goals simp[go_sem,d0,dc,dd]
     all_goals simp[go_sem,d,J,e]
     rfl
def as4(j:l.length<=4000){n}(t:n<=900000)(ih:dM l 289 (R l n .atom))(d:dM l 271 (R l n .expr)):dM l 283 (R l (n+1) .post):=by
 rintro⟨a,e⟩ r h;simp[R] at h;obtain⟨⟨x,p⟩,i,h⟩:=al h;refine fX (c:=.seq _ (.seq _ (.seq (.block 0 (.loop Kv)) _))) rfl rfl func283 rfl (by rw[ntmps283];simp) (λte=> ?_) (s_ _ _) (kj l _);simp[go_sem,kQ rfl rfl ih,aU,i];refine jw ?_;rw[gu];refine aW (HE j d n x p r _ _ t h (te:=te) ⟨?_,?_,?_,?_,rfl,rfl,rfl⟩) ?_
 case refine_5=>
  rintro y ae ⟨m1,L1⟩ ⟨rfl,⟨d0,f,o,v,dp,q,s⟩⟩;refine .inl ⟨.inr rfl,?_⟩;obtain⟨u,m⟩:=ai.1 dp;obtain⟨k,b⟩:=ai.1 q;obtain⟨g,g2⟩:=ai.1 s;simp[go_sem,f,o,v,ο u,ο k,ο g,m,b,aC b,aC g2,wQ,vA,aR,fV,results283]
 all_goals simp[go_sem,]
end
set_option maxRecDepth 100000
set_option maxHeartbeats 4000000
section
variable {l:List Tok}
def w01:IntKind.i64.wrap (0+1)=1:=rfl
def w12:IntKind.i64.wrap (1+1)=2:=rfl
def w23:IntKind.i64.wrap (2+1)=3:=rfl
def aBJ:IntKind.i64.wrap (29+0)=29:=rfl
def aBK:IntKind.i64.wrap (29+1)=30:=rfl
def aBL:IntKind.i64.wrap (29+2)=31:=rfl
def l03:decide ((0:Int)<3)=true:=rfl
def l13:decide ((1:Int)<3)=true:=rfl
def l23:decide ((2:Int)<3)=true:=rfl
def l33:decide ((3:Int)<3)=false:=rfl
def aBM(a b c)(H):dZ prog 66 3 [(0,.str a),(1,.str b),(2,.str c)] H=some (.vec .full [.str a,.str b,.str c],H):=by simp[dZ,AU,ki,aa7,mc,fF,lj,aa1,AV.width,AV.cells,eo,AV.one]
def abc(a b c):dW prog 66 (.vec .full [.str a,.str b,.str c]) (.i 0)=some (.rptr [.str a]):=by simp[dW,AU,ki,AV.width,AV.cells]
def abd(a b c):dW prog 66 (.vec .full [.str a,.str b,.str c]) (.i 1)=some (.rptr [.str b]):=by simp[dW,AU,ki,AV.width,AV.cells]
def abe(a b c):dW prog 66 (.vec .full [.str a,.str b,.str c]) (.i 2)=some (.rptr [.str c]):=by simp[dW,AU,ki,AV.width,AV.cells]
noncomputable def Jr:=f262.c.r.r.r.r.l.r.b.b
def ahK(k):R l (k+1) .field=λs=>bn (iu l (.mk 33 s.at_ 0 [] 0 []) s) λx=>bn (bZ l [58] x.2) λa=>bn (R l k .kind a) λt=>some (ended x.1 t.2.at_ [t.1],t.2):=by funext s;simp[R]
def PlP(l:List Tok)(te:Option TypeId)(a:Nat)(b:Bool)(e:Ex)(d:az)(H':ab):Prop:=
   (∃k,((k=29/\b=true)\/(k=30/\b=false/\cV l a [115,116,114]=some true)\/(k=31/\b=false/\cV l a [115,116,114]=some false/\cV l a [100,121,110]=some true))/\(e=.ret/\H'=⟨2,[(1,.k 71 (aB (.mk k a (a+1) [] 0 []))),(0,.c te (rc l none))]⟩)/\d 4=.ptr 1 0/\d 5=.i (a+1:Nat))\/
   ((b=false/\cV l a [115,116,114]=some false/\cV l a [100,121,110]=some false)/\(e=.exit 0/\H'=⟨2,[(1,.k 71 ig),(0,.c te (rc l none))]⟩)/\d 0=.ptr 0 0/\d 1=.i a/\d 4=.ptr 1 0/\d 6=.i a)
def agI(hl:l.length<=4000){te}{a:Nat}{b:Bool}(m:cV l a [105,110,116]=some b){α:az}(a0:α 0=.ptr 0 0)(a1:α 1=.i a)(a4:α 4=.ptr 1 0)(a6:α 6=.i a)(a7:α 7=.vec .full [.str [105,110,116],.str [115,116,114],.str [100,121,110]])(a8:α 8=.i 0)
  (t:b=false->∃c,cV l a [115,116,114]=some c/\(c=false->∃d,cV l a [100,121,110]=some d)):
  ∃r,aN ak (run ak) aL (.loop Jr) α ⟨2,[(1,.k 71 ig),(0,.c te (rc l none))]⟩=some r/\
   ((∃k f,((k=29/\b=true)\/(k=30/\b=false/\cV l a [115,116,114]=some true)\/(k=31/\b=false/\cV l a [115,116,114]=some false/\cV l a [100,121,110]=some true))/\r=(.ret,f,⟨2,[(1,.k 71 (aB (.mk k a (a+1) [] 0 []))),(0,.c te (rc l none))]⟩)/\f 4=.ptr 1 0/\f 5=.i (a+1:Nat))\/
    (∃f,(b=false/\cV l a [115,116,114]=some false/\cV l a [100,121,110]=some false)/\r=(.exit 0,f,⟨2,[(1,.k 71 ig),(0,.c te (rc l none))]⟩)/\f 0=.ptr 0 0/\f 1=.i a/\f 4=.ptr 1 0/\f 6=.i a)):=by
 suffices hh:aF (aL (aN ak (run ak) aL Jr) α ⟨2,[(1,.k 71 ig),(0,.c te (rc l none))]⟩) λe f H'=>
   PlP l te a b e f H' by
  obtain⟨e,f,H',s,u⟩:=ke hh;refine⟨(e,f,H'),by rw[gu];exact s,?_⟩;rcases u with⟨k,h,⟨rfl,rfl⟩,j,h5⟩|⟨h,⟨rfl,rfl⟩,p,v,o,q⟩
  ·exact .inl ⟨k,f,h,rfl,j,h5⟩
  ·exact .inr ⟨f,h,rfl,p,v,o,q⟩
 have g:=mh (n:=a) (by have:=vz m;omega);have w:Jr=.seq (.seq _ _) _:=rfl;rw[aJ,w]
 cases b with
 |true=>
  simp only[go_sem,↓reduceIte,Nat.reduceEqDiff,Nat.reduceAdd,Nat.reduceLT,Nat.reduceLeDiff,ne_eq,reduceCtorEq,aEW,aGG,Γ,Χ,a0,a1,a4,a6,a7,a8,l03,aBJ,g,abc,cP (l:=l),aU,m,aQ];refine .inl ⟨29,.inl ⟨rfl,rfl⟩,⟨rfl,rfl⟩,?_,?_⟩;all_goals simp only[go_sem,↓reduceIte,Nat.reduceEqDiff,a4]
 |false=>
  obtain⟨c,h3,j⟩:=t rfl;simp only[go_sem,↓reduceIte,Nat.reduceEqDiff,Nat.reduceLT,reduceCtorEq,a0,a6,a7,a8,l03,w01,abc,cP (l:=l),aU,m];rw[aJ]
  cases c with
  |true=>
   simp only[go_sem,↓reduceIte,Nat.reduceEqDiff,Nat.reduceAdd,Nat.reduceLT,Nat.reduceLeDiff,ne_eq,reduceCtorEq,aEW,aGG,Γ,Χ,a0,a1,a4,a6,a7,l13,aBK,g,abd,cP (l:=l),aU,h3,aQ];refine .inl ⟨30,.inr (.inl ⟨rfl,rfl,h3⟩),⟨rfl,rfl⟩,?_,?_⟩;all_goals simp only[go_sem,↓reduceIte,Nat.reduceEqDiff,a4]
  |false=>
   obtain⟨d,h5⟩:=j rfl;simp only[go_sem,↓reduceIte,Nat.reduceEqDiff,Nat.reduceLT,reduceCtorEq,a0,a6,a7,l13,w12,abd,cP (l:=l),aU,h3];rw[aJ]
   cases d with
   |true=>
    simp only[go_sem,↓reduceIte,Nat.reduceEqDiff,Nat.reduceAdd,Nat.reduceLT,Nat.reduceLeDiff,ne_eq,reduceCtorEq,aEW,aGG,Γ,Χ,a0,a1,a4,a6,a7,l23,aBL,g,abe,cP (l:=l),aU,h5,aQ];refine .inl ⟨31,.inr (.inr ⟨rfl,rfl,h3,h5⟩),⟨rfl,rfl⟩,?_,?_⟩;all_goals simp only[go_sem,↓reduceIte,Nat.reduceEqDiff,a4]
   |false=>
    simp only[go_sem,↓reduceIte,Nat.reduceEqDiff,Nat.reduceLT,reduceCtorEq,a0,a6,a7,l23,w23,abe,cP (l:=l),aU,h5];rw[aJ];simp only[go_sem,↓reduceIte,l33];refine .inr ⟨⟨rfl,h3,h5⟩,⟨rfl,rfl⟩,?_,?_,?_,?_⟩;all_goals simp only[go_sem,↓reduceIte,Nat.reduceEqDiff,reduceCtorEq,a0,a1,a4,a6]
end
set_option maxRecDepth 100000
set_option maxHeartbeats 4000000
section
variable {l:List Tok}
def ahL(hl:l.length<=4000){n}{s}{q}(a:jn l (R l n .field) [125] 0 n [] s=some q):∃k,n=k+1:=by
 cases n with
 |zero=>cases a
 |succ k=>exact⟨k,rfl⟩
def Vg{one}{e}{first}:∀{n:Nat} {ks:List Nd} {s:RS} {r:List Nd×RS},jn l one e first n ks s=some r->r.1.length<=ks.length+n
 |0,ks,s,r,h=>by cases h
 |n+1,ks,s,r,h=>by
  rw[jn] at h;split at h
  ·obtain⟨b,hb,h⟩:=al h
   cases b with
   |true=>simp at h;subst h;simp
   |false=>
    simp at h;obtain⟨x,hx,h⟩:=al h;obtain⟨c,hc,h⟩:=al h
    cases c with
    |true=>simp at h;subst h;simp only[τ,aE6];omega
    |false=>simp at h;obtain⟨s2,bF,h⟩:=al h;have:=Vg h;simp at this;omega
  ·cases h;simp
def as5(u:l.length<=4000){n}(hn:n<=900000)(ih:∀k,k<=n->dM l 262 (R l k .kind)):dM l 262 (R l (n+1) .kind):=by
 rintro⟨a,e⟩ r h;simp only[R] at h;refine fX (c:=.seq _ (.seq _ (.seq _ (.seq _ (.seq (.seq _ (.block 0 (.loop Jr))) (.seq _ (.seq (.seq _ (.cond _ (.seq _ (.seq (.block 2 (.loop Ga)) _)) _)) (.seq _ (.seq _ (.seq (.block 4 (.loop GR)) _)))))))))) af rfl func262 rfl (by rw[ntmps262];simp) (λte=> ?_) (s_ _ _) (kj l _)
 cases e with
 |some b=>simp only[ap2,υ,ap1,Ζ] at h;subst h;simp[go_sem,aEf,aQ,results262];rfl
 |none=>
  simp only[ψ,aEl] at h;obtain⟨b,hb,h⟩:=al h;have hw:=mh (n:=a) (by have:=vz hb;omega);simp[go_sem,Β,aBM];simp only[bW];refine bz (agI u hb (te:=te) ?_ ?_ ?_ ?_ ?_ ?_ ?_) ?_
  case refine_7=>
   rintro rfl;simp only[υ,ap1] at h;obtain⟨c,E,h⟩:=al h;refine⟨c,E,?_⟩;rintro rfl;simp only[υ,ap1] at h;obtain⟨d,hd,h⟩:=al h;exact⟨d,hd⟩
  case refine_8=>
   rintro _ (⟨k,ae,hk,rfl,D,q5⟩|⟨ae,⟨rfl,B,h3⟩,rfl,C,Z,D,X⟩)
   ·have hr:r=(.mk k a (a+1) [] 0 [],⟨a+1,none⟩):=by
     rcases hk with⟨rfl,rfl⟩|⟨rfl,rfl,B⟩|⟨rfl,rfl,B,h3⟩
     ·simp only[aEl,Ζ] at h;exact h.symm
     ·simp only[B,fy,υ,ap1,aEl,Ζ] at h;exact h.symm
     ·simp only[B,h3,fy,υ,ap1,aEl,Ζ] at h;exact h.symm
    subst hr;simp[go_sem,D,q5,results262]
   ·simp only[υ,ap1,B,h3,fy] at h;obtain⟨c,E,h⟩:=al h
    cases c with
    |true=>
     simp only[aEl] at h;obtain⟨q,A,h⟩:=al h;obtain⟨f,F,h⟩:=al h;cases h;obtain⟨k,rfl⟩:=ahL u A;rw[ahK] at A;simp[go_sem,C,X,cP (l:=l),aU,E,hw];simp only[bW];refine bz (dm (ajw u (ih k aa) A (te:=te) (H0:=⟨2,[(1,.k 71 ig),(0,.c te (rc l none))]⟩) (v:=.i a) (w:=.ptr 1 0) ⟨?_,?_,?_,?_,⟨.nil,?_,⟨rfl,.inl ⟨rfl,rfl⟩,⟨ν _,λj t cs _ h=>h⟩⟩⟩,aP⟩)) ?_
     case refine_6=>
      rintro _ ⟨qQ,⟨m1,V⟩,rfl,m0,⟨d0,L,J,T,⟨o,P,s⟩,_⟩⟩;obtain⟨S,N⟩:=ai.1 s.p;obtain⟨z1,g1⟩:=ai.1 (s.k.2 1 (some 71) ig aA rfl);have O:=aC g1;have M:=ο S;have I:=nK q.1;have K:bZ l [125] ⟨q.2.at_,q.2.bad⟩=some f:=F;simp only[go_sem,seval,d0,L,J,T,P,M,ο z1,N,g1,O,wQ,gy u,aU,K,aQ,eO,I,sO s.g,aR,fV,results262];exact Ι (λx=>some (x,te,rc l f.bad)) (lM (.mk 32 a f.at_ [] 0 q.1) _)
     all_goals simp[go_sem,C,Z,D]
     rfl
    |false=>
     simp only[υ,ap1] at h;obtain⟨s1,cM,h⟩:=al h;obtain⟨f,F,h⟩:=al h;obtain⟨q,A,h⟩:=al h;obtain⟨U,Tn,h⟩:=al h;obtain⟨G,To,h⟩:=al h;obtain⟨⟨y,z⟩,hy,h⟩:=al h;cases h;have K:bZ l [40] ⟨s1.at_,s1.bad⟩=some f:=F;simp[go_sem,C,X,cP (l:=l),aU,E,gy u,cM,K];simp only[bW];refine bz (dm (ana u (ih n (ν n)) A (te:=te) (H0:=⟨2,[(1,.k 71 ig),(0,.c te (rc l f.bad))]⟩) (v:=.i a) (w:=.ptr 1 0) ⟨?_,?_,?_,?_,⟨.nil,?_,⟨rfl,.inl ⟨rfl,rfl⟩,⟨ν _,λj t cs _ h=>h⟩⟩⟩,aP⟩)) ?_
     case refine_6=>
      rintro _ ⟨qQ,⟨m1,V⟩,rfl,m0,⟨d0,L,J,T,⟨o,P,s⟩,_⟩⟩;obtain⟨S,N⟩:=ai.1 s.p;have M:=ο S;have Q:bZ l [41] ⟨q.2.at_,q.2.bad⟩=some U:=Tn;have W:bZ l [58] ⟨U.at_,U.bad⟩=some G:=To;have v_:R l n .kind ⟨G.at_,G.bad⟩=some (y,z):=hy;have F6:=Vg A;have BE:j7 l te ⟨2,[(1,.k 71 ig),(0,.c te (rc l f.bad))]⟩ o q.1 z.bad (ab.push ⟨m1,aH V 0 (.c te (rc l z.bad))⟩ (.k 71 (aB y))):=(s.up (Up.set s.p)).push _;obtain⟨j,⟨m2,L2⟩,e2,p2,p3,_⟩:=Ch pS (m:=λ_=>false) rfl (o:=o) (o2:=.full) (es:=br q.1) (xs:=[aw y]) (H:=⟨m1+1,(m1,.k 71 (aB y))::aH V 0 (.c te (rc l z.bad))⟩) (by rw[bL];exact BE.g) (qB q.1) (cQ.one y) ah (by rw[bL];simp at F6⊢;omega) (by rw[bL];simp at F6⊢;omega);have cE:j7 l te ⟨2,[(1,.k 71 ig),(0,.c te (rc l f.bad))]⟩ (.own j) (q.1++[y]) z.bad ⟨m2,L2⟩:=j7.app BE p3 (by simpa[bL] using p2);obtain⟨x0,f0⟩:=ai.1 cE.p;obtain⟨x1,Y⟩:=ai.1 (cE.k.2 1 (some 71) ig aA rfl);have O:=aC Y;have ym:=bf (m1<m1+1);have es:br q.1++[aw y]=br (q.1++[y]):=by rw[tY];rfl
      have I:=nK (q.1++[y]);have a_:(q.1++[y])≠[]:=ah;simp only[go_sem,seval,d0,L,J,T,P,M,ο x0,ο x1,ym,N,f0,Y,O,wQ,gy u,aU,Q,W,(kQ af af (ih n (ν n))),v_,f_,aQ,cG,e2,es,eO,I,aR,fV,results262];rw[QO _ (q.1++[y]) rfl a_];exact Ι (λx=>some (x,te,rc l z.bad)) (lM (.mk 34 a z.at_ [] 0 (q.1++[y])) _)
     all_goals simp[go_sem,C,Z,D]
     rfl
  all_goals simp[go_sem,]
end
set_option maxRecDepth 100000
set_option maxHeartbeats 8000000
section
variable {l:List Tok}
def ahM(k):R l (k+1) .entry=λs=>bn (iu l (.mk 27 s.at_ 0 [] 0 []) s) λx=>bn (bZ l [58] x.2) λa=>bn (R l k .expr a) λt=>some (ended x.1 t.2.at_ [t.1],t.2):=by funext s;simp[R]
def afT{n}{s}{q}(a:jn l (R l n .entry) [125] 0 n [] s=some q):∃k,n=k+1:=by
 cases n with
 |zero=>cases a
 |succ k=>exact⟨k,rfl⟩
def as6(D:l.length<=4000){n}(hn:n<=900000)(ih:∀k,k<=n->dM l 271 (R l k .expr))(im:LA l 231 (vM l n)):dM l 289 (R l (n+1) .atom):=by
 rintro⟨a,e⟩ r h;simp only[R] at h;refine fX (c:=.seq _ (.seq _ (.seq _ (.seq _ (.seq _ (.seq _ (.seq _ (.seq _ (.seq _ (.seq (.seq _ (.cond _ (.seq _ (.seq _ (.seq (.block 1 (.loop Fq)) _))) _)) _)))))))))) af rfl func289 rfl (by rw[ntmps289];simp) (λte=> ?_) (s_ _ _) (kj l _)
 cases e with
 |some b=>simp only[ap2,υ,ap1,Ζ] at h;subst h;simp[go_sem,aEf,aQ,results289];rfl
 |none=>
  simp only[ψ,aEl] at h;obtain⟨t,N,h⟩:=al h;have aO:=(φ.1 N).1;have A:=mh (n:=a) aa;have B:=uU N;obtain⟨k,p0,q0,y⟩:=t;have m:((k:Int)==3)=decide (k=3):=dF k 3;have s:((k:Int)==4)=decide (k=4):=dF k 4;have f:((k:Int)==1)=decide (k=1):=dF k 1;simp only at h;by_cases F:k=3
  ·rw[π F] at m;simp only[F,aEl,Ζ] at h;subst h;simp[go_sem,Β,A,B,m,aQ,results289];rfl
  rw[ξ F] at m;simp only[F,ap1] at h;by_cases G:k=4
  ·rw[π G] at s;simp only[G,aEl,Ζ] at h;subst h;simp[go_sem,Β,A,B,m,s,aQ,results289];rfl
  rw[ξ G] at s;simp only[G,ap1] at h;by_cases E:k=1
  ·rw[π E] at f;simp only[E,aEl,Ζ] at h;subst h;simp[go_sem,Β,A,B,m,s,f,aQ,results289];rfl
  rw[ξ E] at f;simp only[E,ap1] at h;obtain⟨b,hb,h⟩:=al h
  cases b with
  |true=>simp only[aEl,Ζ] at h;subst h;simp[go_sem,Β,A,B,m,s,f,cP (l:=l),aU,hb,aQ,results289];rfl
  |false=>
  simp only[υ,ap1] at h;obtain⟨c,L,h⟩:=al h
  cases c with
  |true=>simp only[aEl] at h;obtain⟨⟨x,C⟩,Y,h⟩:=al h;obtain⟨z,H,h⟩:=al h;cases h;have I:bZ l [41] ⟨C.at_,C.bad⟩=some z:=H;simp only[go_sem,seval,Β,A,B,m,s,f,cP (l:=l),gy D,aU,hb,L,(kQ af af (ih n (ν n))),Y,I,aQ,eO,results289];exact Ι (λx=>some (x,te,rc l z.bad)) (lM (.mk 25 a z.at_ [] 0 [x]) _)
  |false=>
  simp only[υ,ap1] at h;obtain⟨d,M,h⟩:=al h
  cases d with
  |true=>
   simp only[aEl] at h;obtain⟨q,J,h⟩:=al h;obtain⟨z,H,h⟩:=al h;cases h;obtain⟨U,rfl⟩:=afT J;rw[ahM] at J;simp[go_sem,Β,A,B,m,s,f,cP (l:=l),aU,hb,L,M,aQ];simp only[bW];refine bz (dm (agG D (ih U aa) J (te:=te) (v:=.i a) (w:=.ptr 1 0) ⟨?_,?_,?_,?_,⟨.nil,?_,⟨rfl,.inl ⟨rfl,rfl⟩,⟨ν _,λj t cs _ h=>h⟩⟩⟩,aP⟩)) ?_
   case refine_6=>
    rintro _ ⟨qQ,⟨m1,L1⟩,rfl,m0,⟨d0,Q,P,dd,⟨o,V,K⟩,_⟩⟩;obtain⟨Z,T⟩:=ai.1 K.p;obtain⟨S,O⟩:=ai.1 (K.k.2 1 (some 71) ig aA rfl);have f:=aC O;have I:bZ l [125] ⟨q.2.at_,q.2.bad⟩=some z:=H;simp only[go_sem,seval,d0,Q,P,dd,V,ο Z,ο S,T,O,f,wQ,gy D,aU,I,aQ,eO,nK q.1,sO K.g,aR,fV,results289];exact Ι (λx=>some (x,te,rc l z.bad)) (lM (.mk 26 a z.at_ [] 0 q.1) _)
   all_goals simp[go_sem,]
   rfl
  |false=>
   simp only[υ,ap1] at h;obtain⟨C,cM,h⟩:=al h;obtain⟨u,W,h⟩:=al h;obtain⟨v,hv,h⟩:=al h;obtain⟨w,mv,h⟩:=al h;cases h
   have X:vM l n ⟨C.at_,C.bad⟩=some ((u.1,v.1,w.1),w.2):=by
    have:vM l n C=some ((u.1,v.1,w.1),w.2):=by simp only[vM,W,hv,mv,fy]
    exact this
   simp only[go_sem,seval,Β,A,B,m,s,f,cP (l:=l),gy D,aU,hb,L,M,cM,(abb af af im),X,aQ,eO,results289];exact Ι (λx=>some (x,te,rc l w.2.bad)) (lM (.mk 28 a w.2.at_ [] 0 [u.1,v.1,w.1]) _)
end
set_option maxRecDepth 100000
set_option maxHeartbeats 8000000
def anc:dt (.vec .nil []) (.vec .nil [])=true:=by simp[dt,yv,il]
mutual
def acK(n):dt (aw n) (aw n)=true:=by
 match n with
 | .mk k f t w a ks=>
  have h:=abf ks;have h2:dt (.vec (if ks.isEmpty then .nil else .ro) (br ks)) (.vec (if ks.isEmpty then .nil else .ro) (br ks))=true:=by cases ks<;>simp_all [dt,yv]
  rw[aw,PJ,rK,rK,rK,rK,rK,rK,sX,sX,sX,Fj,sX,h2,PK];rfl
def abf(l):il (br l) (br l)=true:=by
 match l with
 |[]=>simp[br,il]
 |n::r=>rw[br,rK,acK n,abf r];rfl
end
def axS:ak.cl 201=true:=af
attribute [go_sem] anc acK axS
section
variable {l:List Tok}
noncomputable def Sf:=f263.c.r.r.r.r.r.r
def yM(V:l.length<=4000){n}(ih:dM l 271 (R l n .expr)){te tn}{α}{H:ab}{o}{ks:List Nd}{s a:RS}{x}{kd f pl:Nat}{w:List UInt8}
  (F:α 0=.ptr 0 0) (I:α 4=.ptr 1 0) (h6:α 6=.ptr 2 0) (h7:α 7=.i s.at_) (U:α 8=.vec o (br ks)) (hg:cY H 71 o ks.length) (hk:ks.length<=5) (v:H.get 0=some (.c te (rc l s.bad))) (W:H.get 1=some (.k 71 ig))
  (A:H.get 2=some (.cells tn [.i kd,.i f,.i 0,.str w,.i pl,.vec .nil []])) (Z:R l n .expr s=some x) (Y:bZ l [59] x.2=some a):
  aF (aT ak Sf α H) λe J H'=>y9 (finish prog [.cell 4 71,.tmp 5] (e,J,H'))=some (.tup [aw (.mk kd f a.at_ w pl (ks++[x.1])),.i a.at_],te,rc l a.bad):=by
 obtain⟨m,L⟩:=H;obtain⟨y,q⟩:=x;obtain⟨X,S⟩:=ai.1 v;obtain⟨sk,N⟩:=ai.1 A;have y0:=bf (0<m+1);have y2:=bf (2<m+1);have ym:=bf (m<m+1);have O:=dJ (m=0);have n2:=dJ (m=2);have B:R l n .expr ⟨s.at_,s.bad⟩=some (y,q):=Z;have C:bZ l [59] ⟨q.at_,q.bad⟩=some a:=Y;have z:j7 l te ⟨m,L⟩ o ks s.bad ⟨m,L⟩:=⟨v,hg,⟨ν _,λj t cs _ h=>h⟩⟩;have u:j7 l te ⟨m,L⟩ o ks a.bad ⟨m+1,(m,.k 71 (aB y))::aH L 0 (.c te (rc l a.bad))⟩:=(z.up (Up.set z.p)).push _;obtain⟨j,⟨D,L2⟩,Q,E,p3,_⟩:=Ch pS (m:=λ_=>false) rfl (o:=o) (o2:=.full) (es:=br ks) (xs:=[aw y]) (H:=⟨m+1,(m,.k 71 (aB y))::aH L 0 (.c te (rc l a.bad))⟩) (by rw[bL];exact u.g) (qB ks) (cQ.one y) ah (by rw[bL];simp;omega) (by rw[bL];simp;omega);have d:j7 l te ⟨m,L⟩ (.own j) (ks++[y]) a.bad ⟨D,L2⟩:=j7.app u p3 (by simpa[bL] using E);obtain⟨z0,f0⟩:=ai.1 d.p;obtain⟨K,r⟩:=ai.1 (d.k.2 1 (some 71) ig aA W);obtain⟨G,f2⟩:=ai.1 (d.k.2 2 tn _ aA A);obtain⟨P,M⟩:=ai.1 (p3.2 m (some 71) (aB y) (ai.2 ⟨aa,by rw[bo,μ rfl]⟩));have b:=dJ (1=m);have es:br ks++[aw y]=br (ks++[y]):=by rw[tY];rfl
 have T:(ks++[y])≠[]:=ah;have hB:Sf=.seq _ (.seq _ (.seq _ _)):=rfl;rw[hB];simp only[go_sem,seval,F,I,h6,h7,U,ο X,S,aC N,kQ rfl rfl ih,aU,B,y0,y2,ym,O,n2,gy V,C,f_,cG,Q,ο z0,ο K,ο G,ο P,b,f0,r,aC r,aC f2,aC M,es,eO,nK (ks++[y]),wQ,aR,fV];rw[QO _ (ks++[y]) rfl T];exact Ι (λx=>some (x,te,rc l a.bad)) (lM (.mk kd f a.at_ w pl (ks++[y])) _)
end
set_option maxRecDepth 100000
set_option maxHeartbeats 8000000
section
variable {l:List Tok}
def axT{s:RS}{q}(h:rW l s=some q):q.2.at_<=s.at_+1:=by
 unfold rW at h;split at h
 ·obtain⟨t,ht,h⟩:=al h;cases h;split<;>simp
 ·cases h;simp
def EP{k f a}{s}{x}(h:iu l (.mk k f 0 [] a []) s=some x):∃o b,rW l s=some (o,b)/\x=(e9 (.mk k f 0 [] a []) o,b):=by rw[E4] at h;obtain⟨⟨o,b⟩,d,c⟩:=al h;simp at c;exact⟨o,b,d,c.symm⟩
def as7(f:l.length<=4000){n}(v:dM l 271 (R l n .expr))(ib:dM l 249 (R l n .block))(it:dM l 248 (R l n .typed)):dM l 263 (R l (n+1) .stmt):=by
 rintro⟨a,e⟩ r h;simp[R] at h;refine fX (c:=.seq _ (.seq _ (.seq _ (.seq _ (.seq _ (.seq _ Sf)))))) rfl rfl func263 rfl (by rw[ntmps263];simp) (λte=> ?_) (s_ _ _) (kj l _);have k1:=kQ rfl rfl v;have k2:=kQ rfl rfl ib;have T:=kQ rfl rfl it;obtain⟨i,hi,h⟩:=al h;obtain⟨w,d,h⟩:=al h;have aO:=vz hi;have j:=mh (n:=a) aa
 cases w with
 |true=>
  simp at h;obtain⟨⟨c,⟨ca,cb⟩⟩,N,h⟩:=al h;obtain⟨⟨b,⟨K,S⟩⟩,hb,h⟩:=al h
  cases i with
  |true=>
   simp at h d;obtain⟨el,D,h⟩:=al h;have X:=λH:ab=>M2 pS (m:=λ_=>false) rfl (H:=H) (o2:=.full) (qB [c,b]) (cQ.one dR) ah (by rw[bL];simp) (by rw[bL];simp);have G:AV.agg [.i 0,.i 0,.i 0,.str [],.i 0,.vec .nil []]=aw dR:=rfl
   cases S with
   |some y=>simp[xq] at D;subst D;simp at h;subst h;have A:∀H:ab,cH (λ_=>false) prog 69 69 (.vec .full [aw c,aw b]) (.vec .full [aw dR]) H=some (.vec (.own H.next) [aw c,aw b,aw dR],H.push (.bQ 3 71)):=X;simp only[go_sem,seval,cP (l:=l),aU,hi,j,k1,N,k2,hb,aQ,G,ap2,cG,A,eO,results263];exact Ι (λx=>some (x,te,rc l (some y))) (lM (.mk 9 a K [] 0 [c,b,dR]) _)
   |none=>
    simp[xq] at D;have L:=mh (n:=K) (by have:=vz D;omega)
    cases el with
    |false=>simp at h;subst h;have A:∀H:ab,cH (λ_=>false) prog 69 69 (.vec .full [aw c,aw b]) (.vec .full [aw dR]) H=some (.vec (.own H.next) [aw c,aw b,aw dR],H.push (.bQ 3 71)):=X;simp only[go_sem,seval,cP (l:=l),aU,hi,j,k1,N,k2,hb,aQ,G,ψ,D,cG,A,eO,results263];exact Ι (λx=>some (x,te,rc l none)) (lM (.mk 9 a K [] 0 [c,b,dR]) _)
    |true=>simp at h;obtain⟨⟨o,W⟩,Z,h⟩:=al h;cases h;have O:=λH:ab=>M2 pS (m:=λ_=>false) rfl (H:=H) (o2:=.full) (qB [c,b]) (cQ.one o) ah (by rw[bL];simp) (by rw[bL];simp);have A:∀H:ab,cH (λ_=>false) prog 69 69 (.vec .full [aw c,aw b]) (.vec .full [aw o]) H=some (.vec (.own H.next) [aw c,aw b,aw o],H.push (.bQ 3 71)):=O;simp only[go_sem,seval,cP (l:=l),aU,hi,j,L,k1,N,k2,hb,Z,aQ,ψ,D,cG,A,eO,results263];exact Ι (λx=>some (x,te,rc l W.bad)) (lM (.mk 9 a W.at_ [] 0 [c,b,o]) _)
  |false=>simp at h d;cases h;simp only[go_sem,seval,cP (l:=l),aU,hi,d,j,k1,N,k2,hb,aQ,eO,results263];exact Ι (λx=>some (x,te,rc l S)) (lM (.mk 10 a K [] 0 [c,b]) _)
 |false=>
  have Y:i=false:=by
   cases i with
   |false=>rfl
   |true=>simp only[aEl,Ζ] at d;cases d
  subst Y;simp at h d;obtain⟨b,hb,h⟩:=al h
  cases b with
  |true=>
   simp at h;obtain⟨x,k,h⟩:=al h;obtain⟨t,I,h⟩:=al h;obtain⟨s1,cM,h⟩:=al h;obtain⟨p,u,h⟩:=al h;obtain⟨J,g,h⟩:=al h;cases h;obtain⟨o,s0,z,rfl⟩:=EP k;simp only at I;have Q:R l n .typed ⟨s0.at_,s0.bad⟩=some t:=I;have V:bZ l [61] ⟨t.2.at_,t.2.bad⟩=some s1:=cM;have O:=λH:ab=>append_nil pS (m:=λ_=>false) rfl (H:=H) (o2:=.full) (cQ.one t.1) ah ah ah;have A:∀H:ab,cH (λ_=>false) prog 69 69 (.vec .nil []) (.vec .full [aw t.1]) H=some (.vec (.own H.next) [aw t.1],H.push (.bQ 1 71)):=O
   cases o with
   |none=>
    simp only[go_sem,seval,cP (l:=l),aU,hi,d,hb,j,iJ f,z,dO,dN,T,Q,gy f,V,aQ,cG,A,results263];refine aW (yM f v (ks:=[t.1]) (kd:=7) (w:=[]) (pl:=0) ?_ ?_ ?_ ?_ ?_ (.inr (.inr ⟨ah,4,rfl,rfl⟩)) ah rfl rfl rfl u g) (λ_ _ _ h=>h);all_goals simp[go_sem,]
    all_goals rfl
   |some F=>
    simp only[go_sem,seval,cP (l:=l),aU,hi,d,hb,j,iJ f,z,dO,dN,T,Q,gy f,V,aQ,cG,A,results263];refine aW (yM f v (ks:=[t.1]) (kd:=7) (w:=F.1) (pl:=F.2) ?_ ?_ ?_ ?_ ?_ (.inr (.inr ⟨ah,4,rfl,rfl⟩)) ah rfl rfl rfl u g) (λ_ _ _ h=>h);all_goals simp[go_sem,]
    all_goals rfl
  |false=>
   simp at h;obtain⟨p,u,h⟩:=al h
   cases p with
   |true=>
    simp at h;obtain⟨x,k,h⟩:=al h;obtain⟨J,g,h⟩:=al h;cases h;simp[go_sem,cP (l:=l),aU,hi,d,hb,u,j,aQ,results263];refine aW (yM f v (ks:=[]) (kd:=11) (w:=[]) (pl:=0) ?_ ?_ ?_ ?_ ?_ (.inl ⟨rfl,rfl⟩) ah rfl rfl rfl k g) (λ_ _ _ h=>h);all_goals simp[go_sem,]
    all_goals rfl
   |false=>
    simp at h;obtain⟨q,z,h⟩:=al h
    cases q with
    |true=>
     simp at h;obtain⟨x,k,h⟩:=al h;obtain⟨J,g,h⟩:=al h;cases h;simp[go_sem,cP (l:=l),aU,hi,d,hb,u,z,j,aQ,results263];refine aW (yM f v (ks:=[]) (kd:=12) (w:=[]) (pl:=0) ?_ ?_ ?_ ?_ ?_ (.inl ⟨rfl,rfl⟩) ah rfl rfl rfl k g) (λ_ _ _ h=>h);all_goals simp[go_sem,]
     all_goals rfl
    |false=>
     simp at h;obtain⟨t,I,h⟩:=al h;have M:=uU I;have C:((t.1:Int)==1)=decide (t.1=1):=dF t.1 1;obtain⟨b2,B,h⟩:=al h
     cases b2 with
     |true=>
      have E:t.1=1:=by
       by_cases U:t.1=1
       ·exact U
       ·rw[κ U] at B;cases B
      rw[μ E] at B;rw[π E] at C;simp at h;obtain⟨y,hy,h⟩:=al h;obtain⟨o,s0,P,rfl⟩:=EP hy;obtain⟨x,k,h⟩:=al h;obtain⟨J,g,h⟩:=al h;cases h;have L:=mh (n:=s0.at_) (by have:=axT P;simp only at this;omega)
      cases o with
      |none=>
       simp only[go_sem,seval,cP (l:=l),aU,hi,d,hb,u,z,M,C,B,j,L,iJ f,P,dO,dN,aQ,results263];refine aW (yM f v (s:=⟨s0.at_+1,s0.bad⟩) (ks:=[]) (kd:=8) (w:=[]) (pl:=0) ?_ ?_ ?_ ?_ ?_ (.inl ⟨rfl,rfl⟩) ah rfl rfl rfl k g) (λ_ _ _ h=>h);all_goals simp[go_sem,]
       all_goals rfl
      |some F=>
       simp only[go_sem,seval,cP (l:=l),aU,hi,d,hb,u,z,M,C,B,j,L,iJ f,P,dO,dN,aQ,results263];refine aW (yM f v (s:=⟨s0.at_+1,s0.bad⟩) (ks:=[]) (kd:=8) (w:=F.1) (pl:=F.2) ?_ ?_ ?_ ?_ ?_ (.inl ⟨rfl,rfl⟩) ah rfl rfl rfl k g) (λ_ _ _ h=>h);all_goals simp[go_sem,]
       all_goals rfl
     |false=>
      simp at h;obtain⟨x,k,h⟩:=al h;obtain⟨J,g,h⟩:=al h;cases h;by_cases E:t.1=1
      ·rw[μ E] at B;rw[π E] at C;simp only[go_sem,seval,cP (l:=l),aU,hi,d,hb,u,z,M,C,B,j,aQ,results263];refine aW (yM f v (ks:=[]) (kd:=13) (w:=[]) (pl:=0) ?_ ?_ ?_ ?_ ?_ (.inl ⟨rfl,rfl⟩) ah rfl rfl rfl k g) (λ_ _ _ h=>h);all_goals simp[go_sem,]
       all_goals rfl
      ·rw[ξ E] at C;simp[go_sem,cP (l:=l),aU,hi,d,hb,u,z,M,C,aQ,results263];refine aW (yM f v (ks:=[]) (kd:=13) (w:=[]) (pl:=0) ?_ ?_ ?_ ?_ ?_ (.inl ⟨rfl,rfl⟩) ah rfl rfl rfl k g) (λ_ _ _ h=>h);all_goals simp[go_sem,]
       all_goals rfl
end
set_option maxRecDepth 100000
set_option maxHeartbeats 8000000
section
variable {l:List Tok}
structure LB(l:List Tok)(n:Nat):Prop where
 kind:dM l 262 (R l n .kind)
 typed:dM l 248 (R l n .typed)
 params:dM l 247 (R l n .params)
 block:dM l 249 (R l n .block)
 stmt:dM l 263 (R l n .stmt)
 expr:dM l 271 (R l n .expr)
 sum:dM l 274 (R l n .sum)
 term:dM l 277 (R l n .term)
 post:dM l 283 (R l n .post)
 atom:dM l 289 (R l n .atom)
def LB.lam(a:l.length<=4000){n}(h:LB l n):LA l 231 (vM l n):=ajy a h.params h.typed h.block
def acL(a:l.length<=4000):∀n,n<=900000->∀k,k<=n->LB l k
 |0,_,k,b=>by have:k=0:=aa;subst this;exact⟨λs r h=>(by cases h),λs r h=>(by cases h),λs r h=>(by cases h),λs r h=>(by cases h),λs r h=>(by cases h),λs r h=>(by cases h),λs r h=>(by cases h),λs r h=>(by cases h),λs r h=>(by cases h),λs r h=>(by cases h)⟩
 |n+1,hn,k,b=>by
  have ih:=acL a n aa;by_cases d:k<=n
  ·exact ih k d
  have:k=n+1:=aa;subst this;have c:n<=900000:=aa;have h:=ih n (ν n);exact⟨as5 a c λk b=>(ih k b).kind,am8 a h.kind,ajx a c λk b=>(ih k aa).typed,anb a c h.stmt,as7 a h.expr h.block h.typed,as3 a h.sum,axR a h.term,as2 a h.post,as4 a c h.atom h.expr,as6 a c (λk b=>(ih k b).expr) (h.lam a)⟩
def axU(d:l.length<=4000){s:RS}{r}(hb:s.at_<l.length)(h:Bj l s=some r):Io ak 199 [.i s.at_] (rc l s.bad) (.tup [aw r.1,.i r.2.at_]) (rc l r.2.bad):=by
 obtain⟨a,e⟩:=s;simp[Bj] at h;obtain⟨m,hm,h⟩:=al h;obtain⟨A,D,h⟩:=al h;obtain⟨x,G,h⟩:=al h;obtain⟨c,C,h⟩:=al h;cases h;obtain⟨o,b,v,rfl⟩:=EP hm;obtain⟨o2,B,F,rfl⟩:=EP G;simp only at D C;refine fX rfl rfl func199 rfl (by rw[ntmps199];simp) (λte=> ?_) (s_ _ _) (kj l _);have q:=mh (n:=a) (by simp only at hb;omega);have u:bZ l [46] ⟨b.at_,b.bad⟩=some A:=D;have y:bZ l [59] ⟨B.at_,B.bad⟩=some c:=C;have z:rW l ⟨A.at_,A.bad⟩=some (o2,B):=F;have E:∀(k f t a:Nat) (w:List UInt8),AV.agg [.i k,.i f,.i t,.str w,.i a,.vec .nil []]=aw (.mk k f t w a []):=λ_ _ _ _ _=>rfl
 cases o with
 |none=>
  have j:AV.agg [.i 23,.i (a+1:Nat),.i b.at_,.str [],.i 0,.vec .nil []]=_:=E 23 (a+1) b.at_ 0 []
  cases o2 with
  |none=>simp only[go_sem,seval,q,iJ d,v,aU,dO,dN,gy d,u,z,y,j,aQ,eO,results199];exact Ι (λx=>some (x,te,rc l c.bad)) (lM (.mk 2 a c.at_ [] 0 [.mk 23 (a+1) b.at_ [] 0 []]) _)
  |some p=>simp only[go_sem,seval,q,iJ d,v,aU,dO,dN,gy d,u,z,y,j,aQ,eO,results199];exact Ι (λx=>some (x,te,rc l c.bad)) (lM (.mk 2 a c.at_ p.1 p.2 [.mk 23 (a+1) b.at_ [] 0 []]) _)
 |some g=>
  have j:AV.agg [.i 23,.i (a+1:Nat),.i b.at_,.str g.1,.i g.2,.vec .nil []]=_:=E 23 (a+1) b.at_ g.2 g.1
  cases o2 with
  |none=>simp only[go_sem,seval,q,iJ d,v,aU,dO,dN,gy d,u,z,y,j,aQ,eO,results199];exact Ι (λx=>some (x,te,rc l c.bad)) (lM (.mk 2 a c.at_ [] 0 [.mk 23 (a+1) b.at_ g.1 g.2 []]) _)
  |some p=>simp only[go_sem,seval,q,iJ d,v,aU,dO,dN,gy d,u,z,y,j,aQ,eO,results199];exact Ι (λx=>some (x,te,rc l c.bad)) (lM (.mk 2 a c.at_ p.1 p.2 [.mk 23 (a+1) b.at_ g.1 g.2 []]) _)
def axV(b:l.length<=4000){n}(ih:LB l n):dM l 200 (Bk l n):=by
 rintro⟨a,e⟩ r h;simp[Bk] at h;obtain⟨s0,f,h⟩:=al h;obtain⟨x,q,h⟩:=al h;obtain⟨u,g,h⟩:=al h;obtain⟨v,p,h⟩:=al h;obtain⟨w,k,h⟩:=al h;cases h;obtain⟨o,c,m,rfl⟩:=EP q;simp only at g;refine fX rfl rfl func200 rfl (by rw[ntmps200];simp) (λte=> ?_) (s_ _ _) (kj l _);have k2:=abb rfl rfl (ih.lam b)
 have i:vM l n ⟨c.at_,c.bad⟩=some ((u.1,v.1,w.1),w.2):=by
  have:vM l n c=some ((u.1,v.1,w.1),w.2):=by simp[vM,g,p,k,fy]
  exact this
 have d:rW l ⟨s0.at_,s0.bad⟩=some (o,c):=m
 cases o with
 |none=>simp only[go_sem,seval,iJ b,d,aU,dO,dN,gy b,f,k2,i,aQ,eO,results200];exact Ι (λx=>some (x,te,rc l w.2.bad)) (lM (.mk 3 a w.2.at_ [] 0 [u.1,v.1,w.1]) _)
 |some j=>simp only[go_sem,seval,iJ b,d,aU,dO,dN,gy b,f,k2,i,aQ,eO,results200];exact Ι (λx=>some (x,te,rc l w.2.bad)) (lM (.mk 3 a w.2.at_ j.1 j.2 [u.1,v.1,w.1]) _)
noncomputable def Sg:=f158.c.r.r.r.l.b.b
def ajz(b:l.length<=4000){a}{r}(hb:a<l.length)(h:Bj l ⟨a,none⟩=some r){i}{te}{H:ab}(hg:H.get i=some (.c te (rc l none))):bu ak 199 [.ptr i 0,.i a] H=some (.tup [aw r.1,.i r.2.at_],H.set i (.c te (rc l r.2.bad))):=
 sQ (first:=[]) (ar:=[.ptr i 0,.i a]) (args:=[.i a]) rfl rfl rfl rfl (A6 l none) (yC l none) (kj l none) hg (axU (s:=⟨a,none⟩) b hb h)
def Ni(w:l.length<=4000){te}{H0}{v}:
  ∀n ks s r α H,n<=900000->rN l n ks s=some r->KI l te H0 3 4 2 0 v (.ptr 0 0) n (ks,s) α H->
   aF (aL (aT ak Sg) α H) λy Y H'=>y=.exit 0/\∃m,KI l te H0 3 4 2 0 v (.ptr 0 0) m r Y H'
 |0,ks,s,r,α,H,W,d,P=>by cases d
 |n+1,ks,s,r,α,H,W,d,P=>by
  obtain⟨m,L⟩:=H;obtain⟨a,z⟩:=s;obtain⟨e,q,F,hd,⟨o,u,f⟩,hn⟩:=P;simp only at q u f hn;obtain⟨Z,B⟩:=ai.1 f.p;have E:=aC B;have D:=ο Z;have hB:Sg=.seq (.seq _ _) _:=rfl;rw[aJ,hB];rw[rN] at d
  cases z with
  |some x=>
   simp at d;subst d;simp only[go_sem,seval,e,E,D,ap2];refine⟨aI,0,?_,?_,?_,?_,⟨o,?_,f⟩,by simp only;omega⟩;all_goals simp[go_sem,e,q,u,F]
  |none=>
   simp at d;obtain⟨t,K,d⟩:=al d;have I:=uU K;have A:((t.1:Int) != 0)= !decide (t.1=0):=sf t.1 0;by_cases G:t.1=0
   ·rw[π G] at A;simp[G] at d;subst d;simp only[go_sem,seval,e,q,E,D,ψ,I,A,ω];refine⟨aI,0,?_,?_,?_,?_,⟨o,?_,f⟩,by simp only;omega⟩;all_goals simp[go_sem,e,q,u,F]
   ·rw[ξ G] at A;simp[G] at d;obtain⟨b,hb,d⟩:=al d;obtain⟨⟨y,h⟩,C,R⟩:=al d;have Q:=bf (0<m+1);have T:=bf (m<m+1);have M:=dJ (m=0);have S:j7 l te H0 o ks h.bad (ab.mk (m+1) ((m,.k 71 (aB y))::aH L 0 (.c te (rc l h.bad)))):=(f.up (Up.set f.p)).push _;obtain⟨j,⟨U,L2⟩,N,V,p3,_⟩:=Ch pS (m:=λ_=>false) rfl (o:=o) (o2:=.full) (es:=br ks) (xs:=[aw y]) (H:=⟨m+1,(m,.k 71 (aB y))::aH L 0 (.c te (rc l h.bad))⟩) (by rw[bL];exact S.g) (qB ks) (cQ.one y) ah (by rw[bL];simp;omega) (by rw[bL];simp;omega);have O:j7 l te H0 (.own j) (ks++[y]) h.bad ⟨U,L2⟩:=j7.app S p3 (by simpa[bL] using V);have es:br ks++[aw y]=br (ks++[y]):=by rw[tY];rfl
    have J:∀X:Nd,eg [AV.i 0,.i 0,.i 0,.str [],.i 0,.vec .nil []] 0 (aB X)=aB X:=vA
    cases b with
    |true=>
     simp at C;have hg:ab.get ⟨m+1,(m,.k 71 ig)::L⟩ 0=some (.c te (rc l none)):=ai.2 ⟨aa,by rw[bo,bM];exact B⟩;have k1:=ajz w ((φ.1 K).1) C hg;simp[ig] at k1;simp[go_sem,e,q,u,E,D,B,Q,T,M,ψ,I,A,χ,cP (l:=l),aU,hb,k1,J,cG,N,es];refine Ni w n (ks++[y]) h r _ _ aa R ⟨?_,?_,?_,?_,⟨.own j,?_,O⟩,aP⟩;all_goals simp[go_sem,e,F]
    |false=>
     simp at C;simp[go_sem,e,q,u,E,D,B,Q,T,M,ψ,I,A,χ,cP (l:=l),aU,hb,kQ rfl rfl (axV w (acL w n aa n (ν n))),C,J,cG,N,es];refine Ni w n (ks++[y]) h r _ _ aa R ⟨?_,?_,?_,?_,⟨.own j,?_,O⟩,aP⟩;all_goals simp[go_sem,e,F]
def as8(f:l.length<=4000){n}(hn:n<=90000){r}(h:Db l n=some r):Io ak 158 [] (rc l none) (aw r.1) (rc l r.2.bad):=by
 simp[Db] at h;obtain⟨q,e,h⟩:=al h;cases h;refine fX (c:=.seq _ (.seq _ (.seq _ (.seq (.block 0 (.loop Sg)) _)))) rfl rfl func158 rfl aA (λte=> ?_) (iL _) (kj l _);simp[go_sem,];refine jw ?_;rw[gu];refine aW (Ni f n [] ⟨0,none⟩ q _ _ aa e (te:=te) (H0:=⟨2,[(1,.k 71 ig),(0,.c te (rc l none))]⟩) (v:=.ptr 1 0) ⟨?_,?_,?_,?_,⟨.nil,?_,⟨rfl,.inl ⟨rfl,rfl⟩,⟨ν _,λj t cs _ h=>h⟩⟩⟩,aP⟩) ?_
 case refine_6=>
  rintro x ae ⟨m1,L1⟩ ⟨rfl,m0,⟨d0,d,u,dd,⟨o,i,a⟩,_⟩⟩;refine .inl ⟨.inr rfl,?_⟩;obtain⟨w,s⟩:=ai.1 a.p;obtain⟨m,b⟩:=ai.1 (a.k.2 1 (some 71) ig aA rfl);simp only[go_sem,seval,d,u,i,ο w,ο m,s,b,aC b,wQ,aQ,eO,nK q.1,sO a.g,aR,fV,results158];rfl
 all_goals simp[go_sem,]
 all_goals rfl
end
set_option maxRecDepth 100000
set_option maxHeartbeats 4000000
def Zx:∀{ks:List Nd} {i:Nat} {x:Nd},ks[i]? =some x->(br ks)[i]? =some (aw x)
 |[],i,x,h=>by simp at h
 |n::r,0,x,h=>by simp at h;subst h;rfl
 |n::r,i+1,x,h=>by simp at h;have:=Zx h;simpa[br] using this
def kD(o){ks}{i:Nat}{x:Nd}(h:ks[i]? =some x):dW prog 69 (.vec o (br ks)) (.i i)=some (.rptr (aB x)):=by have:=Zx h;simp[dW,uo,rO,this,sM,yj]
def oK(n:Nd):(aB n)[5]? =some (.vec (if n.ks.isEmpty then .nil else .ro) (br n.ks)):=by cases n;rfl
def AE(n)(H:ab):eQ (aw n) H=some (.ptr H.next 0,H.push (.z (aB n))):=by rw[uc];exact aa8 _ H
attribute [go_sem] AE
def ane(a b:Nat):Dr [.i a,.i b]=some (.i (max a b:Nat)):=by
 simp[Dr];by_cases h:b>a
 ·omega
 ·omega
def o8{n:Nat}(h:n<=1000000000000000000):IntKind.i64.wrap ((n:Int)+1)=((n+1:Nat):Int):=by rw[aEC _ (by omega)];omega
def Wq(l)(x):eS (l++[x])=max (eS l) (db x):=by rw[XA,ai2]
def VO{A:Type}{l:List A}{i}{x:A}(h:l[i]? =some x):l.take (i+1)=l.take i++[x]:=by rw[List.take_add_one,h];rfl
noncomputable def Sh:=f145.c.r.r.l.r.b.b
def Il(d){f}(a:ak.cl f=true){n}(h:aK prog (run ak) f [aw n]=some (.i d))(H):dD ak (run ak) (.fn (.func f) [] []) [aw n] H=some (.i d,H):=by rw[tS a,show ak.P=prog from rfl,h];rfl
def adO(ks:List Nd)(i:Nat)(α:az)(H:ab):Prop:=i<=ks.length/\α 3=.i (eS (ks.take i):Nat)/\(∃o,α 7=.vec o (br ks))/\α 8=.i ks.length/\α 9=.i i
def anf{ks:List Nd}(hk:ks.length<=1000000000000000000)(ih:∀k∈ks,aK prog (run ak) 145 [aw k]=some (.i (db k)))(α:az)(H:ab)(g:adO ks 0 α H):
  aF (aL (aT ak Sh) α H) λe h H'=>e=.exit 0/\h 3=.i (eS ks:Nat):=by
 have f:Sh=.seq _ (.seq _ _):=rfl;refine OU (adO ks) ks.length _ ?_ ?_ ks.length 0 α H aa g
 ·rintro i α ⟨m,L⟩ hi ⟨l,h3,⟨o,h7⟩,a,b⟩;obtain⟨x,d⟩:=fo hi;have c:=bH ((i:Int)<(ks.length:Int));have j:=bf (m<m+1);rw[f];simp only[go_sem,seval,h3,h7,a,b,c,kD o d,Il (db x) rfl (ih x (Δ d)),ane (eS (ks.take i)) (db x),(o8 (n:=i) aa),j];refine⟨aI,aa,?_,⟨o,?_⟩,?_,?_⟩
  ·simp[go_sem,];rw[VO d,Wq]
  all_goals simp[go_sem,h7,a]
 ·rintro α ⟨m,L⟩ ⟨l,h3,⟨o,h7⟩,a,b⟩;have c:=bU ((ks.length:Int)<(ks.length:Int));rw[f];simp only[go_sem,seval,h3,a,b,c];refine⟨ah,aI,?_⟩;rw[aGt]
def abg:∀n,mx n<=900000000000000000->aK prog (run ak) 145 [aw n]=some (.i (db n:Int))
 | .mk k f t w a ks,b=>by
  have d:∀x∈ks,aK prog (run ak) 145 [aw x]=some (.i (db x:Int)):=λx e=>abg x (by
   rw[ew] at b;have:=qC e
   omega)
  rw[ew] at b;have hd:=Ij ks;refine eX (c:=.seq _ (.seq _ (.seq (.seq _ (.block 0 (.loop Sh))) _))) rfl rfl func145 rfl (by rw[ntmps145];simp) (bE:=[aw (.mk k f t w a ks)]) (by simp[pP]) (by rw[yB];rfl) ?_ rfl;simp only[go_sem,seval,ab.empty,oK,Nd.ks,bL];simp only[bW];refine bz (dm (anf (ks:=ks) aa d _ _ ⟨aa,?_,⟨if ks.isEmpty then .nil else .ro,?_⟩,?_,?_⟩)) ?_
  case refine_5=>
   rintro _ ⟨ae,⟨m1,L1⟩,rfl,h3⟩;simp only[go_sem,seval,h3,(o8 (n:=eS ks) aa),results145];refine⟨_,rfl,?_⟩;rw[s9];rfl
  all_goals simp[go_sem,]
  all_goals rfl
 termination_by n=>SizeOf.sizeOf n
noncomputable def Si:=f159.c.r.r.l.r.b.b
def adP(n:Nd)(i:Nat)(α:az)(H:ab):Prop:=i<=n.ks.length/\α 1=.ptr 0 0/\α 3=.i (eS (n.ks.take i)+1:Nat)/\α 4=.i i/\H=⟨1,[(0,.z (aB n))]⟩
def ang{n:Nd}(hk:n.ks.length<=1000000000000000000)(p:∀k∈n.ks,db k<=1000000000000000000)(ih:∀k∈n.ks,aK prog (run ak) 159 [aw k]=some (.i (db k)))(α:az)(H:ab)(q:adP n 0 α H):
  aF (aL (aT ak Si) α H) λe r H'=>e=.exit 0/\r 3=.i (eS n.ks+1:Nat):=by
 have j:Si=.seq (.seq _ _) (.seq _ _):=rfl;refine OU (adP n) n.ks.length _ ?_ ?_ n.ks.length 0 α H aa q
 ·rintro i α H hi ⟨s,a,h3,c,rfl⟩;obtain⟨x,f⟩:=fo hi;have hm:=Δ f;have b:=bH ((i:Int)<(n.ks.length:Int));have m:=kD (if n.ks.isEmpty then .nil else .ro) f;have o:=Il (db x) rfl (ih x hm);have g:=o8 (n:=i) aa;have h:=o8 (p x hm);have l:eS (n.ks.take (i+1))=max (eS (n.ks.take i)) (db x):=by rw[VO f,Wq]
  rw[j];by_cases hg:db x>eS (n.ks.take i)
  ·have d:=bH (((db x+1:Nat):Int)>((eS (n.ks.take i)+1:Nat):Int));simp only[go_sem,seval,a,h3,c,b,m,o,g,h,d,oK,bL];refine⟨aI,aa,?_,?_,?_,rfl⟩
   ·simp[go_sem,a]
   ·simp[go_sem,l];rw[Nat.max_eq_right aa]
   ·simp[go_sem,]
  ·have d:=bU (((db x+1:Nat):Int)>((eS (n.ks.take i)+1:Nat):Int));simp only[go_sem,seval,a,h3,c,b,m,o,g,h,d,oK,bL];refine⟨aI,aa,?_,?_,?_,rfl⟩
   ·simp[go_sem,a]
   ·simp[go_sem,h3,l];rw[Nat.max_eq_left aa]
   ·simp[go_sem,]
 ·rintro α H ⟨s,a,h3,c,rfl⟩;have b:=bU ((n.ks.length:Int)<(n.ks.length:Int));rw[j];simp only[go_sem,seval,a,h3,c,b,oK,bL];refine⟨ah,aI,?_⟩;rw[aGt]
def abh:∀n,mx n<=900000000000000000->aK prog (run ak) 159 [aw n]=some (.i (db n:Int))
 | .mk k f t w a ks,d=>by
  have e:∀x∈ks,aK prog (run ak) 159 [aw x]=some (.i (db x:Int)):=λx b=>abh x (by
   rw[ew] at d;have:=qC b
   omega)
  rw[ew] at d;refine eX (c:=.seq _ (.seq _ (.seq (.seq _ (.block 0 (.loop Si))) _))) rfl rfl func159 rfl (by rw[ntmps159];simp) (bE:=[aw (.mk k f t w a ks)]) (by simp[pP]) (by rw[yB];rfl) ?_ rfl;simp[go_sem,ab.empty];simp[bW];refine bz (dm (ang (n:=.mk k f t w a ks) (by simp[Nd.ks];omega) (λx b=>by have:=sN b;have:=Ij ks;simp[Nd.ks] at*;omega) e _ _ ⟨aa,?_,?_,?_,rfl⟩)) ?_
  case refine_4=>
   rintro _ ⟨ae,⟨m1,L1⟩,rfl,h3⟩;simp only[go_sem,seval,h3,results159];refine⟨_,rfl,?_⟩;rw[s9];rfl
  all_goals simp[go_sem,]
  all_goals rfl
 termination_by n=>SizeOf.sizeOf n
set_option maxHeartbeats 8000000
def rX(l:List Tok):Nat:=17*l.length+10
def kh(l:List Tok):Except (Nat×Nat) Nd:=match xe l (rX l) with
 |some r=>match r.2.err with
  |some b=>.error (24,b)
  |none=>if db r.1>60 then .error (25,0) else .ok r.1
 |none=>.error (0,0)
def uq:Except (Nat×Nat) Nd->AV
 | .error (e,b)=>.tup [aw dR,.i e,.i b]
 | .ok t=>.tup [aw t,.i 0,.i 0]
def Wr(x:Except (Nat×Nat) Nd):(uq x).aq=true:=by
 cases x with
 |error p=>obtain⟨e,b⟩:=p;simp[uq,AV.aq,AV.aq.go,iL]
 |ok t=>simp[uq,AV.aq,AV.aq.go,iL]
def as9(b:Nat):Bm (some b)=24:=(rfl)
def ata(b:Nat):mj (some b)=(b:Int):=(rfl)
def Zy(n:Nd)(a b:Int):(AV.tup [aw n,.i a,.i b]).erase=.tup [aw n,.i a,.i b]:=by
 cases n with
 |mk k f t w c ks=>cases ks<;>rfl
def IW(o:Ab.Own)(es:List AV)(n:Nd)(a b:Int):(AV.tup [.vec o es,aw n,.i a,.i b]).erase=.tup [.vec o.bare es,aw n,.i a,.i b]:=by
 cases n with
 |mk k f t w c ks=>cases ks<;>rfl
section
variable {l:List Tok}
def O8(h:qP l):rX l<=68010:=by have:=h.len;simp[rX];omega
def QQ(h:qP l){r:Nd×PS}(a:xe l (rX l)=some r):mx r.1<=900000000000000000:=by have h1:=amg a;have h2:=axe (rX l);have h3:=O8 h;have h4:(rX l+9)*(rX l+9)<=68019*68019:=Nat.mul_le_mul aa aa;omega
def adQ{n:Nat}(h:0<n)(h2:n<=1000000):IntKind.i64.wrap ((n:Int)-1)=((n-1:Nat):Int):=by rw[aEC _ (by omega)];omega
def adR{n:Nat}(h:0<n):((n:Int)==0)=false:=by rw[aEp];omega
def ajA(h:qP l):aK prog (run ak) 101 [.vec .ro (V l)]=some (uq (kh l)):=by
 have v:=h.len;have s:=aE3.2 h.ne;obtain⟨e,u,w⟩:=h.last;obtain⟨r,r',a,e2,_⟩:=HT h.ok h.ne (n:=rX l) (ν _);have f:=adQ s aa;have o:=uU u;have j:=adR s;have p:((e.1:Int) != 0)=false:=by rw[w];rfl
 have c2:=bU ((l.length:Int)>4000);have x:=asT v (n:=rX l) (by have:=O8 h;omega) a;have k1:∀i te H,H.get i=some (.c te (pc l ⟨0,none⟩))->bu ak 144 [.ptr i 0] H=some (aw r.1,H.set i (.c te (pc l r.2))):=λi te H hg=>sQ (first:=[]) (ar:=[.ptr i 0]) (args:=[]) rfl rfl rfl rfl (FO l _) (AD l _) (iD l _) hg x
 have k2:=k1 1 none ⟨2,[(1,.z (pc l ⟨0,none⟩)),(0,.k 71 ig)]⟩ rfl;simp[pc,Bm,mj,ig] at k2;have g:bu ak 144 [.ptr 1 0] ⟨2,[(1,.z [.vec .ro (V l),.i 0,.i 0,.i 0]),(0,.k 71 [.i 0,.i 0,.i 0,.str [],.i 0,.vec .nil []])]⟩=some (aw r.1,⟨2,[(1,.z (pc l r.2)),(0,.k 71 [.i 0,.i 0,.i 0,.str [],.i 0,.vec .nil []])]⟩):=k2;refine eX rfl rfl func101 rfl (by rw[ntmps101];simp) (bE:=[.vec .ro (V l)]) rfl (by show(AV.aq.go (V l)&&true)=true;rw[zo];rfl) ?_ (Wr _);have p3:(pc l r.2)[3]? =some (.i (mj r.2.err)):=rfl;have t:∀X:Nd,eg [AV.i 0,.i 0,.i 0,.str [],.i 0,.vec .nil []] 0 (aB X)=aB X:=vA
 cases hb:r.2.err with
 |some b=>
  have d:kh l=.error (24,b):=by simp[kh,a,hb]
  rw[d];simp only[go_sem,seval,ab.empty,uw,j,p,c2,f,o,aQ,g,p3,hb,as9,ata,results101];exact⟨_,rfl,rfl⟩
 |none=>
  have q:=Il (db r.1) rfl (abg r.1 (QQ h a));by_cases hg:db r.1>60
  ·have d:kh l=.error (25,0):=by simp[kh,a,hb,μ hg]
   have m:=bH ((db r.1:Int)>60);rw[d];simp only[go_sem,seval,ab.empty,uw,j,p,c2,f,o,aQ,g,hb,Β,q,m,results101];exact⟨_,rfl,rfl⟩
  ·have d:kh l=.ok r.1:=by simp[kh,a,hb,κ hg]
   have m:=bU ((db r.1:Int)>60);rw[d];simp only[go_sem,seval,ab.empty,uw,j,p,c2,f,o,aQ,g,hb,Β,q,m,t,results101];refine⟨_,rfl,?_⟩;exact Zy _ _ _
end
end Go.Proofs.YtmehamiifalmaaaGreatDoor
