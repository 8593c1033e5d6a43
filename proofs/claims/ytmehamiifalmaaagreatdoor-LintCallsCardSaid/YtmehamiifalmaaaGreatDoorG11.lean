/- LintCalls: part 12 of its proof. -/
import Derived.Test.YtmehamiifalmaaaGreatDoorG10
set_option linter.all false
namespace Go.Proofs.YtmehamiifalmaaaGreatDoor
open Go Go.Ab Go.Proofs.Tryz
set_option maxRecDepth 100000
set_option maxHeartbeats 8000000
def aaE{l}{s:PS}{a:RS}(h:Rl l s a):a.bad=s.err:=by cases h<;>rfl
def aAI(b):bI (some b)=(b:Int):=(rfl)
section
variable {l:List Tok}
def aiY(h:p_ l):aI prog (run ak) 111 [.vec .ro (V l)]=some (tJ (jj l)):=by
 have C:=h.len;have x:=aDV.2 h.ne;obtain⟨e,D,y⟩:=h.last;obtain⟨v,r,f,B,E,_,j⟩:=Ec h.ok h.ne (n:=qE l) (μ _);have w:=aaE E;have p:=adf x aa;have s:=uz D;have t:=adg x;have o:((e.1:Int) != 0)=false:=by rw[y];rfl
 have c2:=bP ((l.length:Int)>4000);have F:=asl C (n:=qE l) (by have:=Og h;omega) B;have k1:∀i te H,H.get i=some (.c te (rc l none))->bt ak 158 [.ptr i 0] H=some (aB r.1,H.set i (.c te (rc l r.2.bad))):=λi te H hg=>sr (first:=[]) (ar:=[.ptr i 0]) (args:=[]) rfl rfl rfl rfl (AD l _) (yd l _) (kg l _) hg F
 have k2:=k1 1 none ⟨2,[(1,.z (rc l none)),(0,.k 71 iy)]⟩ rfl;simp[iy] at k2;have m:bt ak 158 [.ptr 1 0] ⟨2,[(1,.z [.vec .ro (V l),.i (-1)]),(0,.k 71 [.i 0,.i 0,.i 0,.str [],.i 0,.vec .nil []])]⟩=some (aB r.1,⟨2,[(1,.z (rc l r.2.bad)),(0,.k 71 [.i 0,.i 0,.i 0,.str [],.i 0,.vec .nil []])]⟩):=k2;refine fk rfl rfl func111 rfl (by rw[ntmps111];simp) (bW:=[.vec .ro (V l)]) rfl (by show(AV.aq.go (V l)&&true)=true;rw[wW];rfl) ?_ (V7 _);have A:∀X:Nd,eD [AV.i 0,.i 0,.i 0,.str [],.i 0,.vec .nil []] 0 (aC X)=aC X:=uW
 cases hb:r.2.bad with
 |some b=>
  have a:v.2.err=some b:=by rw[<-w,hb]
  have d:jj l=.error (24,b):=by simp[jj,f,a]
  rw[d];simp only[go_sem,seval,ab.empty,tR,t,o,c2,p,s,aZ,m,hb,aAI,results111];exact⟨_,rfl,rfl⟩
 |none=>
  have a:v.2.err=none:=by rw[<-w,hb]
  have g:=j a;have u:=Ht (dz r.1) rfl (aaD r.1 (by rw[<-g];exact Qk h f));by_cases hg:dz r.1>60
  ·have d:jj l=.error (25,0):=by simp[jj,f,a,g,ν hg]
   have q:=bJ ((dz r.1:Int)>60);rw[d];simp only[go_sem,seval,ab.empty,tR,t,o,c2,p,s,aZ,m,hb,Ε,u,q,results111];exact⟨_,rfl,rfl⟩
  ·have d:jj l=.ok r.1:=by simp[jj,f,a,g,κ hg]
   have q:=bP ((dz r.1:Int)>60);rw[d];simp only[go_sem,seval,ab.empty,tR,t,o,c2,p,s,aZ,m,hb,Ε,u,q,A,results111];refine⟨_,rfl,?_⟩;exact Y1 _ _ _
end
def iW(s:List UInt8):Except (Nat×Nat) (List Tok×Nd):=match lex s with
 | .error p=>.error p
 | .ok l=>match jj l with
  | .error (e,b)=>.error (e,((l[b]?).getD (0,0,[],[])).2.1)
  | .ok t=>.ok (l,t)
def rG:Except (Nat×Nat) (List Tok×Nd)->AV
 | .error (e,a)=>.tup [.vec .nil [],aB eG,.i e,.i a]
 | .ok (l,t)=>.tup [.vec .ro (V l),aB t,.i 0,.i 0]
def Hu(x:Except (Nat×Nat) (List Tok×Nd)):(rG x).aq=true:=by
 cases x with
 |error p=>obtain⟨e,b⟩:=p;simp[rG,AV.aq,AV.aq.go,jI]
 |ok p=>obtain⟨l,t⟩:=p;simp[rG,AV.aq,AV.aq.go,jI,wW]
def MF{l}(h:p_ l){e b}(a:jj l=.error (e,b)):(e=24\/e=25)/\∃t,l[b]? =some t:=by
 obtain⟨f,r,d,i,g,_,heq⟩:=Ec h.ok h.ne (n:=qE l) (μ _);simp[jj,d] at a
 cases hb:f.2.err with
 |some c=>simp[hb] at a;obtain⟨rfl,rfl⟩:=a;exact⟨.inl rfl,fG ((alC i) c (by rw[aaE g,hb]))⟩
 |none=>
  simp[hb] at a;split at a
  ·simp at a;obtain⟨rfl,rfl⟩:=a;exact⟨.inr rfl,fG (aDV.2 h.ne)⟩
  ·cases a
def GY(x:Except (Nat×Nat) (List Tok)):(nY x).erase=nY x:=by
 cases x with
 |error p=>obtain⟨e,b⟩:=p;rfl
 |ok l=>rfl
def Pm(s)(H):dX ak (run ak) (.fn (.func 100) [] []) [.str s] H=some (nY (lex s),H):=by
 rw[sf rfl,show ak.P=prog from rfl];have:aI prog (run ak) 100 [.str s]=some (nY (lex s)):=by have h:=xK (E:=ak) (f:=100) rfl (args:=[.str s]) (v:=nY (lex s)) (H:=.empty) rfl rfl (by rw[GY];exact HS _);rwa [GY] at h
 rw[this];rfl
def Pn(s)(H):dX ak (run ak) (.fn (.func 110) [] []) [.str s] H=some (nY (lex s),H):=by
 rw[sf rfl,show ak.P=prog from rfl];have:aI prog (run ak) 110 [.str s]=some (nY (lex s)):=by have h:=xK (E:=ak) (f:=110) rfl (args:=[.str s]) (v:=nY (lex s)) (H:=.empty) rfl rfl (by rw[GY];exact HS _);rwa [GY] at h
 rw[this];rfl
def Vt{f}(a:ak.cl f=true){l}(h:aI prog (run ak) f [.vec .ro (V l)]=some (tJ (jj l)))(H):dX ak (run ak) (.fn (.func f) [] []) [.vec .ro (V l)] H=some (tJ (jj l),H):=by rw[sf a,show ak.P=prog from rfl,h];rfl
def awQ(x y z):iz 0 (.tup [x,y,z])=some x:=(rfl)
def awR(x y z):iz 1 (.tup [x,y,z])=some y:=(rfl)
def awS(x y z):iz 2 (.tup [x,y,z])=some z:=(rfl)
attribute [go_sem] awQ awR awS
def afg(a b c d):qz [a,b,c,d]=.tup [a,b,c,d]:=(rfl)
attribute [go_sem] afg
def Ny{s}{e a}(h:lex s=.error (e,a)):e≠0:=by have:=alv h;rintro rfl;simp at this
def KY{n:Nat}(h:n≠0):((n:Int) != 0)=true:=by have:=rO n 0;rw[ξ h] at this;exact this
def aAJ(s:List UInt8):aI prog (run ak) 67 [.str s]=some (rG (iW s)):=by
 refine fk rfl rfl func67 rfl (by rw[ntmps67];simp) (bW:=[.str s]) rfl rfl ?_ (Hu _);have h:∀X:Nd,eD [AV.i 0,.i 0,.i 0,.str [],.i 0,.vec .nil []] 0 (aC X)=aC X:=uW
 cases hx:lex s with
 |error p=>
  obtain⟨e,a⟩:=p;have c:iW s=.error (e,a):=by simp[iW,hx]
  have d:nY (.error (e,a))=.tup [.vec .nil [],.i e,.i a]:=rfl;have g:=KY (Ny hx);rw[c];simp only[go_sem,seval,ab.empty,Pm,hx,d,g,aZ,results67];exact⟨_,rfl,rfl⟩
 |ok l=>
  have j:=En hx;have d:nY (.ok l)=.tup [.vec .ro (V l),.i 0,.i 0]:=rfl;have k:=Vt rfl (aiX j);have m:((0:Int) != 0)=false:=rfl
  cases hp:jj l with
  |error p=>
   obtain⟨e,b⟩:=p;obtain⟨he,t,hb⟩:=MF j hp;have c:iW s=.error (e,t.2.1):=by simp[iW,hx,hp,hb]
   have f:tJ (.error (e,b))=.tup [aB eG,.i e,.i b]:=rfl;have g:=KY (n:=e) aa;rw[c];simp only[go_sem,seval,ab.empty,Pm,hx,d,m,k,hp,f,g,uz hb,aZ,h,results67];exact⟨_,rfl,rfl⟩
  |ok t=>
   have c:iW s=.ok (l,t):=by simp[iW,hx,hp]
   have f:tJ (.ok t)=.tup [aB t,.i 0,.i 0]:=rfl;rw[c];simp only[go_sem,seval,ab.empty,Pm,hx,d,m,k,hp,f,h,results67];exact⟨_,rfl,HW _ _ _ _ _⟩
def aAK(s:List UInt8):aI prog (run ak) 73 [.str s]=some (rG (iW s)):=by
 refine fk rfl rfl func73 rfl (by rw[ntmps73];simp) (bW:=[.str s]) rfl rfl ?_ (Hu _);have h:∀X:Nd,eD [AV.i 0,.i 0,.i 0,.str [],.i 0,.vec .nil []] 0 (aC X)=aC X:=uW
 cases hx:lex s with
 |error p=>
  obtain⟨e,a⟩:=p;have c:iW s=.error (e,a):=by simp[iW,hx]
  have d:nY (.error (e,a))=.tup [.vec .nil [],.i e,.i a]:=rfl;have g:=KY (Ny hx);rw[c];simp only[go_sem,seval,ab.empty,Pn,hx,d,g,aZ,results73];exact⟨_,rfl,rfl⟩
 |ok l=>
  have j:=En hx;have d:nY (.ok l)=.tup [.vec .ro (V l),.i 0,.i 0]:=rfl;have k:=Vt rfl (aiY j);have m:((0:Int) != 0)=false:=rfl
  cases hp:jj l with
  |error p=>
   obtain⟨e,b⟩:=p;obtain⟨he,t,hb⟩:=MF j hp;have c:iW s=.error (e,t.2.1):=by simp[iW,hx,hp,hb]
   have f:tJ (.error (e,b))=.tup [aB eG,.i e,.i b]:=rfl;have g:=KY (n:=e) aa;rw[c];simp only[go_sem,seval,ab.empty,Pn,hx,d,m,k,hp,f,g,uz hb,aZ,h,results73];exact⟨_,rfl,rfl⟩
  |ok t=>
   have c:iW s=.ok (l,t):=by simp[iW,hx,hp]
   have f:tJ (.ok t)=.tup [aB t,.i 0,.i 0]:=rfl;rw[c];simp only[go_sem,seval,ab.empty,Pn,hx,d,m,k,hp,f,h,results73];exact⟨_,rfl,HW _ _ _ _ _⟩
section
variable {l:List Tok}
def awT(k f t)(ks)(w)(a):ij (eY (.mk k f 0 [] 0 ks) (some (w,a))) t=.mk k f t w a ks:=rfl
def w7(ks:List Nd):Prop:=∀n∈ks,n.k=2->∃f t w a,n.ks=[.mk 23 f t w a []]
def w7.snoc{ks:List Nd}{n:Nd}(h:w7 ks)(hn:n.k=2->∃f t w a,n.ks=[.mk 23 f t w a []]):w7 (ks++[n]):=λx c=>by
 rcases Ω.1 c with b|b
 ·exact h x b
 ·grind
def amD{s}(b:(ny l s).2.err=none):∃f t w a,(ny l s).1.ks=[.mk 23 f t w a []]:=by unfold ny at b⊢;simp only at b⊢;obtain⟨a1,a2,a3⟩:=mF b;obtain⟨b1,b2,w,c⟩:=qV a1;obtain⟨e,c2,c3⟩:=mF b1;obtain⟨d1,d2,v,d⟩:=qV e;rw[c,d];exact⟨_,_,_,_,rfl⟩
def awV{n}{s}{r}(h:tX l n s=some r)(f:r.2.err=none):r.1.k=3:=by unfold tX at h;simp only at h;obtain⟨a,g,h⟩:=al h;obtain⟨b,hb,h⟩:=al h;obtain⟨c,i,h⟩:=al h;cases h;obtain⟨e,g2,g3⟩:=An n .block _ _ i f;obtain⟨k1,k2,k3⟩:=An n .typed _ _ hb e;obtain⟨m1,m2,m3⟩:=An n .params _ _ g k1;obtain⟨w1,w2,w,d⟩:=qV m1;rw[d,Fg];rfl
def aso{s:PS}(c:(ny l s).2.err=none):s.err=none/\s.at_<=(ny l s).2.at_/\Gd l.length s.at_ (ny l s).2.at_ .item (ny l s).1:=by
 unfold ny at c⊢;simp only at c⊢;obtain⟨a1,a2,a3⟩:=mF c;obtain⟨b1,b2,w,b⟩:=qV a1;obtain⟨i,c2,c3⟩:=mF b1;obtain⟨h,e,v,a⟩:=qV i;obtain⟨f,e2,g⟩:=mF h;have hb:=Λ (λp=>p.2.at_) b;have d:=Λ (λp=>p.2.at_) a;simp only at hb d;refine⟨f,aa,?_⟩;rw[b,a];simp[awT];rw[a] at c2;rw[b] at a2;rw[a] at b a2;simp only at c2 a2;refine⟨by simp[wf,cE],?_,?_⟩
 ·simp only[fr,jc,ap2,aD7,aDs,and_true];exact⟨.inr g,.inr e⟩
 ·show Rs _ _ [_];refine .one ?_ ?_<;>first|omega|(simp only at*;omega)
def asp{n}{s:PS}{r}(h:tX l n s=some r)(m:r.2.err=none):s.err=none/\s.at_<=r.2.at_/\Gd l.length s.at_ r.2.at_ .item r.1:=by
 unfold tX at h;simp only at h;obtain⟨a,k,h⟩:=al h;obtain⟨b,hb,h⟩:=al h;obtain⟨c,t,h⟩:=al h;cases h;obtain⟨j,g2,g3⟩:=An n .block _ _ t m;obtain⟨k1,k2,e⟩:=An n .typed _ _ hb j;obtain⟨m1,g,d⟩:=An n .params _ _ k k1;obtain⟨w1,w2,w,i⟩:=qV m1;obtain⟨o,q2,q⟩:=mF w1;rw[i] at g d⊢;simp[Task.cl] at g2 g3 k2 e g d⊢;refine⟨o,aa,?_⟩;rw[Fg,aDl];refine FA ?_ q rfl ?_ aa aa ?_
 ·simp[wf,cE,d.w,e.w,g3.w]
 ·rw[JI,d.f,e.f,g3.f];rfl
 ·rw[JH];exact d.p.app (e.p.app g3.p (μ _) k2 g2) (μ _) g aa
def Eo:∀{n:Nat} {ks:List Nd} {s:PS} {r:List Nd×PS},nq l n ks s=some r->r.2.err=none->s.err=none/\(w7 ks->w7 r.1)/\(oq l.length 0 s.at_ .item ks->s.at_<=r.2.at_/\oq l.length 0 r.2.at_ .item r.1)
 |0,ks,s,r,h,_=>by cases h
 |n+1,ks,s,r,h,e=>by
  rw[nq] at h;split at h
  ·split at h
   ·simp only at h;obtain⟨a,hU,c⟩:=Eo h e;obtain⟨d,g2,g3⟩:=aso a;refine⟨d,λg=>hU (g.snoc λ_=>amD a),λhg=> ?_⟩;obtain⟨j,f⟩:=c (hg.snoc g3 (μ _) (aDT _) g2);exact⟨aa,f⟩
   ·split at h
    ·obtain⟨x,i,h⟩:=al h;obtain⟨a,hU,c⟩:=Eo h e;obtain⟨d,g2,g3⟩:=asp i a;refine⟨d,λg=>hU (g.snoc λc=>by rw[awV i a] at c;cases c),λhg=> ?_⟩;obtain⟨j,f⟩:=c (hg.snoc g3 (μ _) (aDT _) g2);exact⟨aa,f⟩
    ·obtain⟨a,_⟩:=Eo h e;exfalso;unfold jL at a
     cases hs:s.err with
     |some b=>simp[hs] at a
     |none=>simp[hs] at a
  ·grind
structure pD(l:List Tok)(t:Nd):Prop where
 gd:oq l.length 0 l.length .item t.ks
 k:t.k=1
 f:t.f=0
 pos:0<l.length
 len:l.length<=4000
 C0:l.Pairwise λa b=>a.2.1<b.2.1
 dp:dz t<=60
 mw:mx t<=900000000000000000
 use:w7 t.ks
def asq(h:p_ l){t:Nd}(a:jj l=.ok t):pD l t:=by
 obtain⟨j,r,b,e2,k,_,heq⟩:=Ec h.ok h.ne (n:=qE l) (μ _);have d:=Qk h b;simp[jj,b] at a
 cases hb:j.2.err with
 |some c=>simp only[hb] at a;cases a
 |none=>
  simp[hb] at a;split at a
  ·cases a
  ·rename_i e;simp at a;subst a;obtain⟨_,f⟩:=gj k hb;simp[u_] at b;obtain⟨x,m,b⟩:=al b;cases b;simp only at hb f e d;obtain⟨_,hU,g⟩:=Eo m hb;obtain⟨_,i⟩:=g (.nil _ _ _ _);exact⟨i.less (μ _) (Nat.le_of_lt f),rfl,rfl,aa,h.len,h.C0,aD2 e,d,hU (λn o=>by cases o)⟩
def Hv{s}{t:Nd}(h:iW s=.ok (l,t)):pD l t:=by
 unfold iW at h
 cases hx:lex s with
 |error p=>rw[hx] at h;cases h
 |ok a=>
  rw[hx] at h;simp only at h
  cases hp:jj a with
  |error p=>rw[hp] at h;cases h
  |ok t'=>rw[hp] at h;simp at h;obtain⟨rfl,rfl⟩:=h;exact asq (En hx) hp
def pD.nodup{t:Nd}(h:pD l t):(kQ (iK t)).Nodup/\∀a∈kQ (iK t),a<l.length:=by obtain⟨b,d⟩:=UR h.gd;exact⟨b,λa c=>(d a c).2⟩
def Hw:∀{n:Nat} {l:List Nat},l.Nodup->(∀a∈l,a<n)->l.length<=n
 |0,l,b,hb=>by
  cases l with
  |nil=>exact μ _
  |cons a r=>exact absurd (hb a as1) aa
 |n+1,l,b,hb=>by
  have h1:=Hw (n:=n) (b.erase n) (λa d=>by
   have c:=(b.mem_erase_iff).1 d;have:=hb a c.2;have:=c.1
   omega)
  by_cases hm:n∈l
  ·grind
  ·grind
def pD.iJ{t:Nd}(h:pD l t):(iK t).bs.length+(iK t).ms.length<=4000:=by obtain⟨a,b⟩:=h.nodup;have:=Hw a b;simp[kQ] at this;have:=h.len;omega
mutual
def vt(n:Nd):List Nd:=match n with
 | .mk k f t w a ks=>.mk k f t w a ks::va ks
def va(l:List Nd):List Nd:=match l with
 |[]=>[]
 |n::r=>vt n++va r
end
def qb(n:Nd):List Nd:=(vt n).filter λx=>decide (x.k=6)
def tS(l:List Nd):List Nd:=(va l).filter λx=>decide (x.k=6)
def ye(k f t)(w)(a)(ks:List Nd):qb (.mk k f t w a ks)=(if k=6 then[.mk k f t w a ks] else[])++tS ks:=by unfold qb tS;rw[vt,aEI];simp[Nd.k];by_cases h:k=6<;>simp[h]
def GZ(n)(r:List Nd):tS (n::r)=qb n++tS r:=by unfold qb tS;rw[va,List.filter_append]
mutual
def asr(c:Cl)(hc:c.l8=false)(n:Nd)(h:wf c n=true):(qb n).length<=(pl n).length:=by
 match n with
 | .mk k f t w a ks=>
  have h2:k≠2:=by rintro rfl;rw[Rx hc] at h;cases h
  have ih:=Oh ks (Ob h);have vE:pl (.mk k f t w a ks)=(if mn k then[a] else if qa k then[f] else[])++c_ ks:=by rw[pl,κ (by simpa using h2)]
  rw[ye,vE,χ,χ];by_cases h6:k=6
  ·subst h6;simp only[aDp,mn,qa];simp;omega
  ·rw[κ h6];simp;omega
def Oh(ks:List Nd)(h:∀x∈ks,∃c,Cl.l8 c=false/\wf c x=true):(tS ks).length<=(c_ ks).length:=by
 match ks with
 |[]=>exact μ _
 |n::r=>obtain⟨c,hi,hc⟩:=h n as1;have h1:=asr c hi n hc;have h2:=Oh r λx hx=>h x (Η _ hx);rw[GZ,c_,χ,χ];omega
end
def amE{n:Nd}(h:wf .item n=true)(d:n.k=2->∃f t w a,n.ks=[.mk 23 f t w a []]):(qb n).length<=(pl n).length:=by
 match n with
 | .mk k f t w a ks=>
  simp[Nd.k,Nd.ks] at d;by_cases c:k=2
  ·obtain⟨f',t',w',a',rfl⟩:=d c;subst c;rw[ye,pl];simp[tS,va,vt,Nd.k]
  ·have b:=h;simp only[wf] at b;split at b
   ·omega
   ·split at b
    ·rename_i g;subst g;have:=Oh ks (HT aA b);have e:pl (.mk 3 f t w a ks)=[a]++c_ ks:=rfl;rw[ye,κ aA,e,aDl,χ];omega
    ·cases b
def Xg:∀ks,eK .item ks=true->w7 ks->(tS ks).length<=(c_ ks).length
 |[],_,_=>μ _
 |n::r,h,a=>by simp[eK] at h;have h1:=amE h.1 (a n as1);have h2:=Xg r h.2 λx b=>a x (Η _ b);rw[GZ,c_,χ,χ];omega
def pD.aS{t:Nd}(h:pD l t):(qb t).length<=4000:=by
 have g:=Xg t.ks h.gd.w h.use;have e:(c_ t.ks).length<=l.length:=Hw (h.gd.p.pw.imp λc=>Nat.ne_of_lt c) (λa d=>(h.gd.p.bd a d).2);have h3:=h.len;have b:=h.k
 match t with
 | .mk k f t w a ks=>simp[Nd.k,Nd.ks] at b g e;subst b;rw[ye,κ aA,aDl];omega
def Y2{L}:∀{ks:List Nd} {x:Nd},jc L ks=true->x∈ks->fr L x=true
 |n::r,x,h,b=>by
  simp[jc] at h;rcases Ν.1 b with rfl|a
  ·exact h.1
  ·exact Y2 h.2 a
def Xh{c}:∀{l:List Nd} {x:Nd},eK c l=true->x∈l->wf c x=true
 |n::r,x,h,b=>by
  simp[eK] at h;rcases Ν.1 b with rfl|a
  ·exact h.1
  ·exact Xh h.2 a
def ass{y:Nd}(h:wf .stmt y=true):y.k≠0:=by
 cases y with
 |mk k f t w a ks=>simp[Nd.k];rintro rfl;simp[wf] at h
def ahc{c:Cl}(b:c.l8=false){f t a}{w}{ks}(h:wf c (.mk 6 f t w a ks)=true):eK .stmt ks=true:=by cases c<;>simp[wf,Cl.l8] at h b⊢<;>exact h
mutual
def ast{L}(c:Cl)(hc:c.l8=false)(n:Nd)(h:wf c n=true)(hf:fr L n=true):∀x∈qb n,x.f<L/\∀y∈x.ks,y.f<L:=by
 match n with
 | .mk k f t w a ks=>
  simp[fr] at hf;intro x hx;rw[ye] at hx;rcases Ω.1 hx with h1|h1
  ·by_cases h6:k=6
   ·subst h6;simp[Μ] at h1;subst h1;refine⟨by have:=hf.1;simp[Nd.f];omega,λy hy=> ?_⟩;simp[Nd.ks] at hy;have hk:=ass (Xh (ahc hc h) hy);have h2:=Y2 hf.2 hy
    cases y with
    |mk k' f' t' w' a' Ds=>simp[Nd.k] at hk;simp[fr] at h2;simp[Nd.f];have:=h2.1;omega
   ·rw[κ h6] at h1;cases h1
  ·exact Oi ks (Ob h) hf.2 x h1
def Oi{L}(ks:List Nd)(h:∀x∈ks,∃c,Cl.l8 c=false/\wf c x=true)(hf:jc L ks=true):∀x∈tS ks,x.f<L/\∀y∈x.ks,y.f<L:=by
 match ks with
 |[]=>intro x hx;cases hx
 |n::r=>
  simp[jc] at hf;obtain⟨c,hi,hc⟩:=h n as1;intro x hx;rw[GZ] at hx;rcases Ω.1 hx with h1|h1
  ·exact ast c hi n hc hf.1 x h1
  ·exact Oi r (λx hx=>h x (Η _ hx)) hf.2 x h1
end
def amF{L:Nat}{n:Nd}(h:wf .item n=true)(g:n.k=2->∃f t w a,n.ks=[.mk 23 f t w a []])(d:fr L n=true):∀x∈qb n,x.f<L/\∀y∈x.ks,y.f<L:=by
 match n with
 | .mk k f t w a ks=>
  simp[Nd.k,Nd.ks] at g;simp[fr] at d;by_cases e:k=2
  ·obtain⟨f',t',w',a',rfl⟩:=g e;subst e;intro x c;rw[ye] at c;simp[tS,va,vt,Nd.k] at c
  ·have b:=h;simp only[wf] at b;split at b
   ·omega
   ·split at b
    ·rename_i i;subst i;intro x c;rw[ye,κ aA,aDl] at c;exact Oi ks (HT aA b) d.2 x c
    ·cases b
def Xi{L:Nat}:∀ks,eK .item ks=true->w7 ks->jc L ks=true->∀x∈tS ks,x.f<L/\∀y∈x.ks,y.f<L
 |[],_,_,_=>λx a=>by cases a
 |n::r,h,d,c=>by
  simp[eK] at h;simp[jc] at c;intro x a;rw[GZ] at a;rcases Ω.1 a with b|b
  ·exact amF h.1 (d n as1) c.1 x b
  ·exact Xi r h.2 (λx a=>d x (Η _ a)) c.2 x b
def pD.bok{t:Nd}(h:pD l t):∀x∈qb t,x.f<l.length/\∀y∈x.ks,y.f<l.length:=by
 have b:=Xi t.ks h.gd.w h.use h.gd.f;have c:=h.k
 match t with
 | .mk k f t w a ks=>simp[Nd.k,Nd.ks] at c b;subst c;intro x d;rw[ye,κ aA,aDl] at d;exact b x d
end
mutual
def pE(n:Nd):Nat:=match n with
 | .mk _ _ _ _ _ ks=>if ks.isEmpty then 1 else jB ks
def jB(l:List Nd):Nat:=match l with
 |[]=>0
 |n::r=>pE n+jB r
end
mutual
def amG(n:Nd):1<=pE n:=by
 match n with
 | .mk k f t w a ks=>
  have:=Xj ks;unfold pE
  cases hk:ks.isEmpty with
  |true=>simp
  |false=>simp;exact this hk
def Xj(l:List Nd):l.isEmpty=false->1<=jB l:=by
 match l with
 |[]=>intro h;cases h
 |n::r=>intro _;have:=amG n;unfold jB;omega
end
mutual
def aaF(n:Nd):(vt n).length<=dz n*pE n:=by
 match n with
 | .mk k f t w a ks=>
  have h1:=Y3 ks;have h2:=Xj ks;rw[vt,Ι,tI];unfold pE
  cases hk:ks.isEmpty with
  |true=>
   have:ks=[]:=by simpa using hk
   subst this;simp[va]
  |false=>have h3:=h2 hk;simp;rw[aDJ];omega
def Y3(l:List Nd):(va l).length<=fC l*jB l:=by
 match l with
 |[]=>simp[va]
 |n::r=>have h1:=aaF n;have h2:=Y3 r;rw[va,χ];simp[fC,jB];have h3:dz n*pE n<=max (dz n) (fC r)*pE n:=aDr _ (aEM _ _);have h4:fC r*jB r<=max (dz n) (fC r)*jB r:=aDr _ (aEH _ _);rw[aFv];omega
end
def ab3{c}:∀{ks:List Nd},cE [c] ks=true->∃x,ks=[x]/\wf c x=true
 |[],h=>by simp[cE] at h
 |[x],h=>⟨x,rfl,by simpa[cE] using h⟩
 |x::y::r,h=>by simp[cE] at h
def ab4{c d}:∀{ks:List Nd},cE [c,d] ks=true->∃x y,ks=[x,y]/\wf c x=true/\wf d y=true
 |[],h=>by simp[cE] at h
 |x::r,h=>by simp[cE] at h;obtain⟨y,rfl,a⟩:=ab3 h.2;exact⟨x,y,rfl,h.1,a⟩
def ab5{c d e}:∀{ks:List Nd},cE [c,d,e] ks=true->∃x y z,ks=[x,y,z]/\wf c x=true/\wf d y=true/\wf e z=true
 |[],h=>by simp[cE] at h
 |x::r,h=>by simp[cE] at h;obtain⟨y,z,rfl,a,b⟩:=ab4 h.2;exact⟨x,y,z,rfl,h.1,a,b⟩
def awW:∀{ks:List Nd},cE [] ks=true->ks=[]
 |[],_=>rfl
 |x::r,h=>by simp[cE] at h
def up:Cl->Nat
 | .opt=>1| .Am=>1| .params=>1|_=>0
def dn:Cl->Nat
 | .block=>2|_=>0
def Cn(c:Cl)(n:Nd):Prop:=pE n+dn c<=3*(pl n).length+up c
def aaG{k f t a}{w}{ks}(h:k≠2):(pl (.mk k f t w a ks)).length=(if mn k=true\/qa k=true then 1 else 0)+(c_ ks).length:=by rw[pl,κ (by simpa using h),χ];cases mn k<;>cases qa k<;>simp
def Y4{c:Cl}(a:dn c=0)(e:up c=0):∀{ks:List Nd},(∀x∈ks,wf c x=true->Cn c x)->eK c ks=true->jB ks<=3*(c_ ks).length
 |[],_,_=>by simp[jB]
 |x::r,b,h=>by simp[eK] at h;have d:=b x as1 h.1;have h2:=Y4 a e (λy f=>b y (Η _ f)) h.2;unfold Cn at d;rw[a,e] at d;simp[jB,c_];omega
def Po(k f t a)(w:List UInt8)(ks:List Nd):pE (.mk k f t w a ks)<=(if ks.isEmpty then 1 else 0)+jB ks:=by unfold pE;cases ks<;>simp
def adh{ks:List Nd}(a:∀x∈ks,∀c,Cl.l8 c=false->wf c x=true->Cn c x)(h:cE [.params,.opt,.block] ks=true):jB ks<=3*(c_ ks).length/\ks.isEmpty=false:=by obtain⟨x,y,z,rfl,g,b,i⟩:=ab5 h;have d:=a x ai .params rfl g;have f:=a y ai .opt rfl b;have e:=a z ai .block rfl i;simp[Cn,up,dn] at d f e;refine⟨?_,rfl⟩;simp[jB,c_];omega
def aaH(n:Nd):∀c,Cl.l8 c=false->wf c n=true->Cn c n:=by
 match n with
 | .mk k f t w a ks=>
  intro c A h;have i:∀x∈ks,∀c,Cl.l8 c=false->wf c x=true->Cn c x:=λx j=>aaH x;have C:k≠2:=by rintro rfl;rw[Rx A] at h;cases h
  have b:=Po k f t a w ks;unfold Cn;rw[aaG C];have own:mn k=true\/qa k=true->(if mn k=true\/qa k=true then 1 else 0)=1:=λe=>ν e;have l1:∀{c:Cl},Cl.l8 c=false->dn c=0->up c=0->eK c ks=true->jB ks<=3*(c_ ks).length:=λhi B F m=>Y4 B F (λx j=>i x j _ hi) m;have o:∀{c:Cl},Cl.l8 c=false->cE [c] ks=true->jB ks+dn c<=3*(c_ ks).length+up c/\ks.isEmpty=false:=λ{c} hi m=>by obtain⟨x,rfl,j⟩:=ab3 m;have:=i x ai c hi j;unfold Cn at this;refine⟨?_,rfl⟩;simp only[jB,c_,χ,Χ];omega
  have r:∀{c d:Cl},Cl.l8 c=false->Cl.l8 d=false->cE [c,d] ks=true->jB ks+dn c+dn d<=3*(c_ ks).length+up c+up d/\ks.isEmpty=false:=λ{c d} hi G m=>by obtain⟨x,y,rfl,j,u⟩:=ab4 m;have s:=i x ai c hi j;have v:=i y ai d G u;unfold Cn at s v;refine⟨?_,rfl⟩;simp only[jB,c_,χ,Χ];omega
  have p:cE [] ks=true->ks=[]:=awW;have aDb:(if ks.isEmpty then 1 else 0)<=1:=by split<;>omega
  have l:(if k=29\/k=30\/k=31 then cE [] ks else if k=32 then eK .field ks else if k=34 then !ks.isEmpty&&eK .type ks else false)=true->pE (.mk k f t w a ks)<=3*((if mn k=true\/qa k=true then 1 else 0)+(c_ ks).length):=λh=>by
   split at h
   ·rename_i g;rw[p h] at b⊢;rw[own (.inr (by rcases g with rfl|rfl|rfl<;>rfl))];simp only[jB,aEt,aDp] at b;omega
   ·split at h
    ·rename_i g;have:=l1 (c:=.field) rfl rfl rfl h;rw[own (.inr (by subst g;rfl))];omega
    ·split at h
     ·simp only[ap2,aEA] at h;have:=l1 (c:=.type) rfl rfl rfl h.2;rw[h.1] at b;simp only[τ,aDf] at b;omega
     ·cases h
  have aS:k=6->eK .stmt ks=true->pE (.mk k f t w a ks)+2<=3*((if mn k=true\/qa k=true then 1 else 0)+(c_ ks).length):=λg h=>by have:=l1 (c:=.stmt) rfl rfl rfl h;rw[own (.inr (by subst g;rfl))];omega
  cases c with
  |item=>cases A
  |expr=>
   simp only[wf] at h;simp only[up,dn];split at h
   ·rename_i g;rw[p h] at b⊢;rw[own (by rcases g with rfl|rfl|rfl|rfl<;>first|exact .inr rfl|exact .inl rfl)]
    simp only[jB,aEt,aDp] at b;omega
   ·split at h
    ·obtain⟨q,e⟩:=o (c:=.expr) rfl h;simp only[up,dn] at q;rw[e] at b;simp only[τ,aDf] at b;omega
    ·split at h
     ·obtain⟨q,e⟩:=r (c:=.expr) (d:=.expr) rfl rfl h;simp only[up,dn] at q;rw[e] at b;simp only[τ,aDf] at b;omega
     ·split at h
      ·simp only[ap2,aEA] at h;have:=l1 (c:=.expr) rfl rfl rfl h.2;rw[h.1] at b;simp only[τ,aDf] at b;omega
      ·split at h
       ·rename_i g;have:=l1 (c:=.entry) rfl rfl rfl h;rw[own (.inr (by subst g;rfl))];omega
       ·split at h
        ·obtain⟨q,e⟩:=adh i h;rw[e] at b;simp only[τ,aDf] at b;omega
        ·cases h
  |type=>simp only[wf] at h;have:=l h;simp only[up,dn];omega
  |opt=>
   simp only[wf] at h;simp only[up,dn];split at h
   ·rw[p h] at b⊢;simp only[jB,aEt,aDp] at b;omega
   ·have:=l h;omega
  |stmt=>
   simp only[wf] at h;simp only[up,dn];split at h
   ·rename_i g;obtain⟨q,e⟩:=r (c:=.opt) (d:=.expr) rfl rfl h;simp only[up,dn] at q;rw[e] at b;simp only[τ,aDf] at b;rw[own (.inl (by subst g;rfl))];omega
   ·split at h
    ·obtain⟨q,e⟩:=o (c:=.expr) rfl h;simp only[up,dn] at q;rw[e] at b;simp only[τ,aDf] at b;omega
    ·split at h
     ·obtain⟨x,y,z,rfl,j,u,E⟩:=ab5 h;have s:=i x ai .expr rfl j;have v:=i y ai .block rfl u;have D:=i z ai .Am rfl E;simp only[Cn,up,dn] at s v D;simp only[jB,c_,χ,Χ,List.isEmpty_cons,τ,aDf] at b⊢;omega
     ·split at h
      ·obtain⟨q,e⟩:=r (c:=.expr) (d:=.block) rfl rfl h;simp only[up,dn] at q;rw[e] at b;simp only[τ,aDf] at b;omega
      ·cases h
  |block=>
   simp only[wf] at h;simp only[up,dn];split at h
   ·rename_i g;have:=aS g h;omega
   ·cases h
  |Am=>
   simp only[wf] at h;simp only[up,dn];split at h
   ·rw[p h] at b⊢;simp only[jB,aEt,aDp] at b;omega
   ·split at h
    ·rename_i g;have:=aS g h;omega
    ·cases h
  |params=>
   simp only[wf] at h;simp only[up,dn];split at h
   ·have:=l1 (c:=.param) rfl rfl rfl h;omega
   ·cases h
  |param=>
   simp only[wf] at h;simp only[up,dn];split at h
   ·rename_i g;obtain⟨q,e⟩:=o (c:=.opt) rfl h;simp only[up,dn] at q;rw[e] at b;simp only[τ,aDf] at b;rw[own (.inl (by subst g;rfl))];omega
   ·cases h
  |entry=>
   simp only[wf] at h;simp only[up,dn];split at h
   ·obtain⟨q,e⟩:=o (c:=.expr) rfl h;simp only[up,dn] at q;rw[e] at b;simp only[τ,aDf] at b;omega
   ·cases h
  |field=>
   simp only[wf] at h;simp only[up,dn];split at h
   ·obtain⟨q,e⟩:=o (c:=.type) rfl h;simp only[up,dn] at q;rw[e] at b;simp only[τ,aDf] at b;omega
   ·cases h
 termination_by SizeOf.sizeOf n
def Xk:∀ks,eK .item ks=true->w7 ks->jB ks<=3*(c_ ks).length
 |[],_,_=>by simp[jB]
 |n::r,h,i=>by
  simp[eK] at h;have h2:=Xk r h.2 λx j=>i x (Η _ j)
  have h1:pE n<=3*(pl n).length:=by
   match n with
   | .mk k f t w a ks=>
    have d:=i (.mk k f t w a ks) as1;simp[Nd.k,Nd.ks] at d;by_cases c:k=2
    ·obtain⟨f',t',w',a',rfl⟩:=d c;subst c;simp[pE,jB,pl]
    ·have b:=h.1;simp only[wf] at b;split at b
     ·omega
     ·split at b
      ·obtain⟨q,e⟩:=adh (λx _=>aaH x) b;have g:=Po k f t a w ks;rw[e] at g;simp at g;rw[aaG c];omega
      ·cases b
  simp[jB,c_];omega
def pD.all{l}{t:Nd}(h:pD l t):(vt t).length<=1000000000:=by
 have g:=Xk t.ks h.gd.w h.use;have e:(c_ t.ks).length<=l.length:=Hw (h.gd.p.pw.imp λb=>Nat.ne_of_lt b) (λa d=>(h.gd.p.bd a d).2);have h3:=h.len;have h4:=aaF t
 have c:pE t<=12001:=by
  match t with
  | .mk k f i w a ks=>
   have hl:=Po k f i a w ks;simp[Nd.ks] at g e;have:(if ks.isEmpty then 1 else 0)<=1:=by split<;>omega
   omega
 have h7:dz t*pE t<=60*12001:=Nat.mul_le_mul h.dp c;omega
end Go.Proofs.YtmehamiifalmaaaGreatDoor
