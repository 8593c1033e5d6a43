/- LintFinds: part 12 of its proof. -/
import Derived.Test.YtmehamiifalmaaaGreatDoorG10
set_option linter.all false
namespace Go.Proofs.YtmehamiifalmaaaGreatDoor
open Go Go.Ab Go.Proofs.Tryz
set_option maxRecDepth 100000
set_option maxHeartbeats 8000000
def abi{l}{s:PS}{a:RS}(h:Rl l s a):a.bad=s.err:=by cases h<;>rfl
def aBP(b):bI (some b)=(b:Int):=(rfl)
section
variable {l:List Tok}
def ajB(h:qP l):aK prog (run ak) 111 [.vec .ro (V l)]=some (uq (kh l)):=by
 have D:=h.len;have v:=aE3.2 h.ne;obtain⟨e,F,B⟩:=h.last;obtain⟨w,r,f,C,A,_,g⟩:=HT h.ok h.ne (n:=rX l) (ν _);have x:=abi A;have p:=adQ v aa;have s:=uU F;have t:=adR v;have o:((e.1:Int) != 0)=false:=by rw[B];rfl
 have c2:=bU ((l.length:Int)>4000);have E:=as8 D (n:=rX l) (by have:=O8 h;omega) C;have k1:∀i te H,H.get i=some (.c te (rc l none))->bu ak 158 [.ptr i 0] H=some (aw r.1,H.set i (.c te (rc l r.2.bad))):=λi te H hg=>sQ (first:=[]) (ar:=[.ptr i 0]) (args:=[]) rfl rfl rfl rfl (A6 l _) (yC l _) (kj l _) hg E
 have k2:=k1 1 none ⟨2,[(1,.z (rc l none)),(0,.k 71 ig)]⟩ rfl;simp[ig] at k2;have m:bu ak 158 [.ptr 1 0] ⟨2,[(1,.z [.vec .ro (V l),.i (-1)]),(0,.k 71 [.i 0,.i 0,.i 0,.str [],.i 0,.vec .nil []])]⟩=some (aw r.1,⟨2,[(1,.z (rc l r.2.bad)),(0,.k 71 [.i 0,.i 0,.i 0,.str [],.i 0,.vec .nil []])]⟩):=k2;refine eX rfl rfl func111 rfl (by rw[ntmps111];simp) (bE:=[.vec .ro (V l)]) rfl (by show(AV.aq.go (V l)&&true)=true;rw[zo];rfl) ?_ (Wr _);have y:∀X:Nd,eg [AV.i 0,.i 0,.i 0,.str [],.i 0,.vec .nil []] 0 (aB X)=aB X:=vA
 cases hb:r.2.bad with
 |some b=>
  have d:w.2.err=some b:=by rw[<-x,hb]
  have a:kh l=.error (24,b):=by simp[kh,f,d]
  rw[a];simp only[go_sem,seval,ab.empty,uw,t,o,c2,p,s,aQ,m,hb,aBP,results111];exact⟨_,rfl,rfl⟩
 |none=>
  have d:w.2.err=none:=by rw[<-x,hb]
  have j:=g d;have u:=Il (db r.1) rfl (abh r.1 (by rw[<-j];exact QQ h f));by_cases hg:db r.1>60
  ·have a:kh l=.error (25,0):=by simp[kh,f,d,j,μ hg]
   have q:=bH ((db r.1:Int)>60);rw[a];simp only[go_sem,seval,ab.empty,uw,t,o,c2,p,s,aQ,m,hb,Β,u,q,results111];exact⟨_,rfl,rfl⟩
  ·have a:kh l=.ok r.1:=by simp[kh,f,d,j,κ hg]
   have q:=bU ((db r.1:Int)>60);rw[a];simp only[go_sem,seval,ab.empty,uw,t,o,c2,p,s,aQ,m,hb,Β,u,q,y,results111];refine⟨_,rfl,?_⟩;exact Zy _ _ _
end
def jP(s:List UInt8):Except (Nat×Nat) (List Tok×Nd):=match lex s with
 | .error p=>.error p
 | .ok l=>match kh l with
  | .error (e,b)=>.error (e,((l[b]?).getD (0,0,[],[])).2.1)
  | .ok t=>.ok (l,t)
def rY:Except (Nat×Nat) (List Tok×Nd)->AV
 | .error (e,a)=>.tup [.vec .nil [],aw dR,.i e,.i a]
 | .ok (l,t)=>.tup [.vec .ro (V l),aw t,.i 0,.i 0]
def Im(x:Except (Nat×Nat) (List Tok×Nd)):(rY x).aq=true:=by
 cases x with
 |error p=>obtain⟨e,b⟩:=p;simp[rY,AV.aq,AV.aq.go,iL]
 |ok p=>obtain⟨l,t⟩:=p;simp[rY,AV.aq,AV.aq.go,iL,zo]
def Nj{l}(h:qP l){e b}(a:kh l=.error (e,b)):(e=24\/e=25)/\∃t,l[b]? =some t:=by
 obtain⟨g,r,f,i,d,_,heq⟩:=HT h.ok h.ne (n:=rX l) (ν _);simp[kh,f] at a
 cases hb:g.2.err with
 |some c=>simp[hb] at a;obtain⟨rfl,rfl⟩:=a;exact⟨.inl rfl,fo ((ami i) c (by rw[abi d,hb]))⟩
 |none=>
  simp[hb] at a;split at a
  ·simp at a;obtain⟨rfl,rfl⟩:=a;exact⟨.inr rfl,fo (aE3.2 h.ne)⟩
  ·cases a
def HI(x:Except (Nat×Nat) (List Tok)):(nV x).erase=nV x:=by
 cases x with
 |error p=>obtain⟨e,b⟩:=p;rfl
 |ok l=>rfl
def P6(s)(H):dD ak (run ak) (.fn (.func 100) [] []) [.str s] H=some (nV (lex s),H):=by
 rw[tS rfl,show ak.P=prog from rfl];have:aK prog (run ak) 100 [.str s]=some (nV (lex s)):=by have h:=Am (E:=ak) (f:=100) rfl (args:=[.str s]) (v:=nV (lex s)) (H:=.empty) rfl rfl (by rw[HI];exact IL _);rwa [HI] at h
 rw[this];rfl
def P7(s)(H):dD ak (run ak) (.fn (.func 110) [] []) [.str s] H=some (nV (lex s),H):=by
 rw[tS rfl,show ak.P=prog from rfl];have:aK prog (run ak) 110 [.str s]=some (nV (lex s)):=by have h:=Am (E:=ak) (f:=110) rfl (args:=[.str s]) (v:=nV (lex s)) (H:=.empty) rfl rfl (by rw[HI];exact IL _);rwa [HI] at h
 rw[this];rfl
def VP{f}(a:ak.cl f=true){l}(h:aK prog (run ak) f [.vec .ro (V l)]=some (uq (kh l)))(H):dD ak (run ak) (.fn (.func f) [] []) [.vec .ro (V l)] H=some (uq (kh l),H):=by rw[tS a,show ak.P=prog from rfl,h];rfl
def axW(x y z):ij 0 (.tup [x,y,z])=some x:=(rfl)
def axX(x y z):ij 1 (.tup [x,y,z])=some y:=(rfl)
def axY(x y z):ij 2 (.tup [x,y,z])=some z:=(rfl)
attribute [go_sem] axW axX axY
def afU(a b c d):qG [a,b,c,d]=.tup [a,b,c,d]:=(rfl)
attribute [go_sem] afU
def Oh{s}{e a}(h:lex s=.error (e,a)):e≠0:=by have:=amb h;rintro rfl;simp at this
def LD{n:Nat}(h:n≠0):((n:Int) != 0)=true:=by have:=sf n 0;rw[ξ h] at this;exact this
def aBQ(s:List UInt8):aK prog (run ak) 67 [.str s]=some (rY (jP s)):=by
 refine eX rfl rfl func67 rfl (by rw[ntmps67];simp) (bE:=[.str s]) rfl rfl ?_ (Im _);have h:∀X:Nd,eg [AV.i 0,.i 0,.i 0,.str [],.i 0,.vec .nil []] 0 (aB X)=aB X:=vA
 cases hx:lex s with
 |error p=>
  obtain⟨e,a⟩:=p;have c:jP s=.error (e,a):=by simp[jP,hx]
  have d:nV (.error (e,a))=.tup [.vec .nil [],.i e,.i a]:=rfl;have f:=LD (Oh hx);rw[c];simp only[go_sem,seval,ab.empty,P6,hx,d,f,aQ,results67];exact⟨_,rfl,rfl⟩
 |ok l=>
  have j:=Ii hx;have d:nV (.ok l)=.tup [.vec .ro (V l),.i 0,.i 0]:=rfl;have k:=VP rfl (ajA j);have m:((0:Int) != 0)=false:=rfl
  cases hp:kh l with
  |error p=>
   obtain⟨e,b⟩:=p;obtain⟨he,t,hb⟩:=Nj j hp;have c:jP s=.error (e,t.2.1):=by simp[jP,hx,hp,hb]
   have g:uq (.error (e,b))=.tup [aw dR,.i e,.i b]:=rfl;have f:=LD (n:=e) aa;rw[c];simp only[go_sem,seval,ab.empty,P6,hx,d,m,k,hp,g,f,uU hb,aQ,h,results67];exact⟨_,rfl,rfl⟩
  |ok t=>
   have c:jP s=.ok (l,t):=by simp[jP,hx,hp]
   have g:uq (.ok t)=.tup [aw t,.i 0,.i 0]:=rfl;rw[c];simp only[go_sem,seval,ab.empty,P6,hx,d,m,k,hp,g,h,results67];exact⟨_,rfl,IW _ _ _ _ _⟩
def aBR(s:List UInt8):aK prog (run ak) 73 [.str s]=some (rY (jP s)):=by
 refine eX rfl rfl func73 rfl (by rw[ntmps73];simp) (bE:=[.str s]) rfl rfl ?_ (Im _);have h:∀X:Nd,eg [AV.i 0,.i 0,.i 0,.str [],.i 0,.vec .nil []] 0 (aB X)=aB X:=vA
 cases hx:lex s with
 |error p=>
  obtain⟨e,a⟩:=p;have c:jP s=.error (e,a):=by simp[jP,hx]
  have d:nV (.error (e,a))=.tup [.vec .nil [],.i e,.i a]:=rfl;have f:=LD (Oh hx);rw[c];simp only[go_sem,seval,ab.empty,P7,hx,d,f,aQ,results73];exact⟨_,rfl,rfl⟩
 |ok l=>
  have j:=Ii hx;have d:nV (.ok l)=.tup [.vec .ro (V l),.i 0,.i 0]:=rfl;have k:=VP rfl (ajB j);have m:((0:Int) != 0)=false:=rfl
  cases hp:kh l with
  |error p=>
   obtain⟨e,b⟩:=p;obtain⟨he,t,hb⟩:=Nj j hp;have c:jP s=.error (e,t.2.1):=by simp[jP,hx,hp,hb]
   have g:uq (.error (e,b))=.tup [aw dR,.i e,.i b]:=rfl;have f:=LD (n:=e) aa;rw[c];simp only[go_sem,seval,ab.empty,P7,hx,d,m,k,hp,g,f,uU hb,aQ,h,results73];exact⟨_,rfl,rfl⟩
  |ok t=>
   have c:jP s=.ok (l,t):=by simp[jP,hx,hp]
   have g:uq (.ok t)=.tup [aw t,.i 0,.i 0]:=rfl;rw[c];simp only[go_sem,seval,ab.empty,P7,hx,d,m,k,hp,g,h,results73];exact⟨_,rfl,IW _ _ _ _ _⟩
section
variable {l:List Tok}
def axZ(k f t)(ks)(w)(a):hX (e9 (.mk k f 0 [] 0 ks) (some (w,a))) t=.mk k f t w a ks:=rfl
def xu(ks:List Nd):Prop:=∀n∈ks,n.k=2->∃f t w a,n.ks=[.mk 23 f t w a []]
def xu.snoc{ks:List Nd}{n:Nd}(h:xu ks)(hn:n.k=2->∃f t w a,n.ks=[.mk 23 f t w a []]):xu (ks++[n]):=λx c=>by
 rcases aEo.1 c with b|b
 ·exact h x b
 ·grind
def anh{s}(b:(mR l s).2.err=none):∃f t w a,(mR l s).1.ks=[.mk 23 f t w a []]:=by unfold mR at b⊢;simp only at b⊢;obtain⟨a1,a2,a3⟩:=ma b;obtain⟨b1,b2,w,c⟩:=rH a1;obtain⟨e,c2,c3⟩:=ma b1;obtain⟨d1,d2,v,d⟩:=rH e;rw[c,d];exact⟨_,_,_,_,rfl⟩
def ax0{n}{s}{r}(h:uD l n s=some r)(f:r.2.err=none):r.1.k=3:=by unfold uD at h;simp only at h;obtain⟨a,g,h⟩:=al h;obtain⟨b,hb,h⟩:=al h;obtain⟨c,i,h⟩:=al h;cases h;obtain⟨e,g2,g3⟩:=AX n .block _ _ i f;obtain⟨k1,k2,k3⟩:=AX n .typed _ _ hb e;obtain⟨m1,m2,m3⟩:=AX n .params _ _ g k1;obtain⟨w1,w2,w,d⟩:=rH m1;rw[d,FN];rfl
def atb{s:PS}(c:(mR l s).2.err=none):s.err=none/\s.at_<=(mR l s).2.at_/\Gd l.length s.at_ (mR l s).2.at_ .item (mR l s).1:=by
 unfold mR at c⊢;simp only at c⊢;obtain⟨a1,a2,a3⟩:=ma c;obtain⟨b1,b2,w,b⟩:=rH a1;obtain⟨i,c2,c3⟩:=ma b1;obtain⟨h,e,v,a⟩:=rH i;obtain⟨f,e2,g⟩:=ma h;have hb:=Ι (λp=>p.2.at_) b;have d:=Ι (λp=>p.2.at_) a;simp only at hb d;refine⟨f,aa,?_⟩;rw[b,a];simp[axZ];rw[a] at c2;rw[b] at a2;rw[a] at b a2;simp only at c2 a2;refine⟨by simp[wf,cL],?_,?_⟩
 ·simp only[fr,iT,Ω,aFm,aEn,and_true];exact⟨.inr g,.inr e⟩
 ·show Rs _ _ [_];refine .one ?_ ?_<;>first|omega|(simp only at*;omega)
def atc{n}{s:PS}{r}(h:uD l n s=some r)(m:r.2.err=none):s.err=none/\s.at_<=r.2.at_/\Gd l.length s.at_ r.2.at_ .item r.1:=by
 unfold uD at h;simp only at h;obtain⟨a,k,h⟩:=al h;obtain⟨b,hb,h⟩:=al h;obtain⟨c,t,h⟩:=al h;cases h;obtain⟨j,g2,g3⟩:=AX n .block _ _ t m;obtain⟨k1,k2,e⟩:=AX n .typed _ _ hb j;obtain⟨m1,g,d⟩:=AX n .params _ _ k k1;obtain⟨w1,w2,w,i⟩:=rH m1;obtain⟨o,q2,q⟩:=ma w1;rw[i] at g d⊢;simp[Task.cl] at g2 g3 k2 e g d⊢;refine⟨o,aa,?_⟩;rw[FN,Ο];refine F9 ?_ q rfl ?_ aa aa ?_
 ·simp[wf,cL,d.w,e.w,g3.w]
 ·rw[Ks,d.f,e.f,g3.f];rfl
 ·rw[Kn];exact d.p.app (e.p.app g3.p (ν _) k2 g2) (ν _) g aa
def Ip:∀{n:Nat} {ks:List Nd} {s:PS} {r:List Nd×PS},mL l n ks s=some r->r.2.err=none->s.err=none/\(xu ks->xu r.1)/\(od l.length 0 s.at_ .item ks->s.at_<=r.2.at_/\od l.length 0 r.2.at_ .item r.1)
 |0,ks,s,r,h,_=>by cases h
 |n+1,ks,s,r,h,e=>by
  rw[mL] at h;split at h
  ·split at h
   ·simp only at h;obtain⟨a,hU,c⟩:=Ip h e;obtain⟨d,g2,g3⟩:=atb a;refine⟨d,λg=>hU (g.snoc λ_=>anh a),λhg=> ?_⟩;obtain⟨h3,f⟩:=c (hg.snoc g3 (ν _) (aFc _) g2);exact⟨aa,f⟩
   ·split at h
    ·obtain⟨x,i,h⟩:=al h;obtain⟨a,hU,c⟩:=Ip h e;obtain⟨d,g2,g3⟩:=atc i a;refine⟨d,λg=>hU (g.snoc λc=>by rw[ax0 i a] at c;cases c),λhg=> ?_⟩;obtain⟨h3,f⟩:=c (hg.snoc g3 (ν _) (aFc _) g2);exact⟨aa,f⟩
    ·obtain⟨a,_⟩:=Ip h e;exfalso;unfold jA at a
     cases hs:s.err with
     |some b=>simp[hs] at a
     |none=>simp[hs] at a
  ·grind
structure pB(l:List Tok)(t:Nd):Prop where
 gd:od l.length 0 l.length .item t.ks
 k:t.k=1
 f:t.f=0
 pos:0<l.length
 len:l.length<=4000
 Dw:l.Pairwise λa b=>a.2.1<b.2.1
 dp:db t<=60
 mw:mx t<=900000000000000000
 use:xu t.ks
def atd(h:qP l){t:Nd}(a:kh l=.ok t):pB l t:=by
 obtain⟨k,r,b,e2,g,_,heq⟩:=HT h.ok h.ne (n:=rX l) (ν _);have d:=QQ h b;simp[kh,b] at a
 cases hb:k.2.err with
 |some c=>simp only[hb] at a;cases a
 |none=>
  simp[hb] at a;split at a
  ·cases a
  ·rename_i e;simp at a;subst a;obtain⟨_,f⟩:=gA g hb;simp[xe] at b;obtain⟨x,m,b⟩:=al b;cases b;simp only at hb f e d;obtain⟨_,hU,i⟩:=Ip m hb;obtain⟨_,j⟩:=i (.nil _ _ _ _);exact⟨j.less (ν _) (Nat.le_of_lt f),rfl,rfl,aa,h.len,h.Dw,aET e,d,hU (λn o=>by cases o)⟩
def Iq{s}{t:Nd}(h:jP s=.ok (l,t)):pB l t:=by
 unfold jP at h
 cases hx:lex s with
 |error p=>rw[hx] at h;cases h
 |ok a=>
  rw[hx] at h;simp only at h
  cases hp:kh a with
  |error p=>rw[hp] at h;cases h
  |ok t'=>rw[hp] at h;simp at h;obtain⟨rfl,rfl⟩:=h;exact atd (Ii hx) hp
def pB.nodup{t:Nd}(h:pB l t):(lJ (jN t)).Nodup/\∀a∈lJ (jN t),a<l.length:=by obtain⟨b,d⟩:=afQ h.gd;exact⟨b,λa c=>(d a c).2⟩
def Ir:∀{n:Nat} {l:List Nat},l.Nodup->(∀a∈l,a<n)->l.length<=n
 |0,l,b,hb=>by
  cases l with
  |nil=>exact ν _
  |cons a r=>exact absurd (hb a Ρ) aa
 |n+1,l,b,hb=>by
  have h1:=Ir (n:=n) (b.erase n) (λa d=>by
   have c:=(b.mem_erase_iff).1 d;have:=hb a c.2;have:=c.1
   omega)
  by_cases hm:n∈l
  ·grind
  ·grind
def pB.fT{t:Nd}(h:pB l t):(jN t).bs.length+(jN t).ms.length<=4000:=by obtain⟨a,b⟩:=h.nodup;have:=Ir a b;simp[lJ] at this;have:=h.len;omega
mutual
def e_(n:Nd):List Nd:=match n with
 | .mk k f t w a ks=>.mk k f t w a ks::jQ ks
def jQ(l:List Nd):List Nd:=match l with
 |[]=>[]
 |n::r=>e_ n++jQ r
end
def eT(n:Nd):List Nd:=(e_ n).filter λx=>decide (x.k=6)
def pV(l:List Nd):List Nd:=(jQ l).filter λx=>decide (x.k=6)
def wR(k f t)(w)(a)(ks:List Nd):eT (.mk k f t w a ks)=(if k=6 then[.mk k f t w a ks] else[])++pV ks:=by unfold eT pV;rw[e_,aEU];simp[Nd.k];by_cases h:k=6<;>simp[h]
def B_(n)(r:List Nd):pV (n::r)=eT n++pV r:=by unfold eT pV;rw[jQ,List.filter_append]
def ahN:pV []=[]:=rfl
mutual
def ate(c:Cl)(hc:c.lO=false)(n:Nd)(h:wf c n=true):(eT n).length<=(pl n).length:=by
 match n with
 | .mk k f t w a ks=>
  have h2:k≠2:=by rintro rfl;rw[R3 hc] at h;cases h
  have ih:=O9 ks (O3 h);have qg:pl (.mk k f t w a ks)=(if lW k then[a] else if qd k then[f] else[])++dq ks:=by rw[pl,κ (by simpa using h2)]
  rw[wR,qg,τ,τ];by_cases h6:k=6
  ·subst h6;simp only[aEl,lW,qd];simp;omega
  ·rw[κ h6];simp;omega
def O9(ks:List Nd)(h:∀x∈ks,∃c,Cl.lO c=false/\wf c x=true):(pV ks).length<=(dq ks).length:=by
 match ks with
 |[]=>exact ν _
 |n::r=>obtain⟨c,hi,hc⟩:=h n Ρ;have h1:=ate c hi n hc;have h2:=O9 r λx hx=>h x (Κ _ hx);rw[B_,dq,τ,τ];omega
end
def ani{n:Nd}(h:wf .item n=true)(c:n.k=2->∃f t w a,n.ks=[.mk 23 f t w a []]):(eT n).length<=(pl n).length:=by
 match n with
 | .mk k f t w a ks=>
  simp[Nd.k,Nd.ks] at c;by_cases d:k=2
  ·obtain⟨f',t',w',a',rfl⟩:=c d;subst d;rw[wR,pl];simp[pV,jQ,e_,Nd.k]
  ·have b:=h;simp only[wf] at b;split at b
   ·omega
   ·split at b
    ·rename_i h3;subst h3;have:=O9 ks (IM aA b);have e:pl (.mk 3 f t w a ks)=[a]++dq ks:=rfl;rw[wR,κ aA,e,Ο,τ];omega
    ·cases b
def XO:∀ks,eH .item ks=true->xu ks->(pV ks).length<=(dq ks).length
 |[],_,_=>ν _
 |n::r,h,a=>by simp[eH] at h;have h1:=ani h.1 (a n Ρ);have h2:=XO r h.2 λx b=>a x (Κ _ b);rw[B_,dq,τ,τ];omega
def pB.aX{t:Nd}(h:pB l t):(eT t).length<=4000:=by
 have e:=XO t.ks h.gd.w h.use;have d:(dq t.ks).length<=l.length:=Ir (h.gd.p.pw.imp λg=>Nat.ne_of_lt g) (λa c=>(h.gd.p.bd a c).2);have h3:=h.len;have b:=h.k
 match t with
 | .mk k f t w a ks=>simp[Nd.k,Nd.ks] at b e d;subst b;rw[wR,κ aA,Ο];omega
def Zz{L}:∀{ks:List Nd} {x:Nd},iT L ks=true->x∈ks->fr L x=true
 |n::r,x,h,b=>by
  simp[iT] at h;rcases Υ.1 b with rfl|a
  ·exact h.1
  ·exact Zz h.2 a
def XP{c}:∀{l:List Nd} {x:Nd},eH c l=true->x∈l->wf c x=true
 |n::r,x,h,b=>by
  simp[eH] at h;rcases Υ.1 b with rfl|a
  ·exact h.1
  ·exact XP h.2 a
def atf{y:Nd}(h:wf .stmt y=true):y.k≠0:=by
 cases y with
 |mk k f t w a ks=>simp[Nd.k];rintro rfl;simp[wf] at h
def ahO{c:Cl}(b:c.lO=false){f t a}{w}{ks}(h:wf c (.mk 6 f t w a ks)=true):eH .stmt ks=true:=by cases c<;>simp[wf,Cl.lO] at h b⊢<;>exact h
mutual
def atg{L}(c:Cl)(hc:c.lO=false)(n:Nd)(h:wf c n=true)(hf:fr L n=true):∀x∈eT n,x.f<L/\∀y∈x.ks,y.f<L:=by
 match n with
 | .mk k f t w a ks=>
  simp[fr] at hf;intro x hx;rw[wR] at hx;rcases aEo.1 hx with h1|h1
  ·by_cases h6:k=6
   ·subst h6;simp[aE8] at h1;subst h1;refine⟨by have:=hf.1;simp[Nd.f];omega,λy hy=> ?_⟩;simp[Nd.ks] at hy;have hk:=atf (XP (ahO hc h) hy);have h2:=Zz hf.2 hy
    cases y with
    |mk k' f' t' w' a' D4=>simp[Nd.k] at hk;simp[fr] at h2;simp[Nd.f];have:=h2.1;omega
   ·rw[κ h6] at h1;cases h1
  ·exact O_ ks (O3 h) hf.2 x h1
def O_{L}(ks:List Nd)(h:∀x∈ks,∃c,Cl.lO c=false/\wf c x=true)(hf:iT L ks=true):∀x∈pV ks,x.f<L/\∀y∈x.ks,y.f<L:=by
 match ks with
 |[]=>intro x hx;cases hx
 |n::r=>
  simp[iT] at hf;obtain⟨c,hi,hc⟩:=h n Ρ;intro x hx;rw[B_] at hx;rcases aEo.1 hx with h1|h1
  ·exact atg c hi n hc hf.1 x h1
  ·exact O_ r (λx hx=>h x (Κ _ hx)) hf.2 x h1
end
def anj{L:Nat}{n:Nd}(h:wf .item n=true)(d:n.k=2->∃f t w a,n.ks=[.mk 23 f t w a []])(hf:fr L n=true):∀x∈eT n,x.f<L/\∀y∈x.ks,y.f<L:=by
 match n with
 | .mk k f t w a ks=>
  simp[Nd.k,Nd.ks] at d;simp[fr] at hf;by_cases e:k=2
  ·obtain⟨f',t',w',a',rfl⟩:=d e;subst e;intro x c;rw[wR] at c;simp[pV,jQ,e_,Nd.k] at c
  ·have b:=h;simp only[wf] at b;split at b
   ·omega
   ·split at b
    ·rename_i h3;subst h3;intro x c;rw[wR,κ aA,Ο] at c;exact O_ ks (IM aA b) hf.2 x c
    ·cases b
def XQ{L:Nat}:∀ks,eH .item ks=true->xu ks->iT L ks=true->∀x∈pV ks,x.f<L/\∀y∈x.ks,y.f<L
 |[],_,_,_=>λx a=>by cases a
 |n::r,h,c,hf=>by
  simp[eH] at h;simp[iT] at hf;intro x a;rw[B_] at a;rcases aEo.1 a with b|b
  ·exact anj h.1 (c n Ρ) hf.1 x b
  ·exact XQ r h.2 (λx a=>c x (Κ _ a)) hf.2 x b
def pB.LF{t:Nd}(h:pB l t):∀x∈eT t,x.f<l.length/\∀y∈x.ks,y.f<l.length:=by
 have b:=XQ t.ks h.gd.w h.use h.gd.f;have c:=h.k
 match t with
 | .mk k f t w a ks=>simp[Nd.k,Nd.ks] at c b;subst c;intro x d;rw[wR,κ aA,Ο] at d;exact b x d
end
mutual
def pC(n:Nd):Nat:=match n with
 | .mk _ _ _ _ _ ks=>if ks.isEmpty then 1 else jt ks
def jt(l:List Nd):Nat:=match l with
 |[]=>0
 |n::r=>pC n+jt r
end
mutual
def ank(n:Nd):1<=pC n:=by
 match n with
 | .mk k f t w a ks=>
  have:=XR ks;unfold pC
  cases hk:ks.isEmpty with
  |true=>simp
  |false=>simp;exact this hk
def XR(l:List Nd):l.isEmpty=false->1<=jt l:=by
 match l with
 |[]=>intro h;cases h
 |n::r=>intro _;have:=ank n;unfold jt;omega
end
mutual
def abj(n:Nd):(e_ n).length<=db n*pC n:=by
 match n with
 | .mk k f t w a ks=>
  have h1:=ZA ks;have h2:=XR ks;rw[e_,Γ,s9];unfold pC
  cases hk:ks.isEmpty with
  |true=>
   have:ks=[]:=by simpa using hk
   subst this;simp[jQ]
  |false=>have h3:=h2 hk;simp;rw[aEM];omega
def ZA(l:List Nd):(jQ l).length<=eS l*jt l:=by
 match l with
 |[]=>simp[jQ]
 |n::r=>have h1:=abj n;have h2:=ZA r;rw[jQ,τ];simp[eS,jt];have h3:db n*pC n<=max (db n) (eS r)*pC n:=aEq _ (aFK _ _);have h4:eS r*jt r<=max (db n) (eS r)*jt r:=aEq _ (aFE _ _);rw[aGM];omega
end
def acM{c}:∀{ks:List Nd},cL [c] ks=true->∃x,ks=[x]/\wf c x=true
 |[],h=>by simp[cL] at h
 |[x],h=>⟨x,rfl,by simpa[cL] using h⟩
 |x::y::r,h=>by simp[cL] at h
def acN{c d}:∀{ks:List Nd},cL [c,d] ks=true->∃x y,ks=[x,y]/\wf c x=true/\wf d y=true
 |[],h=>by simp[cL] at h
 |x::r,h=>by simp[cL] at h;obtain⟨y,rfl,a⟩:=acM h.2;exact⟨x,y,rfl,h.1,a⟩
def acO{c d e}:∀{ks:List Nd},cL [c,d,e] ks=true->∃x y z,ks=[x,y,z]/\wf c x=true/\wf d y=true/\wf e z=true
 |[],h=>by simp[cL] at h
 |x::r,h=>by simp[cL] at h;obtain⟨y,z,rfl,a,b⟩:=acN h.2;exact⟨x,y,z,rfl,h.1,a,b⟩
def ax1:∀{ks:List Nd},cL [] ks=true->ks=[]
 |[],_=>rfl
 |x::r,h=>by simp[cL] at h
def up:Cl->Nat
 | .opt=>1| .AW=>1| .params=>1|_=>0
def dn:Cl->Nat
 | .block=>2|_=>0
def Cn(c:Cl)(n:Nd):Prop:=pC n+dn c<=3*(pl n).length+up c
def abk{k f t a}{w}{ks}(h:k≠2):(pl (.mk k f t w a ks)).length=(if lW k=true\/qd k=true then 1 else 0)+(dq ks).length:=by rw[pl,κ (by simpa using h),τ];cases lW k<;>cases qd k<;>simp
def ZB{c:Cl}(a:dn c=0)(e:up c=0):∀{ks:List Nd},(∀x∈ks,wf c x=true->Cn c x)->eH c ks=true->jt ks<=3*(dq ks).length
 |[],_,_=>by simp[jt]
 |x::r,b,h=>by simp[eH] at h;have d:=b x Ρ h.1;have h2:=ZB a e (λy f=>b y (Κ _ f)) h.2;unfold Cn at d;rw[a,e] at d;simp[jt,dq];omega
def P8(k f t a)(w:List UInt8)(ks:List Nd):pC (.mk k f t w a ks)<=(if ks.isEmpty then 1 else 0)+jt ks:=by unfold pC;cases ks<;>simp
def adS{ks:List Nd}(a:∀x∈ks,∀c,Cl.lO c=false->wf c x=true->Cn c x)(h:cL [.params,.opt,.block] ks=true):jt ks<=3*(dq ks).length/\ks.isEmpty=false:=by obtain⟨x,y,z,rfl,g,b,i⟩:=acO h;have d:=a x ah .params rfl g;have f:=a y ah .opt rfl b;have e:=a z ah .block rfl i;simp[Cn,up,dn] at d f e;refine⟨?_,rfl⟩;simp[jt,dq];omega
def abl(n:Nd):∀c,Cl.lO c=false->wf c n=true->Cn c n:=by
 match n with
 | .mk k f t w a ks=>
  intro c A h;have i:∀x∈ks,∀c,Cl.lO c=false->wf c x=true->Cn c x:=λx j=>abl x;have C:k≠2:=by rintro rfl;rw[R3 A] at h;cases h
  have b:=P8 k f t a w ks;unfold Cn;rw[abk C];have own:lW k=true\/qd k=true->(if lW k=true\/qd k=true then 1 else 0)=1:=λe=>μ e;have l1:∀{c:Cl},Cl.lO c=false->dn c=0->up c=0->eH c ks=true->jt ks<=3*(dq ks).length:=λhi B F m=>ZB B F (λx j=>i x j _ hi) m;have o:∀{c:Cl},Cl.lO c=false->cL [c] ks=true->jt ks+dn c<=3*(dq ks).length+up c/\ks.isEmpty=false:=λ{c} hi m=>by obtain⟨x,rfl,j⟩:=acM m;have:=i x ah c hi j;unfold Cn at this;refine⟨?_,rfl⟩;simp only[jt,dq,τ,Χ];omega
  have r:∀{c d:Cl},Cl.lO c=false->Cl.lO d=false->cL [c,d] ks=true->jt ks+dn c+dn d<=3*(dq ks).length+up c+up d/\ks.isEmpty=false:=λ{c d} hi G m=>by obtain⟨x,y,rfl,j,u⟩:=acN m;have s:=i x ah c hi j;have v:=i y ah d G u;unfold Cn at s v;refine⟨?_,rfl⟩;simp only[jt,dq,τ,Χ];omega
  have p:cL [] ks=true->ks=[]:=ax1;have aD9:(if ks.isEmpty then 1 else 0)<=1:=by split<;>omega
  have l:(if k=29\/k=30\/k=31 then cL [] ks else if k=32 then eH .field ks else if k=34 then !ks.isEmpty&&eH .type ks else false)=true->pC (.mk k f t w a ks)<=3*((if lW k=true\/qd k=true then 1 else 0)+(dq ks).length):=λh=>by
   split at h
   ·rename_i g;rw[p h] at b⊢;rw[own (.inr (by rcases g with rfl|rfl|rfl<;>rfl))];simp only[jt,aFF,aEl] at b;omega
   ·split at h
    ·rename_i g;have:=l1 (c:=.field) rfl rfl rfl h;rw[own (.inr (by subst g;rfl))];omega
    ·split at h
     ·simp only[Ω,aFk] at h;have:=l1 (c:=.type) rfl rfl rfl h.2;rw[h.1] at b;simp only[υ,ap1] at b;omega
     ·cases h
  have aX:k=6->eH .stmt ks=true->pC (.mk k f t w a ks)+2<=3*((if lW k=true\/qd k=true then 1 else 0)+(dq ks).length):=λg h=>by have:=l1 (c:=.stmt) rfl rfl rfl h;rw[own (.inr (by subst g;rfl))];omega
  cases c with
  |item=>cases A
  |expr=>
   simp only[wf] at h;simp only[up,dn];split at h
   ·rename_i g;rw[p h] at b⊢;rw[own (by rcases g with rfl|rfl|rfl|rfl<;>first|exact .inr rfl|exact .inl rfl)]
    simp only[jt,aFF,aEl] at b;omega
   ·split at h
    ·obtain⟨q,e⟩:=o (c:=.expr) rfl h;simp only[up,dn] at q;rw[e] at b;simp only[υ,ap1] at b;omega
    ·split at h
     ·obtain⟨q,e⟩:=r (c:=.expr) (d:=.expr) rfl rfl h;simp only[up,dn] at q;rw[e] at b;simp only[υ,ap1] at b;omega
     ·split at h
      ·simp only[Ω,aFk] at h;have:=l1 (c:=.expr) rfl rfl rfl h.2;rw[h.1] at b;simp only[υ,ap1] at b;omega
      ·split at h
       ·rename_i g;have:=l1 (c:=.entry) rfl rfl rfl h;rw[own (.inr (by subst g;rfl))];omega
       ·split at h
        ·obtain⟨q,e⟩:=adS i h;rw[e] at b;simp only[υ,ap1] at b;omega
        ·cases h
  |type=>simp only[wf] at h;have:=l h;simp only[up,dn];omega
  |opt=>
   simp only[wf] at h;simp only[up,dn];split at h
   ·rw[p h] at b⊢;simp only[jt,aFF,aEl] at b;omega
   ·have:=l h;omega
  |stmt=>
   simp only[wf] at h;simp only[up,dn];split at h
   ·rename_i g;obtain⟨q,e⟩:=r (c:=.opt) (d:=.expr) rfl rfl h;simp only[up,dn] at q;rw[e] at b;simp only[υ,ap1] at b;rw[own (.inl (by subst g;rfl))];omega
   ·split at h
    ·obtain⟨q,e⟩:=o (c:=.expr) rfl h;simp only[up,dn] at q;rw[e] at b;simp only[υ,ap1] at b;omega
    ·split at h
     ·obtain⟨x,y,z,rfl,j,u,E⟩:=acO h;have s:=i x ah .expr rfl j;have v:=i y ah .block rfl u;have D:=i z ah .AW rfl E;simp only[Cn,up,dn] at s v D;simp only[jt,dq,τ,Χ,List.isEmpty_cons,υ,ap1] at b⊢;omega
     ·split at h
      ·obtain⟨q,e⟩:=r (c:=.expr) (d:=.block) rfl rfl h;simp only[up,dn] at q;rw[e] at b;simp only[υ,ap1] at b;omega
      ·cases h
  |block=>
   simp only[wf] at h;simp only[up,dn];split at h
   ·rename_i g;have:=aX g h;omega
   ·cases h
  |AW=>
   simp only[wf] at h;simp only[up,dn];split at h
   ·rw[p h] at b⊢;simp only[jt,aFF,aEl] at b;omega
   ·split at h
    ·rename_i g;have:=aX g h;omega
    ·cases h
  |params=>
   simp only[wf] at h;simp only[up,dn];split at h
   ·have:=l1 (c:=.param) rfl rfl rfl h;omega
   ·cases h
  |param=>
   simp only[wf] at h;simp only[up,dn];split at h
   ·rename_i g;obtain⟨q,e⟩:=o (c:=.opt) rfl h;simp only[up,dn] at q;rw[e] at b;simp only[υ,ap1] at b;rw[own (.inl (by subst g;rfl))];omega
   ·cases h
  |entry=>
   simp only[wf] at h;simp only[up,dn];split at h
   ·obtain⟨q,e⟩:=o (c:=.expr) rfl h;simp only[up,dn] at q;rw[e] at b;simp only[υ,ap1] at b;omega
   ·cases h
  |field=>
   simp only[wf] at h;simp only[up,dn];split at h
   ·obtain⟨q,e⟩:=o (c:=.type) rfl h;simp only[up,dn] at q;rw[e] at b;simp only[υ,ap1] at b;omega
   ·cases h
 termination_by SizeOf.sizeOf n
def XS:∀ks,eH .item ks=true->xu ks->jt ks<=3*(dq ks).length
 |[],_,_=>by simp[jt]
 |n::r,h,i=>by
  simp[eH] at h;have h2:=XS r h.2 λx j=>i x (Κ _ j)
  have h1:pC n<=3*(pl n).length:=by
   match n with
   | .mk k f t w a ks=>
    have d:=i (.mk k f t w a ks) Ρ;simp[Nd.k,Nd.ks] at d;by_cases c:k=2
    ·obtain⟨f',t',w',a',rfl⟩:=d c;subst c;simp[pC,jt,pl]
    ·have b:=h.1;simp only[wf] at b;split at b
     ·omega
     ·split at b
      ·obtain⟨q,e⟩:=adS (λx _=>abl x) b;have g:=P8 k f t a w ks;rw[e] at g;simp at g;rw[abk c];omega
      ·cases b
  simp[jt,dq];omega
def pB.all{l}{t:Nd}(h:pB l t):(e_ t).length<=1000000000:=by
 have e:=XS t.ks h.gd.w h.use;have d:(dq t.ks).length<=l.length:=Ir (h.gd.p.pw.imp λi=>Nat.ne_of_lt i) (λa c=>(h.gd.p.bd a c).2);have h3:=h.len;have h4:=abj t
 have b:pC t<=12001:=by
  match t with
  | .mk k f g w a ks=>
   have hl:=P8 k f g a w ks;simp[Nd.ks] at e d;have:(if ks.isEmpty then 1 else 0)<=1:=by split<;>omega
   omega
 have h7:db t*pC t<=60*12001:=Nat.mul_le_mul h.dp b;omega
end Go.Proofs.YtmehamiifalmaaaGreatDoor
