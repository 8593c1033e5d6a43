/- LintCalls: part 20 of its proof. -/
import Derived.Test.YtmehamiifalmaaaGreatDoorG16
import Derived.Test.YtmehamiifalmaaaGreatDoorG17
import Derived.Test.YtmehamiifalmaaaGreatDoorG11
set_option linter.all false
namespace Go.Ab
open Go
def atT(v:AV):v.bare.bare=v.bare:=by
 cases v with
 |vec o es=>cases o<;>rfl
 |_=>rfl
def XB(l:List AV):(l.map AV.bare).map AV.bare=l.map AV.bare:=by rw[aEz];exact aDO λx _=>atT x
def aoz(v:AV):v.erase.erase=v.erase:=by
 cases v with
 |agg cs=>simp only[AV.erase,XB]
 |tup cs=>
  simp only[AV.erase,aEz];congr 1;refine aDO λx _=> ?_
  cases x with
  |agg ds=>simp only[Function.comp,XB]
  |vec o es=>cases o<;>rfl
  |_=>rfl
 |vec o es=>cases o<;>rfl
 |_=>rfl
def wh(P)(c)(f)(args:List AV):aI P c f (args.map AV.erase)=aI P c f args:=by
 have:(args.map AV.erase).map AV.erase=args.map AV.erase:=by rw[aEz];exact aDO λx _=>aoz x
 unfold aI;rw[this]
noncomputable def bf(E:Env)(fs:List FuncId):ck:=λf args H=>if fs.contains f=true then an (aI E.P (run E) f args) λv=>some (v,H) else none
def atU{E}(b:ia E){fs:List FuncId}(c:∀f,fs.contains f=true->kG E.P f):dN E.P (bf E fs):=by
 intro f args H v H' a;unfold bf at a;split at a
 ·rename_i d
  cases h:aI E.P (run E) f args with
  |none=>rw[h] at a;cases a
  |some u=>rw[h] at a;simp[an] at a;obtain⟨rfl,rfl⟩:=a;exact⟨c f d,L8 b h H⟩
 ·cases a
def Wi{P}{c}{f}{args:List AV}{v}(h:aI P c f args=some v):AV.aq.go (args.map AV.erase)=true:=by
 unfold aI at h;split at h
 ·rename_i a;exact a
 ·cases h
def ahg{F E:Env}{fs:List FuncId}{f}{args}{v:AV}(c:F.G f=false)(d:∀args H,F.ext f args H=bf E fs f args H)(b:fs.contains f=true)(h:aI E.P (run E) f args=some v)(a:v.erase=v)(hn:v.aq=true):aI F.P (run F) f args=some v:=by have:=xK c (args:=args) (v:=v) (H:=.empty) (Wi h) (by rw[d];unfold bf;rw[ν b,wh,h];rfl) (by rwa [a]);rwa [a] at this
def ji{F E:Env}{fs:List FuncId}{f}{args}{v:AV}(c:F.cl f=true)(d:F.G f=false)(g:∀args H,F.ext f args H=bf E fs f args H)(a:fs.contains f=true)(h:aI E.P (run E) f args=some v)(b:v.erase=v)(e:v.aq=true)(H):dX F (run F) (.fn (.func f) [] []) args H=some (v,H):=by rw[sf c,ahg d g a h b e];rfl
def xQ{E:Env}{f}{args}{v}(a:E.cl f=true)(h:aI E.P (run E) f args=some v)(H):dX E (run E) (.fn (.func f) [] []) args H=some (v,H):=by rw[sf a,h];rfl
def oC{T:Type}{P}{t et}{n}(el:eW P t=some et)(sz:bF P et=some n)(g:T->AV)(o){l:List T}{i:Nat}{x:T}(h:l[i]? =some x)(a:(g x).width=some n):dC P t (.vec o (l.map g)) (.i i)=some (.rptr (g x).cells):=by
 have b:(l.map g)[i]? =some (g x):=by rw[aDC,h];rfl
 simp only[dC,aFF,b,el,sz,a];rw[xh,ν ⟨trivial,ai⟩]
end Go.Ab
namespace Go.Proofs.YtmehamiifalmaaaGreatDoor
open Go Go.Ab Go.Proofs.Tryz
set_option maxRecDepth 100000
set_option maxHeartbeats 8000000
def Jq:List FuncId:=[72,42,75,76,77,107,108,109,153,154,195,33,64]
noncomputable def fg:Env:={P:=prog,G:=λf=>Jq.contains f,cl:=λf=>Jq.contains f,eX:=λ_=>false,dyn:=λ_=>false,df:=λ_=>false,ext:=λ_ _ _=>none}
def aoA:Jq.all (okF fg)=true:=af
def axm:fg.P=prog:=(rfl)
attribute [go_sem] axm
def cN{f}(a:fg.cl f=true){args}{v}(h:aI prog (run fg) f args=some v)(H):bt fg f args H=some (v,H):=xQ a h H
noncomputable def aBb(f:FuncId)(p:UInt8->Bool):Bool:=(List.range 256).all λn=>match aI prog (eI fg 30) f [.int .u8 (n:Nat)] with
 |some (.bool x)=>x==p (UInt8.ofNat n)
 |_=>false
def HA{f}{p:UInt8->Bool}(h:aBb f p=true)(b:UInt8):aI prog (run fg) f [.int .u8 b.toNat]=some (.bool (p b)):=by
 have a:=aDn.1 h b.toNat (aDU.2 b.toNat_lt);revert a
 cases hc:aI prog (eI fg 30) f [.int .u8 b.toNat] with
 |none=>intro a;cases a
 |some v=>
  cases v<;>intro a<;>try(cases a;done)
  rename_i x;simp[aFG] at a;rw[<-a];exact Aj 30 hc
def aa3(b:UInt8):aI prog (run fg) 107 [.int .u8 b.toNat]=some (.bool (isLet b)):=HA rfl b
def atV(b:UInt8):aI prog (run fg) 109 [.int .u8 b.toNat]=some (.bool (jK b)):=HA rfl b
def atW(b:UInt8):aI prog (run fg) 77 [.int .u8 b.toNat]=some (.bool (isLet b)):=HA rfl b
def acp(b:UInt8):aI prog (run fg) 76 [.int .u8 b.toNat]=some (.bool (jK b)):=HA rfl b
def SA(l:List (List UInt8)):List AV:=l.map .str
def I2(l:List (List UInt8)):(SA l).length=l.length:=by simp[SA]
def R6(o){l}{i:Nat}{x:List UInt8}(h:l[i]? =some x):dC prog 66 (.vec o (SA l)) (.i i)=some (.rptr [.str x]):=oC Al lM AV.str o h rfl
def Lo{s}{i:Nat}{b:UInt8}(h:s[i]? =some b):ni prog 9 (.str s) (.i i)=some (.int .u8 b.toNat):=by simp[ni,aat,h]
def aBc(x y):jS .eql x y=some (.bool (x==y)):=(rfl)
def aBd(x y):jS .neq x y=some (.bool (!(x==y))):=(rfl)
def aBe(x y):jS .lss x y=some (.bool (Op.bytesLess x y)):=(rfl)
def aBf(x y):jS .gtr x y=some (.bool (!(Op.bytesLess x y||x==y))):=(rfl)
attribute [go_sem] aBc aBd aBe aBf
noncomputable def J0:=f195.c.r.l.r.b.b
def Zx{o:Ab.Own}{l:List (List UInt8)}(z:l.length<=16384){w:List UInt8}:∀r i α H,l.drop i=r->i<=l.length->α 0=.vec o (SA l)->α 1=.str w->α 7=.i l.length->α 8=.i i->
  aD (aJ (aO fg J0) α H) λe s H'=>(e=.exit 0/\¬w∈r)\/(e=.ret/\w∈r/\∃j:Nat,s 4=.i j)
 |[],i,α,⟨n,L⟩,g,hi,k,h,d,f=>by
  have q:J0=.seq _ (.seq _ (.seq (.block _ (.seq _ (.seq _ _))) _)):=rfl;have p:i=l.length:=by have:=Κ.1 g;omega
  subst p;have m:=d_ (aDF l.length);rw[aG,q];simp only[go_sem,seval,d,f,m];exact .inl ⟨aK,ai⟩
 |x::r,i,α,⟨n,L⟩,g,hi,k,h,d,f=>by
  have q:J0=.seq _ (.seq _ (.seq (.block _ (.seq _ (.seq _ _))) _)):=rfl;have u:l[i]? =some x:=by have:=Λ (·[0]?) g;simpa using this
  have p:i<l.length:=(ο.1 u).1;have v:l.drop (i+1)=r:=by rw[<-List.drop_drop,g];rfl
  have m:=dM p;have t:=R6 o u;rw[aG,q]
  cases hq:(w==x) with
  |true=>
   have:w=x:=by simpa using hq
   subst this;simp only[go_sem,seval,k,h,d,f,m,t,hq];exact .inr ⟨aK,as1,i,by simp[go_sem]⟩
  |false=>
   have y:w≠x:=λe=>by subst e;simp at hq
   simp only[go_sem,seval,k,h,d,f,m,t,hq,(ph (n:=i) aa)];refine aT ((λα=>Zx (o:=o) z (w:=w) r (i+1) α ⟨n,L⟩ v aa) _ ?_ ?_ ?_ ?_) ?_
   case refine_5=>
    rintro e s H' (⟨a,b⟩|⟨a,b,c⟩)
    ·exact .inl ⟨a,λhm=>(Ν.1 hm).elim y b⟩
    ·exact .inr ⟨a,Η _ b,c⟩
   all_goals simp[go_sem,k,h,d]
def ajY(l:List (List UInt8))(w)(a:l.length<=16384):∃z:Int,aI prog (run fg) 195 [.vec .ro (SA l),.str w]=some (.i z)/\decide (z≥0)=l.contains w:=by
 suffices hh:∃v,aI prog (run fg) 195 [.vec .ro (SA l),.str w]=some v/\∃z:Int,v=.i z/\decide (z≥0)=l.contains w by obtain⟨v,h,z,rfl,d⟩:=hh;exact⟨z,h,d⟩
 refine uO (c:=.seq _ (.seq (.seq _ (.block 0 (.loop J0))) _)) rfl rfl func195 rfl (by rw[ntmps195];simp) (bW:=[.vec .ro (SA l),.str w]) rfl ?_ ?_
 ·have:∀l:List (List UInt8),AV.aq.go (SA l)=true:=λl=>by
   induction l with
   |nil=>rfl
   |cons x l ih=>show(true&&AV.aq.go (SA l))=true;rw[ih];rfl
  show(AV.aq.go (SA l)&&_)=true;rw[this];rfl
 simp only[go_sem,seval,I2,ab.empty];simp only[cg];refine bL (mG (Zx (o:=.ro) (w:=w) a l 0 _ _ rfl aa ?_ ?_ ?_ ?_)) ?_
 case refine_5=>
  rintro _ ⟨e,ae,H',rfl,⟨rfl,hm⟩|⟨rfl,hm,j,b⟩⟩
  ·simp only[go_sem,seval,results195];refine⟨_,_,_,rfl,rfl, -1,rfl,?_⟩
   have:l.contains w=false:=by
    cases hc:l.contains w with
    |false=>rfl
    |true=>exact(hm (Θ.1 hc)).elim
   rw[this];rfl
  ·simp only[go_sem,seval,b,results195];refine⟨_,_,_,rfl,rfl,j,rfl,?_⟩;rw[Θ.2 hm];exact bJ _
 all_goals simp[go_sem]
 all_goals(try rfl)
def afh(l:List (List UInt8))(w)(b:l.length<=16384):aI prog (run fg) 153 [.vec .ro (SA l),.str w]=some (.bool (l.contains w)):=by
 obtain⟨z,a,d⟩:=ajY l w b;refine tc (c:=.seq _ (.seq _ _)) rfl rfl func153 rfl (by rw[ntmps153];simp) (bW:=[.vec .ro (SA l),.str w]) rfl ?_ ?_ rfl rfl
 ·exact Wi a
 ·simp[go_sem,ab.empty,cN rfl a,d,results153]
def aoB:aI prog (run fg) 154 []=some (.vec .ro (SA wT)):=Aj 30 (O8 rfl)
def ajZ(w):aI prog (run fg) 108 [.str w]=some (.bool (isKey w)):=by refine tc (c:=.seq _ (.seq _ _)) rfl rfl func108 rfl (by rw[ntmps108];simp) (bW:=[.str w]) rfl rfl ?_ rfl rfl;simp only[go_sem,seval,ab.empty,cN rfl aoB,(cN rfl (afh wT w aA)),results108];rfl
def rq(s:List UInt8):Bool:=match s with
 |[]=>false
 |b::_=>decide (s.length<=40)&&isLet b&& !isKey s&&s.all bj
def UX(b)(r):rq (b::r)=(decide ((b::r).length<=40)&&isLet b&& !isKey (b::r)&&(b::r).all bj):=(rfl)
def XC(w):([[117,115,101],[100,101,102],[108,101,116],[105,102],[101,108,115,101],[119,104,105,108,101],[112,114,105,110,116],[114,101,116,117,114,110],[102,110],[105,110,112,117,116],[105,110,116],[115,116,114],[100,121,110]]:List (List UInt8)).contains w=isKey w:=by
 rw[isKey,aD0];simp[Θ,wT];constructor
 ·grind
 ·grind
def Fm:List (List UInt8):=[[117,115,101],[100,101,102],[108,101,116],[105,102],[101,108,115,101],[119,104,105,108,101],[112,114,105,110,116],[114,101,116,117,114,110],[102,110],[105,110,112,117,116],[105,110,116],[115,116,114],[100,121,110]]
noncomputable def R75:=f75.c.r.l
def r75(call)(α)(H):aP fg call aJ R75 α H=some (.normal,λi=>if i=3 then .vec .full (SA Fm) else if i=5 then .vec .full (SA Fm) else α i,H):=by rfl
noncomputable def zw:=f75.c.r.r.l.r.b.b
def aa4{l:List (List UInt8)}(t:l.length<=16384){w}:∀r i α H,l.drop i=r->i<=l.length->α 0=.str w->α 3=.vec .full (SA l)->α 4=.i i->
  aD (aJ (aO fg zw) α H) λe o H'=>(e=.exit 0/\¬w∈r)\/(e=.ret/\w∈r/\o 2=.bool true)
 |[],i,α,⟨n,L⟩,g,hi,h,d,f=>by
  have m:zw=.seq (.seq _ _) (.seq (.block _ (.seq _ _)) _):=rfl;have k:i=l.length:=by have:=Κ.1 g;omega
  subst k;have j:=d_ (aDF l.length);rw[aG,m];simp only[go_sem,seval,d,f,j,I2];exact .inl ⟨aK,ai⟩
 |x::r,i,α,⟨n,L⟩,g,hi,h,d,f=>by
  have m:zw=.seq (.seq _ _) (.seq (.block _ (.seq _ _)) _):=rfl;have q:l[i]? =some x:=by have:=Λ (·[0]?) g;simpa using this
  have k:i<l.length:=(ο.1 q).1;have s:l.drop (i+1)=r:=by rw[<-List.drop_drop,g];rfl
  have j:=dM k;have p:=R6 .full q;rw[aG,m]
  cases hq:(x==w) with
  |true=>
   have:x=w:=by simpa using hq
   subst this;simp only[go_sem,seval,h,d,f,j,p,hq,I2];exact .inr ⟨aK,as1,by simp[go_sem,]⟩
  |false=>
   simp only[go_sem,seval,h,d,f,j,p,hq,(ph (n:=i) aa),I2];refine aT ((λα=>aa4 (l:=l) t (w:=w) r (i+1) α ⟨n,L⟩ s aa) _ ?_ ?_ ?_) ?_
   case refine_4=>
    rintro e o H' (⟨a,b⟩|⟨a,b,c⟩)
    ·grind
    ·grind
   all_goals simp[go_sem,h,d]
def aoC(w):aI prog (run fg) 75 [.str w]=some (.bool (isKey w)):=by
 refine fk (c:=.seq _ (.seq R75 (.seq (.seq _ (.block 0 (.loop zw))) _))) rfl rfl func75 rfl (by rw[ntmps75];simp) (bW:=[.str w]) rfl rfl ?_ rfl;simp[go_sem,ab.empty,r75];simp[cg];refine bL (mG (aa4 (w:=w) (l:=Fm) aA Fm 0 _ _ rfl aa ?_ ?_ ?_)) ?_
 case refine_4=>
  rintro _ ⟨e,ae,H',rfl,⟨rfl,hm⟩|⟨rfl,hm,a⟩⟩
  ·have:isKey w=false:=by
    rw[<-XC]
    cases hc:(Fm.contains w) with
    |false=>exact hc
    |true=>exact(hm (Θ.1 hc)).elim
   rw[this];simp only[go_sem,seval,results75];exact⟨_,rfl,rfl⟩
  ·have:isKey w=true:=by
    rw[<-XC];exact Θ.2 hm
   rw[this];simp only[go_sem,seval,a,results75];exact⟨_,rfl,rfl⟩
 all_goals simp[go_sem,]
 all_goals(try rfl)
def Ac(b):bj b=(isLet b||jK b):=(rfl)
noncomputable def Lp:=f72.c.r.r.l.r.b.b
def PG{s:List UInt8}(m:s.length<=16384):∀r i α H,s.drop i=r->i<=s.length->α 0=.str s->α 22=.i s.length->α 23=.i i->
  aD (aJ (aO fg Lp) α H) λe p H'=>(e=.exit 0/\r.all bj=true)\/(e=.ret/\r.all bj=false/\p 2=.bool false)
 |[],i,α,⟨n,L⟩,f,hi,b,a,c=>by
  have j:Lp=.seq _ (.seq _ (.seq (.block _ (.seq _ (.seq _ _))) _)):=rfl;have h:i=s.length:=by have:=Κ.1 f;omega
  subst h;have d:=d_ (aDF s.length);rw[aG,j];simp only[go_sem,seval,a,c,d];first|exact .inl ⟨rfl,rfl⟩|simp
 |x::r,i,α,⟨n,L⟩,f,hi,b,a,c=>by
  have j:Lp=.seq _ (.seq _ (.seq (.block _ (.seq _ (.seq _ _))) _)):=rfl;have o:s[i]? =some x:=by have:=Λ (·[0]?) f;simpa using this
  have h:i<s.length:=(ο.1 o).1;have l:s.drop (i+1)=r:=by rw[<-List.drop_drop,f];rfl
  have d:=dM h;have k:=Lo o;have w1:=ph (n:=i) aa;have k1:=cN rfl (aa3 x);have k2:=cN rfl (atV x);rw[aG,j]
  cases hq:isLet x with
  |true=>
   have ih:=λα=>PG (s:=s) m r (i+1) α ⟨n,L⟩ l aa;have g:(x::r).all bj=r.all bj:=by simp[aDI,Ac,hq]
   rw[g];simp only[go_sem,seval,b,a,c,d,k,k1,hq,w1,ω];refine ih _ ?_ ?_ ?_;all_goals simp[go_sem,b,a]
  |false=>
   cases hd:jK x with
   |true=>
    have ih:=λα=>PG (s:=s) m r (i+1) α ⟨n,L⟩ l aa;have g:(x::r).all bj=r.all bj:=by simp[aDI,Ac,hq,hd]
    rw[g];simp only[go_sem,seval,b,a,c,d,k,k1,k2,hq,hd,w1,ω,Α];refine ih _ ?_ ?_ ?_;all_goals simp[go_sem,b,a]
   |false=>
    simp only[go_sem,seval,b,a,c,d,k,k1,k2,hq,hd,Α];refine .inr ⟨aK,?_,?_⟩
    ·simp[Ac,hq,hd]
    ·grind
def aoD:jS .eql [] []=some (.bool true):=(rfl)
def aj0(s):aI prog (run fg) 72 [.str s]=some (.bool (rq s)):=by
 refine fk (c:=.seq _ (.seq _ (.seq (.seq _ (.block 0 (.loop Lp))) _))) rfl rfl func72 rfl (by rw[ntmps72];simp) (bW:=[.str s]) rfl rfl ?_ rfl;by_cases f:s=[]
 ·subst f;simp only[go_sem,seval,ab.empty,aoD,results72];exact⟨_,rfl,rfl⟩
 ·obtain⟨b,r,j⟩:=aEV f;have d:(s==[])=false:=by simpa using f
  have g:ni prog 9 (.str s) (.i 0)=some (.int .u8 b.toNat):=Lo (i:=0) (by rw[j];rfl);have k1:=cN rfl (aa3 b);have k2:=cN rfl (ajZ s);have a:rq s=(decide (s.length<=40)&&isLet b&& !isKey s&&s.all bj):=by rw[j];exact UX b r
  by_cases h:s.length<=40
  ·have c2:=bP ((s.length:Int)>40);rw[π h] at a
   cases hq:isLet b with
   |false=>rw[hq] at a;rw[a];simp only[go_sem,seval,ab.empty,d,c2,g,k1,hq,Α,results72];exact⟨_,rfl,rfl⟩
   |true=>
    cases hk:isKey s with
    |true=>rw[hq,hk] at a;rw[a];simp only[go_sem,seval,ab.empty,d,c2,g,k1,k2,hq,hk,ω,results72];exact⟨_,rfl,rfl⟩
    |false=>
     rw[hq,hk] at a;simp at a;rw[a];simp[go_sem,ab.empty,d,c2,g,k1,k2,hq,hk,ω];simp[cg];refine bL (mG (PG (s:=s) aa s 0 _ _ rfl aa ?_ ?_ ?_)) ?_
     case refine_4=>
      rintro _ ⟨e,ae,H',rfl,⟨rfl,hm⟩|⟨rfl,hm,k⟩⟩
      ·rw[hm];simp only[go_sem,seval,results72];exact⟨_,rfl,rfl⟩
      ·rw[hm];simp only[go_sem,seval,k,results72];exact⟨_,rfl,rfl⟩
     all_goals simp[go_sem,]
     all_goals(try rfl)
  ·have c2:=bJ ((s.length:Int)>40);rw[ξ h] at a;rw[a];simp only[go_sem,seval,ab.empty,d,c2,results72];exact⟨_,rfl,rfl⟩
noncomputable def Lq:=f42.c.r.r.l.r.b.b
def PH{s:List UInt8}(l:s.length<=16384):∀r i α H,s.drop i=r->i<=s.length->α 0=.str s->α 3=.i i->
  aD (aJ (aO fg Lq) α H) λe o H'=>(e=.exit 0/\r.all bj=true)\/(e=.ret/\r.all bj=false/\o 2=.bool false)
 |[],i,α,⟨n,L⟩,d,hi,a,b=>by
  have h:Lq=.seq (.seq _ _) (.seq (.block _ (.seq _ _)) _):=rfl;have g:i=s.length:=by have:=Κ.1 d;omega
  subst g;have c:=d_ (aDF s.length);rw[aG,h];simp only[go_sem,seval,a,b,c];first|exact .inl ⟨rfl,rfl⟩|simp
 |x::r,i,α,⟨n,L⟩,d,hi,a,b=>by
  have h:Lq=.seq (.seq _ _) (.seq (.block _ (.seq _ _)) _):=rfl;have m:s[i]? =some x:=by have:=Λ (·[0]?) d;simpa using this
  have g:i<s.length:=(ο.1 m).1;have k:s.drop (i+1)=r:=by rw[<-List.drop_drop,d];rfl
  have c:=dM g;have j:=Lo m;have w1:=ph (n:=i) aa;have k1:=cN rfl (atW x);have k2:=cN rfl (acp x);rw[aG,h]
  cases hq:isLet x with
  |true=>
   have ih:=λα=>PH (s:=s) l r (i+1) α ⟨n,L⟩ k aa;have f:(x::r).all bj=r.all bj:=by simp[aDI,Ac,hq]
   rw[f];simp only[go_sem,seval,a,b,c,j,k1,hq,w1,ω];refine ih _ ?_ ?_;all_goals simp[go_sem,a]
  |false=>
   cases hd:jK x with
   |true=>
    have ih:=λα=>PH (s:=s) l r (i+1) α ⟨n,L⟩ k aa;have f:(x::r).all bj=r.all bj:=by simp[aDI,Ac,hq,hd]
    rw[f];simp only[go_sem,seval,a,b,c,j,k1,k2,hq,hd,w1,ω,Α];refine ih _ ?_ ?_;all_goals simp[go_sem,a]
   |false=>
    simp only[go_sem,seval,a,b,c,j,k1,k2,hq,hd,Α];refine .inr ⟨aK,?_,?_⟩
    ·simp[Ac,hq,hd]
    ·grind
def aj1(s):aI prog (run fg) 42 [.str s]=some (.bool (rq s)):=by
 refine fk (c:=.seq _ (.seq _ (.seq (.seq _ (.block 0 (.loop Lq))) _))) rfl rfl func42 rfl (by rw[ntmps42];simp) (bW:=[.str s]) rfl rfl ?_ rfl;by_cases f:s=[]
 ·subst f;have d:(((0:Nat):Int)==0)=true:=rfl;simp only[go_sem,seval,ab.empty,results42];exact⟨_,rfl,rfl⟩
 ·obtain⟨b,r,g⟩:=aEV f;have hlen:0<s.length:=aDV.2 f;have d:((s.length:Int)==0)=false:=by rw[aDL];omega
  have k:ni prog 9 (.str s) (.i 0)=some (.int .u8 b.toNat):=Lo (i:=0) (by rw[g];rfl);have k1:=cN rfl (aoC s);have k2:=cN rfl (acp b);have a:rq s=(decide (s.length<=40)&&isLet b&& !isKey s&&s.all bj):=by rw[g];exact UX b r
  by_cases j:s.length<=40
  ·have c2:=bP ((s.length:Int)>40);rw[π j] at a
   cases hk:isKey s with
   |true=>rw[hk] at a;simp at a;rw[a];simp only[go_sem,seval,ab.empty,d,c2,k1,hk,results42];exact⟨_,rfl,rfl⟩
   |false=>
    cases hd:jK b with
    |true=>
     have l:isLet b=false:=by exact N5 hd
     rw[l] at a;rw[a];simp only[go_sem,seval,ab.empty,d,c2,k,k1,k2,hk,hd,Α,results42];exact⟨_,rfl,rfl⟩
    |false=>
     have a:rq s=s.all bj:=by
      rw[a,hk,g]
      cases h:isLet b with
      |true=>rfl
      |false=>simp[aDI,Ac,h,hd]
     rw[a];simp[go_sem,ab.empty,d,c2,k,k1,k2,hk,hd];simp[cg];refine bL (mG (PH (s:=s) aa s 0 _ _ rfl aa ?_ ?_)) ?_
     case refine_3=>
      rintro _ ⟨e,ae,H',rfl,⟨rfl,hm⟩|⟨rfl,hm,m⟩⟩
      ·rw[hm];simp only[go_sem,seval,results42];exact⟨_,rfl,rfl⟩
      ·rw[hm];simp only[go_sem,seval,m,results42];exact⟨_,rfl,rfl⟩
     all_goals simp[go_sem,]
     all_goals(try rfl)
  ·have c2:=bJ ((s.length:Int)>40);rw[ξ j] at a;rw[a];simp only[go_sem,seval,ab.empty,d,c2,results42];exact⟨_,rfl,rfl⟩
def qc(a b:List UInt8):Int:=if Op.bytesLess a b=true then-1 else if a=b then 0 else 1
def acq(a):aI prog (run fg) 64 [.str a]=some (.bool false):=by refine tc (c:=.seq _ (.seq _ _)) rfl rfl func64 rfl (by rw[ntmps64];simp) (bW:=[.str a]) rfl rfl ?_ rfl rfl;have h:(a==a)=true:=ai;simp[go_sem,ab.empty,h,ω,results64]
def acr(a b):aI prog (run fg) 33 [.str a,.str b]=some (.i (qc a b)):=by
 have k1:=cN rfl (acq a);have k2:=cN rfl (acq b);refine fk (c:=.seq _ (.seq _ (.seq _ (.seq _ (.seq _ _))))) rfl rfl func33 rfl (by rw[ntmps33];simp) (bW:=[.str a,.str b]) rfl rfl ?_ rfl
 cases hl:Op.bytesLess a b with
 |true=>simp only[go_sem,seval,ab.empty,k1,k2,hl,results33];refine⟨_,rfl,?_⟩;simp[qc,hl,AV.erase,AV.bare]
 |false=>
  by_cases d:a=b
  ·subst d;have h:(a==a)=true:=ai;simp only[go_sem,seval,ab.empty,k1,hl,h,aE6,ω,results33];refine⟨_,rfl,?_⟩;simp[qc,hl,AV.erase,AV.bare]
  ·have h:(a==b)=false:=by simpa using d
   simp only[go_sem,seval,ab.empty,k1,k2,hl,h,aE6,Α,results33];refine⟨_,rfl,?_⟩;simp[qc,hl,d,AV.erase,AV.bare]
structure Un where
 nm:List UInt8
 tx:List UInt8
 tk:List Tok
 tr:Nd
 mp:Mp
 b1:List (Nat×Nat)
 b2:List (Nat×Nat)
 er:Nat
 at_:Nat
def Aq(n:Nd):aC n=[.i n.k,.i n.f,.i n.t,.str n.w,.i n.a,.vec (if n.ks.isEmpty then .nil else .ro) (bA n.ks)]:=by cases n;rfl
def oW(u:Un)(bad:List (Nat×Nat)):List AV:=[.str u.nm,.str u.tx,.vec (au u.tk.length) (V u.tk),.i u.tr.k,.i u.tr.f,.i u.tr.t,.str u.tr.w,.i u.tr.a,.vec (if u.tr.ks.isEmpty then .nil else .ro) (bA u.tr.ks),.vec (au u.mp.bs.length) (u.mp.bs.map a_),.vec (au u.mp.ms.length) (u.mp.ms.map cv),.vec (au bad.length) (cw bad),.i u.er,.i u.at_]
def xj(u:Un):AV:=.agg (oW u u.b1)
def Tt(u:Un):AV:=.agg (oW u u.b2)
def kl(nm tx:List UInt8)(b1 b2:List (Nat×Nat)):Un:=match iW tx with
 | .error (e,a)=>⟨nm,tx,[],eG,⟨[],[],[]⟩,[],[],e,a⟩
 | .ok (l,t)=>⟨nm,tx,l,t,iK t,b1,b2,0,0⟩
def XD:∀l:List Nd,AV.aq.go (bA l)=true
 |[]=>rfl
 |x::l=>by show((aB x).aq&&AV.aq.go (bA l))=true;rw[jI x,XD l];rfl
def iE{n}{l}(h:AV.aq.go l=true):(AV.vec (au n) l).aq=true:=by unfold au;split<;>simp[AV.aq,h]
def rA(u)(bad):(AV.agg (oW u bad)).aq=true:=by
 have a:(AV.vec (if u.tr.ks.isEmpty then .nil else .ro) (bA u.tr.ks)).aq=true:=by cases u.tr.ks.isEmpty<;>simp[AV.aq,XD]
 show AV.aq.go (oW u bad)=true;simp only[oW,AV.aq.go,iE (n:=u.tk.length) (wW u.tk),iE (n:=u.mp.bs.length) (go_bi u.mp.bs),iE (n:=u.mp.ms.length) (go_me u.mp.ms),iE (n:=bad.length) (go_ba bad),a,Bool.and_true];rfl
def kF(n):(au n).bare=au n:=by unfold au;split<;>rfl
def XE(b):(if b=true then Ab.Own.nil else Ab.Own.ro).bare=if b=true then Ab.Own.nil else Ab.Own.ro:=by cases b<;>rfl
def qB(u)(bad):(AV.agg (oW u bad)).erase=AV.agg (oW u bad):=by simp only[oW,AV.erase,aDm,aEr,AV.bare,kF,XE]
def EI(m)(bad):(mapA m bad).erase=mapA m bad:=by simp[mapA,AV.erase,AV.bare,kF]
def XF(x:Except (Nat×Nat) (List Tok×Nd)):(rG x).erase=rG x:=by
 cases x with
 |error p=>obtain⟨e,a⟩:=p;exact HW .nil [] eG _ _
 |ok p=>obtain⟨l,t⟩:=p;exact HW .ro (V l) t _ _
noncomputable def jC:Env:={P:=prog,G:=λf=>[39,41].contains f,cl:=λf=>[39,41,67,68,73,74].contains f,eX:=λ_=>false,dyn:=λ_=>false,df:=λ_=>false,ext:=bQ (bf ak [67,73]) (bQ (bf bu [68]) (bf cC [74]))}
def okA:[39,41].all (okF jC)=true:=af
def axn:jC.P=prog:=(rfl)
attribute [go_sem] axn
def ep{E}{fs:List FuncId}{f}(h:fs.contains f=false)(args)(H):bf E fs f args H=none:=by unfold bf;rw[κ (by rw[h];simp)]
def rH{a b}{f}(h:∀args H,b f args H=none)(args)(H):bQ a b f args H=a f args H:=by
 unfold bQ;split
 ·grind
 ·grind
def gT{a b}{f}(h:∀args H,a f args H=none)(args)(H):bQ a b f args H=b f args H:=by unfold bQ;rw[h]
def Zy(s)(H):bt jC 67 [.str s] H=some (rG (iW s),H):=
 ji (fs:=[67,73]) rfl rfl (rH (gT (ep rfl) · · |>.trans (ep rfl _ _))) rfl (aAJ s) (XF _) (Hu _) H
def Zz(s)(H):bt jC 73 [.str s] H=some (rG (iW s),H):=
 ji (fs:=[67,73]) rfl rfl (rH (gT (ep rfl) · · |>.trans (ep rfl _ _))) rfl (aAK s) (XF _) (Hu _) H
def axo(x y z w):iz 0 (.tup [x,y,z,w])=some x:=(rfl)
def axp(x y z w):iz 1 (.tup [x,y,z,w])=some y:=(rfl)
def axq(x y z w):iz 2 (.tup [x,y,z,w])=some z:=(rfl)
def axr(x y z w):iz 3 (.tup [x,y,z,w])=some w:=(rfl)
attribute [go_sem] axo axp axq axr
def atX(args)(H):jC.ext 68 args H=bf bu [68] 68 args H:=
 (gT (a:=bf ak [67,73]) (b:=bQ (bf bu [68]) (bf cC [74])) (f:=68) (ep rfl) args H).trans (rH (a:=bf bu [68]) (b:=bf cC [74]) (f:=68) (ep rfl) args H)
def atY(args)(H):jC.ext 74 args H=bf cC [74] 74 args H:=
 (gT (a:=bf ak [67,73]) (b:=bQ (bf bu [68]) (bf cC [74])) (f:=74) (ep rfl) args H).trans (gT (a:=bf bu [68]) (b:=bf cC [74]) (f:=74) (ep rfl) args H)
section
variable {l:List Tok} {t:Nd}
def pD.kids(h:pD l t):t.ks.length<=900000000000000000/\∀x∈t.ks,dz x<=300000/\mx x<=900000000000000000:=by
 have c:=h.dp;have d:=h.mw
 cases t with
 |mk k f t w a ks=>rw[tI] at c;rw[eN] at d;simp[Nd.ks];refine⟨aa,λx b=> ?_⟩;have:=ts b;have:=sq b;omega
def aoE(h:pD l t):∃bad,bad.length=(iK t).bad.length/\∀H,bt jC 68 [aB t] H=some (mapA (iK t) bad,H):=by obtain⟨c,a⟩:=h.kids;have h3:=h.iJ;obtain⟨v,d,bad,hb,rfl⟩:=aAX c (λx b=>⟨by have:=(a x b).1;omega,(a x b).2⟩) ⟨aa,aa⟩;refine⟨bad,hb,λH=>ji (fs:=[68]) rfl rfl atX rfl d (EI _ _) (yh _ _) H⟩
def aoF(h:pD l t):∃bad,bad.length=(iK t).bad.length/\∀H,bt jC 74 [aB t] H=some (mapA (iK t) bad,H):=by obtain⟨a,c⟩:=h.kids;have h3:=h.iJ;obtain⟨v,b,bad,hb,rfl⟩:=aBa a c ⟨aa,aa⟩;refine⟨bad,hb,λH=>ji (fs:=[74]) rfl rfl atY rfl b (EI _ _) (yh _ _) H⟩
end
def Vx{s}{e a}(h:iW s=.error (e,a)):e≠0:=by
 unfold iW at h
 cases hx:lex s with
 |error p=>rw[hx] at h;simp at h;subst h;exact Ny hx
 |ok d=>
  rw[hx] at h;simp only at h
  cases hp:jj d with
  |error p=>obtain⟨c,b⟩:=p;obtain⟨h1,_⟩:=MF (En hx) hp;rw[hp] at h;simp at h;omega
  |ok t'=>rw[hp] at h;cases h
def HB{n}(h:0<n):au n=.ro:=by unfold au;rw[bV]
def pq(nm tx:List UInt8):AV:=.agg [.str nm,.str tx]
def Lr(a b c k f t w d e g m x y z)(n:Nd):eD [a,b,c,k,f,t,w,d,e,g,m,x,y,z] 3 (aC n)=[a,b,c,.i n.k,.i n.f,.i n.t,.str n.w,.i n.a,.vec (if n.ks.isEmpty then .nil else .ro) (bA n.ks),g,m,x,y,z]:=by rw[Aq];rfl
def J1(n):(aC n).length=6:=by rw[Aq];rfl
def atZ(nm tx):∃b1,∀b2,aI prog (run jC) 39 [pq nm tx]=some (xj (kl nm tx b1 b2)):=by
 have mk:∀{v:AV},v.aq=true->aD (aO jC (match f39.body with|some c=>c|none=>.skip) (jy [pq nm tx]) .empty) (λe j H'=>∃u,pQ (finish jC.P f39.results.toList (e,j,H'))=some u/\u.erase=v)->aI prog (run jC) 39 [pq nm tx]=some v:=λi k=>
  fk rfl rfl func39 rfl (by rw[ntmps39];simp) (bW:=[pq nm tx]) rfl rfl k i
 have g:(match f39.body with|some c=>c|none=>Code.skip)=.seq _ (.seq _ (.seq _ (.seq (.seq _ (.cond _ _ _)) (.seq _ _)))):=rfl
 cases hx:iW tx with
 |error p=>
  obtain⟨e,a⟩:=p;have d:((e:Int)==0)=false:=by have:=Vx hx;rw[aDL];omega
  refine⟨[],λb2=>mk (rA _ _) ?_⟩;have b:kl nm tx [] b2=⟨nm,tx,[],eG,⟨[],[],[]⟩,[],[],e,a⟩:=by simp[kl,hx]
  rw[b,g];simp only[go_sem,seval,ab.empty,pq,Zy,hx,rG,d,aZ,Lr,J1,results39];exact⟨_,rfl,qB ⟨nm,tx,[],eG,⟨[],[],[]⟩,[],[],e,a⟩ []⟩
 |ok p=>
  obtain⟨l,t⟩:=p;have f:=Hv hx;obtain⟨bad,hb,h⟩:=aoE f;have d:((0:Int)==0)=true:=rfl;simp only[yc,Aq,mapA] at h;refine⟨bad,λb2=>mk (rA _ _) ?_⟩;have b:kl nm tx bad b2=⟨nm,tx,l,t,iK t,bad,b2,0,0⟩:=by simp only[kl,hx]
  rw[b,g];simp only[go_sem,seval,ab.empty,pq,Zy,hx,rG,d,h,aZ,Lr,J1,results39];refine⟨_,rfl,?_⟩;refine(Λ AV.erase (?_:_=AV.agg (oW ⟨nm,tx,l,t,iK t,bad,b2,0,0⟩ bad))).trans (qB _ _);simp[oW,HB f.pos];rfl
def at1(nm tx):∃b2,∀b1,aI prog (run jC) 41 [pq nm tx]=some (Tt (kl nm tx b1 b2)):=by
 have mk:∀{v:AV},v.aq=true->aD (aO jC (match f41.body with|some c=>c|none=>.skip) (jy [pq nm tx]) .empty) (λe j H'=>∃u,pQ (finish jC.P f41.results.toList (e,j,H'))=some u/\u.erase=v)->aI prog (run jC) 41 [pq nm tx]=some v:=λi k=>
  fk rfl rfl func41 rfl (by rw[ntmps41];simp) (bW:=[pq nm tx]) rfl rfl k i
 have g:(match f41.body with|some c=>c|none=>Code.skip)=.seq _ (.seq _ (.seq _ (.seq (.seq _ (.cond _ _ _)) (.seq _ _)))):=rfl
 cases hx:iW tx with
 |error p=>
  obtain⟨e,a⟩:=p;have d:((e:Int)==0)=false:=by have:=Vx hx;rw[aDL];omega
  refine⟨[],λb1=>mk (rA _ _) ?_⟩;have b:kl nm tx b1 []=⟨nm,tx,[],eG,⟨[],[],[]⟩,[],[],e,a⟩:=by simp[kl,hx]
  rw[b,g];simp only[go_sem,seval,ab.empty,pq,Zz,hx,rG,d,aZ,Lr,J1,results41];exact⟨_,rfl,qB ⟨nm,tx,[],eG,⟨[],[],[]⟩,[],[],e,a⟩ []⟩
 |ok p=>
  obtain⟨l,t⟩:=p;have f:=Hv hx;obtain⟨bad,hb,h⟩:=aoF f;have d:((0:Int)==0)=true:=rfl;simp only[yc,Aq,mapA] at h;refine⟨bad,λb1=>mk (rA _ _) ?_⟩;have b:kl nm tx b1 bad=⟨nm,tx,l,t,iK t,b1,bad,0,0⟩:=by simp only[kl,hx]
  rw[b,g];simp only[go_sem,seval,ab.empty,pq,Zz,hx,rG,d,h,aZ,Lr,J1,results41];refine⟨_,rfl,?_⟩;refine(Λ AV.erase (?_:_=AV.agg (oW ⟨nm,tx,l,t,iK t,b1,bad,0,0⟩ bad))).trans (qB _ _);simp[oW,HB f.pos];rfl
def Eg(nm tx):∃b1 b2,aI prog (run jC) 39 [pq nm tx]=some (xj (kl nm tx b1 b2))/\aI prog (run jC) 41 [pq nm tx]=some (Tt (kl nm tx b1 b2)):=by obtain⟨b1,a⟩:=atZ nm tx;obtain⟨b2,b⟩:=at1 nm tx;exact⟨b1,b2,a b2,b b1⟩
noncomputable def eo(p:List UInt8×List UInt8):Un:=kl p.1 p.2 (Classical.choose (Eg p.1 p.2)) (Classical.choose (aEv (Eg p.1 p.2)))
def acs(p:List UInt8×List UInt8):aI prog (run jC) 39 [pq p.1 p.2]=some (xj (eo p))/\aI prog (run jC) 41 [pq p.1 p.2]=some (Tt (eo p)):=aEv (aEv (Eg p.1 p.2))
end Go.Proofs.YtmehamiifalmaaaGreatDoor
namespace Go.Ab
open Go
section
variable {T:Type} {c:T->List AV} {s:Nat}
def Ar(a:∀x,(c x).length=s):∀l:List T,(l.flatMap c).length=s*l.length
 |[]=>by simp
 |x::l=>by rw[ap1,χ,a,Ar a l,Ι,aFv];omega
def OG(a:∀x,(c x).length=s):∀(l:List T) (i:Nat),(l.flatMap c).drop (s*i)=(l.drop i).flatMap c
 |l,0=>by simp
 |[],i+1=>by simp
 |x::l,i+1=>by rw[ap1,show s*(i+1)=(c x).length+s*i by rw[a,aFv];omega,<-List.drop_drop,List.drop_left,OG a l i];rfl
def ZA(a:∀x,(c x).length=s):∀(l:List T) (i:Nat),(l.flatMap c).take (s*i)=(l.take i).flatMap c
 |l,0=>by simp
 |[],i+1=>by simp
 |x::l,i+1=>by rw[ap1,show s*(i+1)=(c x).length+s*i by rw[a,aFv];omega,List.take_length_add_append,ZA a l i];rfl
def acu(a:∀x,(c x).length=s){l:List T}{i}{x:T}(h:l[i]? =some x):((l.flatMap c).drop (s*i)).take s=c x:=by obtain⟨hi,b⟩:=ο.1 h;rw[OG a,Ο hi,b,ap1,<-a x,List.take_left]
def Jr(a:∀x,(c x).length=s){P}{t}(b:∀(cs:List AV) (off),iM P t cs off=if off+s<=cs.length then some (.agg ((cs.drop off).take s)) else none){l:List T}{i}{x:T}(h:l[i]? =some x):iM P t (l.flatMap c) (s*i)=some (.agg (c x)):=by obtain⟨hi,_⟩:=ο.1 h;rw[b,acu a h,Ar a,ν];have:=Nat.mul_le_mul_left s hi;rw[Nat.mul_succ] at this;exact this
def acv(a:∀x,(c x).length=s){l:List T}{i}(h:i<l.length)(y:T):eD (l.flatMap c) (s*i) (c y)=(l.set i y).flatMap c:=by unfold eD;rw[show s*i+(c y).length=s*(i+1) by rw[a,Nat.mul_succ],ZA a,OG a];rw[aFb,ν h,aFx,ap1,adv]
def Js(a:∀x,(c x).length=s):∀l:List T,nT true s l.length (l.flatMap c)=l.map λx=>.agg (c x)
 |[]=>rfl
 |x::l=>by rw[ap1,Ι,aDm,<-Js a l];simp only[nT,aDp];rw[<-a x,List.take_left,List.drop_left]
def XG:∀l:List T,(l.map λx=>AV.agg (c x)).flatMap AV.cells=l.flatMap c
 |[]=>rfl
 |x::l=>by rw[aDm,ap1,ap1,XG l];rfl
end
def Fo{P}{t et}{s}(el:eW P t=some et)(sz:bF P et=some s)(a:s≠0){id n i}(h:i<n):dC P t (.sl id s 0 n) (.i i)=some (.ptr id (s*i)):=by simp only[dC,el,sz];rw[ν ⟨aa,aa⟩,ν ⟨trivial,a⟩,aFF,aDz,aFy]
end Go.Ab
namespace Go.Proofs.YtmehamiifalmaaaGreatDoor
open Go Go.Ab Go.Proofs.Tryz
set_option maxRecDepth 100000
set_option maxHeartbeats 8000000
def cU(u:Un):List AV:=oW u u.b1
def pa(u):(cU u).length=14:=rfl
def kn(H:ab)(id:Nat)(us:List Un):Prop:=H.get id=some (.row us.length 78 14 (us.flatMap cU))
def QO:List FuncId:=[40,69,70,71,106,151]
def aoG:List FuncId:=[40,72,33]
noncomputable def gy:Env:={P:=prog,G:=λf=>QO.contains f,cl:=λf=>aoG.contains f,eX:=λt=>t==118,dyn:=λ_=>false,df:=λ_=>false,ext:=bf fg [72,33]}
def aoH:QO.all (okF gy)=true:=af
def axs:gy.P=prog:=(rfl)
def axt:gy.eX=λt=>t==118:=(rfl)
def axu(i):gy.dyn i=false:=(rfl)
def aoI(a b)(H):bt gy 33 [.str a,.str b] H=some (.i (qc a b),H):=ji (fs:=[72,33]) rfl rfl (λ_ _=>rfl) rfl (acr a b) rfl rfl H
def aoJ(s)(H):bt gy 72 [.str s] H=some (.bool (rq s),H):=ji (fs:=[72,33]) rfl rfl (λ_ _=>rfl) rfl (aj0 s) rfl rfl H
def aoK:=ju gy 69 rfl rfl
def aoL:=ju gy 70 rfl rfl
def aoM:=ju gy 71 rfl rfl
def aj2:=ju gy 106 rfl rfl
def aj3:=ju gy 151 rfl rfl
attribute [go_sem] axs axt axu aoI aoJ aoK aoL aoM aj2 aj3
def vz(u:Un):(cU u)[0]? =some (.str u.nm):=rfl
def axv(u v:Un)(n)(L):run gy 71 [.agg (cU u),.agg (cU v)] ⟨n,L⟩=some (.i (qc u.nm v.nm),⟨n+1+1,(n+1,.z (cU v))::(n,.z (cU u))::L⟩):=by
 suffices hh:∃r,run gy 71 [.agg (cU u),.agg (cU v)] ⟨n,L⟩=some r/\r=(.i (qc u.nm v.nm),(⟨n+1+1,(n+1,.z (cU v))::(n,.z (cU u))::L⟩:ab)) by obtain⟨r,c,rfl⟩:=hh;exact c
 refine g_ rfl rfl func71 rfl (by rw[ntmps71];simp) ?_;have a:=aY (n<n+1+1);have d:=aY (n+1<n+1+1);have e:=dw (n+1=n);have b:∀(u:Un) (H:ab),fY (.agg (cU u)) H=some (.ptr H.next 0,H.push (.z (cU u))):=λu H=>by simp[fY,AV.width,AV.cells]
 simp only[go_sem,seval,b,a,d,e,vz,results71];exact⟨_,rfl,rfl⟩
attribute [go_sem] axv
def XH(a b):decide (qc a b<0)=Op.bytesLess a b:=by
 unfold qc
 cases h:Op.bytesLess a b with
 |true=>simp
 |false=>
  by_cases c:a=b
  ·simp[c]
  ·simp[c]
def pr(x:Un):List Un->List Un
 |[]=>[x]
 |y::r=>if Op.bytesLess x.nm y.nm=true then y::pr x r else x::y::r
def qd(x:Un)(l:List Un):List Un:=(pr x l.reverse).reverse
def gu:List Un->List Un->List Un
 |acc,[]=>acc
 |acc,x::r=>gu (qd x acc) r
def XI(x):∀l:List Un,(pr x l).length=l.length+1
 |[]=>rfl
 |y::r=>by
  unfold pr;split
  ·simp[XI x r]
  ·simp
def HC(x)(l:List Un):(qd x l).length=l.length+1:=by simp[qd,XI]
def Hf:∀(r acc:List Un),(gu acc r).length=acc.length+r.length
 |[],acc=>rfl
 |x::r,acc=>by rw[gu,Hf r,HC,Ι];omega
abbrev xz:AV:=.fn (.func 71) [] []
noncomputable def FK:=f151.c.r.b.b
noncomputable def FL:=FK.r.l.b.r.b.b
def at2{T:Type}(a:List T)(y x:T)(b):(a++y::x::b)[a.length+1]? =some x/\(a++y::x::b)[a.length]? =some y:=by
 constructor
 ·rw[Ρ aa,show a.length+1-a.length=1 by omega];rfl
 ·rw[Ρ aa,aEZ];rfl
def aoN{T:Type}(a:List T)(y x:T)(b):((a++y::x::b).set (a.length+1) y).set a.length x=a++x::y::b:=by rw[List.set_append_right _ _ aa,show a.length+1-a.length=1 by omega,List.set_append_right _ _ aa,aEZ];rfl
def XJ{id k i}{x}(B:k<=1000000):∀(f post:List Un) (H:ab) (α:az),f.length+1+post.length=k->kn H id (f.reverse++x::post)->
  α 0=.sl id 14 0 k->α 1=.i 0->α 2=.i k->α 3=xz->α 8=.i i->α 9=.i f.length->
  aD (aJ (aO gy FL) α H) λe b H'=>e=.exit 2/\kn H' id ((pr x f).reverse++post)/\Kr id H H'/\b 0=.sl id 14 0 k/\b 1=.i 0/\b 2=.i k/\b 3=xz/\b 8=.i i
 |[],post,H,α,o,h,a0,a1,a2,a3,a8,d=>by have m:FL=.seq _ _:=rfl;have p:decide (((0:Nat):Int)>0)=false:=rfl;simp at d;rw[aG,m];simp only[go_sem,seval,a0,a1,d];refine⟨aK,h,Kr.refl _ _,?_⟩;simp[go_sem,a2,a3,a8]
 |y::r,post,H,α,o,h,a0,a1,a2,a3,a8,d=>by
  have m:FL=.seq _ _:=rfl;obtain⟨n,L⟩:=H;have E:(y::r).reverse++x::post=r.reverse++y::x::post:=ai;rw[E] at h;have a:(r.reverse++y::x::post).length=k:=by simp at o⊢;omega
  unfold kn at h;rw[a] at h;obtain⟨z,g⟩:=aj.1 h;have c:=wc g;have v:=υ z;have D:=aY (id<n+1+1);have s:=dw (n=id);have n1:=dw (n+1=id);simp only[Ι] at o d;have p:=bJ (((r.length+1:Nat):Int)>0);have w1:IntKind.i64.wrap (((r.length+1:Nat):Int)-1)=((r.length:Nat):Int):=w8 (r.length+1) aa aa;have F:r.reverse.length=r.length:=aE4;obtain⟨p1,p2⟩:=at2 r.reverse y x post;have q:=aoN r.reverse y x post;rw[F] at p1 p2 q;have A:=Fo (P:=prog) tE uX aA (id:=id) (show r.length+1<k by omega);have t:=Fo (P:=prog) tE uX aA (id:=id) (show r.length<k by omega);have l1:=Jr pa IX p1;have w:=Jr pa IX p2;have o2:=acv pa (l:=(r.reverse++y::x::post).set (r.length+1) y) (i:=r.length) (by rw[aDE];omega) x;rw[q] at o2;have C:(14*(r.length+1)+14<=((r.reverse++y::x::post).flatMap cU).length)=True:=υ (by rw[Ar pa];omega);have G:(14*r.length+14<=(((r.reverse++y::x::post).set (r.length+1) y).flatMap cU).length)=True:=υ (by rw[Ar pa,aDE];omega);have ao:∀u:Un,eE (cU u)=true:=λu=>rfl;have gs:cq (aH L id (.row k 78 14 (((r.reverse++y::x::post).set (r.length+1) y).flatMap cU))) id=some (.row k 78 14 (((r.reverse++y::x::post).set (r.length+1) y).flatMap cU)):=by rw[bg,ν rfl,g];rfl
  have kp:Kr id ⟨n,L⟩ ⟨n+1+1,(n+1,.z (cU y))::(n,.z (cU x))::L⟩:=(Kr.push ⟨n,L⟩ (.z (cU x))).trans (Kr.push ⟨n+1,(n,.z (cU x))::L⟩ (.z (cU y)));have hi:pr x (y::r)=if Op.bytesLess x.nm y.nm=true then y::pr x r else x::y::r:=rfl;have j:=XH x.nm y.nm
  cases hc:Op.bytesLess x.nm y.nm with
  |true=>
   rw[hc] at j hi;rw[ν rfl] at hi;rw[aG,m];simp only[go_sem,seval,a0,a1,a3,d,p,w1,A,t,l1,w,(acv pa (l:=r.reverse++y::x::post) (i:=r.length+1) aa y),o2,C,G,v,D,s,n1,c,g,D1 (ds:=((r.reverse++y::x::post).set (r.length+1) y).flatMap cU) g,gs,ao,pa,Ef,gh,j,br];refine aT (XJ (id:=id) (k:=k) (i:=i) (x:=x) B r (y::post) ⟨n+1+1,(n+1,.z (cU y))::(n,.z (cU x))::aH L id (.row k 78 14 ((r.reverse++x::y::post).flatMap cU))⟩ _ aX ?_ ?_ ?_ ?_ ?_ ?_ ?_) ?_
   case refine_8=>
    rintro e b H' ⟨rfl,J,I,K⟩;refine⟨rfl,?_,kp.trans (Kr.trans ?_ I),K⟩
    ·rw[hi,List.reverse_cons,adv];exact J
    have:=Kr.set (id:=id) ⟨n+1+1,(n+1,.z (cU y))::(n,.z (cU x))::L⟩ (.row k 78 14 ((r.reverse++x::y::post).flatMap cU));simpa only[ab.set,tj,s,n1,aDf] using this
   ·unfold kn;have:(r.reverse++x::y::post).length=k:=by simp at a⊢;omega
    rw[this];exact aj.2 ⟨aa,by rw[br,κ (show ¬n+1=id by omega),br,κ (show ¬n=id by omega),bg,ν rfl,g];rfl⟩
   all_goals simp[go_sem,a0,a1,a2,a3,a8]
  |false=>
   rw[hc] at j hi;rw[κ ai] at hi;rw[aG,m];simp only[go_sem,seval,a0,a1,a2,a3,a8,d,p,w1,A,t,l1,w,v,c,j];refine⟨aK,?_,kp,?_⟩
   ·rw[hi];have:(x::y::r).reverse++post=r.reverse++y::x::post:=ai;rw[this];unfold kn;rw[a];exact aj.2 ⟨aa,by rw[br,κ (show ¬n+1=id by omega),br,κ (show ¬n=id by omega)];exact g⟩
   simp[go_sem]
def ZB{id k}(g:k<=1000000):∀(r acc:List Un) (H:ab) (α:az),acc.length+r.length=k->kn H id (acc++r)->
  α 0=.sl id 14 0 k->α 1=.i 0->α 2=.i k->α 3=xz->α 8=.i acc.length->
  aD (aJ (aO gy FK) α H) λe s H'=>e=.exit 0/\kn H' id (gu acc r)/\Kr id H H'
 |[],acc,H,α,f,h,a0,a1,a2,a3,a8=>by have d:FK=.seq _ (.seq (.block 1 (.seq _ (.block 2 (.loop FL)))) _):=rfl;simp at f;have c:=d_ (a:=acc.length) (b:=k) aa;rw[aDi] at h;rw[aG,d];simp only[go_sem,seval,a2,a8,c];exact⟨aK,h,Kr.refl _ _⟩
 |x::r,acc,H,α,f,h,a0,a1,a2,a3,a8=>by
  have d:FK=.seq _ (.seq (.block 1 (.seq _ (.block 2 (.loop FL)))) _):=rfl;simp at f;have c:=dM (a:=acc.length) (b:=k) aa;have n:kn H id (acc.reverse.reverse++x::r):=by rw[List.reverse_reverse];exact h
  rw[aG,d];simp only[go_sem,seval,a2,a8,c];simp[cg];refine bL (dE (XJ (id:=id) (k:=k) (i:=acc.length) (x:=x) g acc.reverse r H _ aX n ?_ ?_ ?_ ?_ ?_ ?_)) ?_
  case refine_7=>
   rintro _ ⟨s,o,rfl,m,l,p,b1,b2,u,b8⟩;simp[go_sem,b8,(fD acc.length aa)];have q:((qd x acc).length:Int)=((acc.length+1:Nat):Int):=by rw[HC]
   refine aT (ZB (k:=k) g r (qd x acc) o _ (by rw[HC];omega) m ?_ ?_ ?_ ?_ ?_) ?_
   case refine_6=>
    rintro e nZ H2 ⟨rfl,j,t⟩;exact⟨rfl,j,l.trans t⟩
   all_goals simp[go_sem,p,b1,b2,u,q]
  all_goals simp[go_sem,a0,a1,a2,a3,a8,aE4]
def axw{id k}{H}{x}{r:List Un}(h:kn H id (x::r))(hk:r.length+1=k)(d:k<=1000000):∃H',run gy 151 [.sl id 14 0 k,.i 0,.i k,xz] H=some (.tup [],H')/\kn H' id (gu [x] r)/\Kr id H H':=by
 suffices hh:∃q,run gy 151 [.sl id 14 0 k,.i 0,.i k,xz] H=some q/\∃H',q=(.tup [],H')/\kn H' id (gu [x] r)/\Kr id H H' by obtain⟨q,e,H',rfl,b⟩:=hh;exact⟨H',e,b⟩
 refine g_ (c:=.seq _ (.block 0 (.loop FK))) rfl rfl func151 rfl (by rw[ntmps151];simp) ?_;simp only[go_sem,seval];refine bL (dE (ZB (k:=k) d r [x] H _ aX h ?_ ?_ ?_ ?_ ?_)) ?_
 case refine_6=>
  rintro _ ⟨ae,H',rfl,r,a⟩;simp only[go_sem,seval,results151];exact⟨_,rfl,_,rfl,r,a⟩
 all_goals simp[go_sem,]
 all_goals rfl
noncomputable def QP:=f106.c.r.r.l.b.b
noncomputable def QQ:=f106.c.r.r.r.r.b.b
def aj4{k:Nat}(hk:k<=8)(α:az)(H:ab)(d:α 1=.i k)(c:α 8=.i 20):aD (aJ (aO gy QP) α H) λe a H'=>e=.exit 0/\H'=H/\a 0=α 0/\a 1=α 1/\a 2=α 2/\a 6=α 6/\a 7=α 7:=by have f:QP=.seq (.seq _ _) _:=rfl;have b:=bP ((20:Int)<=(k:Int));rw[aG,f];simp[go_sem,d,c,b]
def aj5{k:Nat}(hk:k<=8)(α:az)(H:ab)(a:α 1=.i k)(c:α 6=.i 20):aD (aJ (aO gy QQ) α H) λe ae H'=>e=.exit 2/\H'=H:=by have b:QQ=.seq (.seq _ _) _:=rfl;have d:=bP ((20:Int)<(k:Int));rw[aG,b];simp[go_sem,a,c,d]
def aj6{id k:Nat}{H:ab}{x:Un}{r:List Un}(h:kn H id (x::r))(b:r.length+1=k)(a:k<=8):∃H',run gy 106 [.sl id 14 0 k,.i k,xz] H=some (.tup [],H')/\kn H' id (gu [x] r)/\Kr id H H':=by
 suffices hh:∃q,run gy 106 [.sl id 14 0 k,.i k,xz] H=some q/\∃H',q=(.tup [],H')/\kn H' id (gu [x] r)/\Kr id H H' by obtain⟨q,g,H',rfl,m⟩:=hh;exact⟨H',g,m⟩
 obtain⟨d,j,f,k1⟩:=axw h b aa;refine g_ (c:=.seq _ (.seq _ (.seq (.block 0 (.loop QP)) (.seq _ (.block 2 (.loop QQ)))))) rfl rfl func106 rfl (by rw[ntmps106];simp) ?_;simp only[go_sem,seval,];simp only[cg];refine bL (dE (aj4 (k:=k) a _ H ?_ ?_)) ?_
 case refine_3=>
  rintro _ ⟨ae,H',rfl,rfl,e,b1,b2,l,b7⟩;simp only[go_sem,seval,e,b1,b2,b7,j];refine bL (dE (aj5 (k:=k) a _ d ?_ ?_)) ?_
  case refine_3=>
   rintro _ ⟨nZ,oU,rfl,rfl⟩;simp only[go_sem,seval,results106];exact⟨_,rfl,_,rfl,f,k1⟩
  all_goals simp[go_sem,b1,l]
 all_goals simp[go_sem,]
def at3{id k:Nat}{H:ab}{x:Un}{r:List Un}(h:kn H id (x::r))(b:r.length+1=k)(g:k<=8):∃H',run gy 70 [.sl id 14 0 k,xz] H=some (.tup [],H')/\kn H' id (gu [x] r)/\Kr id H H':=by
 suffices hh:∃q,run gy 70 [.sl id 14 0 k,xz] H=some q/\∃H',q=(.tup [],H')/\kn H' id (gu [x] r)/\Kr id H H' by obtain⟨q,e,H',rfl,f⟩:=hh;exact⟨H',e,f⟩
 obtain⟨H1,d,c,k1⟩:=aj6 h b g;have a:gD prog #[118] [.sl id 14 0 k]=some (.i k):=by simp[gD,tE]
 refine g_ rfl rfl func70 rfl (by rw[ntmps70];simp) ?_;simp only[go_sem,seval,a,d,results70];exact⟨_,rfl,_,rfl,c,k1⟩
def vU(us:List Un):List AV:=us.map λu=>.agg (cU u)
def E3(us:List Un):(vU us).length=us.length:=by simp[vU]
def XK{T:Type}(g:T->AV){n:Nat}(h:∀x,(g x).width=some n):∀l:List T,fF n (l.map g)=true
 |[]=>rfl
 |x::l=>by simp[fF,h x,XK g h l]
def axx(us:List Un)(H:ab)(b:us≠[])(h8:us.length<=8):cj (λt=>t==118) prog 118 118 (.vec .full []) (.vec .ro (vU us)) H=some (.sl H.next 14 0 us.length,H.push (.row us.length 78 14 (us.flatMap cU))):=by
 have c:us.length≠0:=λe=>b (Ψ.1 e);have a:pU prog H 14 (.vec .ro (vU us))=some (us.length,us.flatMap cU):=by simp only[pU];rw[ν (show fF 14 (vU us)=true from(XK (λu=>AV.agg (cU u)) (n:=14) (λ_=>rfl) us)),E3];show some (us.length,(us.map λu=>AV.agg (cU u)).flatMap AV.cells)=_;rw[XG]
 simp only[cj,tE,uX,Zr,OC,jt,we,a];rw[ν ⟨trivial,aA,rfl⟩];simp only[aFN,aDp,pM,κ c];rw[ν ⟨rfl,aX,aX⟩];simp
def aoO(us:List Un)(H:ab)(a:us≠[])(b:us.length<=8):run gy 69 [.vec .ro (vU us)] H=some (.sl H.next 14 0 us.length,H.push (.row us.length 78 14 (us.flatMap cU))):=by
 obtain⟨n,L⟩:=H;have hb:∀H,dS prog 118 0 [] H=some (.vec .full [],H):=λH=>by simp[dS,tE,uX,OC,mH,fF,lZ]
 have c:ew prog .eql 118 (.vec .ro (vU us)) (.vec .nil [])=some (.bool false):=by
  cases us with
  |nil=>exact(a rfl).elim
  |cons x r=>rfl
 refine qY rfl rfl func69 rfl (by rw[ntmps69];simp) ?_;simp[go_sem,c,hb,cQ,axx us ⟨n,L⟩ a b,kZ,results69]
def aa5{T:Type}{P:Program}{H:ab}{k:Nat}{g:T->AV}(h:∀x,cH P H k (g x)=some (g x)):∀l:List T,dt (cH P H k) (l.map g)=some (l.map g)
 |[]=>rfl
 |x::l=>by simp[dt,h x,an,aa5 h l]
def PI{P:Program}{H:ab}{k:Nat}:∀{ks:List Nd},(∀x∈ks,cH P H k (aB x)=some (aB x))->dt (cH P H k) (bA ks)=some (bA ks)
 |[],_=>rfl
 |x::ks,h=>by show an (cH P H k (aB x)) (λy=>an (dt (cH P H k) (bA ks)) λb=>some (y::b))=_;rw[h x as1,PI (λy a=>h y (Η _ a))];rfl
def acw(P:Program)(H:ab):∀n k,2*dz n<=k->cH P H (k+1) (aB n)=some (aB n)
 | .mk kd f t w a ks,k,c=>by rw[tI] at c;obtain⟨j,rfl⟩:∃j,k=j+2:=⟨k-2,aa⟩;have b:dt (cH P H (j+1)) (bA ks)=some (bA ks):=PI λx d=>acw P H x j (by have:=ts d;omega);rw[yc,Aq,Pw];simp[Nd.ks,Nd.k,Nd.f,Nd.t,Nd.w,Nd.a,dt];rw[yq,b];simp[cH,an];cases ks<;>rfl
 termination_by n=>SizeOf.sizeOf n
def axy(P:Program)(H:ab)(j:Nat)(u:Un)(d:dz u.tr<=60):cH P H (j+130) (.agg (cU u))=some (.agg (cU u)):=by
 have h:dt (cH P H (j+128)) (V u.tk)=some (V u.tk):=aa5 (g:=mj) (λx=>rfl) u.tk
 have e:dt (cH P H (j+128)) (bA u.tr.ks)=some (bA u.tr.ks):=PI λx b=>acw P H x (j+127) (by
  cases c:u.tr with
  |mk kd f t w a ks=>
   rw[c,tI] at d;rw[c] at b;simp only[Nd.ks] at b;have:=ts b
   omega)
 rw[show j+130=(j+129)+1 from rfl,Pw];unfold cU oW;simp only[dt];rw[show j+129=(j+128)+1 from rfl];rw[yq,yq,yq,yq,yq,h,e];rw[show j+128=j+125+3 from rfl,QF P H (j+125) u.mp.bs,QG P H (j+125) u.mp.ms,QH P H (j+125) u.b1];simp only[cH,an,XE,kF]
end Go.Proofs.YtmehamiifalmaaaGreatDoor
namespace Go.Ab
open Go
def adA{T:Type}{c:T->List AV}{s}(b:∀x,(c x).length=s){l:List T}{i j}{x:T}(h:l[i]? =some x)(a:j<s):(l.flatMap c)[s*i+j]? =(c x)[j]? :=by have:=acu b h;rw[<-this,Υ a,aDB]
def Vy{E:Env}{f}{fn:Func}{c}{args bW:List AV}{b}(n:E.G f=true)(m:E.df f=false)(g:E.P.funcs[f]? =some fn)(d:fn.body=some c)(o:args.length<=fn.ntmps)(j:args.map AV.erase=bW)
  (h:AV.aq.go bW=true) (l:aD (aP E (run E) aJ c (jy bW) .empty) λe k H'=>∃v a,finish E.P fn.results.toList (e,k,H')=some (v,a)/\(if v.erase.aq=true then some v.erase else an (cH E.P a 1000 v) λw=>if w.aq=true then some w else none)=some b):
  aI E.P (run E) f args=some b:=by
 obtain⟨v,i,rfl⟩:=uO (Q:=λw=>w=b) n m g d o j h (aT l λe α H ⟨v,a,g,d⟩=>⟨v,a,b,g,d,rfl⟩);exact i
end Go.Ab
namespace Go.Proofs.YtmehamiifalmaaaGreatDoor
open Go Go.Ab Go.Proofs.Tryz
set_option maxRecDepth 100000
set_option maxHeartbeats 8000000
def lP:Option (List UInt8)->List Un->Nat
 |_,[]=>0
 |p,u::r=>if rq u.nm=true then(if p=some u.nm then 4 else lP (some u.nm) r) else 1
noncomputable def Ls:=f40.c.r.r.r.r.l.r.b.b
def As{T:Type}(pre:List T)(x:T)(r):(pre++x::r)[pre.length]? =some x:=by rw[Ρ (μ _),aEZ];rfl
def aa6{id p k}{us:List Un}(w:us.length=k)(W:k<=8):∀r pre H α,us=pre++r->kn H id us->(∃o,H.get p=some (.cells o [.sl id 14 0 k]))->
  α 4=.ptr p 0->α 22=.sl id 14 0 k->α 23=.i k->α 24=.i pre.length->
  aD (aJ (aO gy Ls) α H) λe G H'=>(e=.exit 0/\lP (pre.getLast?.map (·.nm)) r=0/\kn H' id us/\(∃o,H'.get p=some (.cells o [.sl id 14 0 k]))/\G 4=.ptr p 0)\/(e=.ret/\lP (pre.getLast?.map (·.nm)) r≠0/\G 2=.val (.pointer none)/\G 3=.i (lP (pre.getLast?.map (·.nm)) r:Nat))
 |[],pre,H,α,s,h,⟨o,I⟩,a4,f,d,a24=>by have M:Ls=.seq _ (.seq _ (.seq (.block _ (.seq _ (.block _ (.seq _ (.cond _ _ (.seq _ _)))))) _)):=rfl;rw[aDi] at s;have m:=d_ (a:=pre.length) (b:=k) (by rw[<-w,s];exact aDF _);rw[aG,M];simp only[go_sem,↓reduceIte,Nat.reduceEqDiff,ne_eq,reduceCtorEq,d,a24,m];refine .inl ⟨aK,rfl,h,⟨o,I⟩,?_⟩;simp only[go_sem,a4]
 |u::r,pre,⟨n,L⟩,α,s,h,⟨o,I⟩,a4,f,d,a24=>by
  have M:Ls=.seq _ (.seq _ (.seq (.block _ (.seq _ (.block _ (.seq _ (.cond _ _ (.seq _ _)))))) _)):=rfl;have D:pre.length<k:=by rw[<-w,s];simp
  have m:=dM D;have w1:=fD pre.length aa;have J:us[pre.length]? =some u:=by rw[s];exact As _ _ _
  unfold kn at h;rw[w] at h;obtain⟨z,g⟩:=aj.1 h;obtain⟨zp,N⟩:=aj.1 I;have c:=wc g;have cp:=aF N;have C:(id<n)=True:=υ z;have O:=aY (id<n+1);have E:=aY (p<n+1);have B:=aY (n<n+1);have Q:=dw (n=id);have n1:=dw (n=p);have t:=Fo (P:=prog) tE uX aA (id:=id) D;have l1:=Jr pa IX J;have F:(14*pre.length+14<=(us.flatMap cU).length)=True:=υ (by rw[Ar pa];omega);have A:eD [.str [],.str [],.vec .nil [],.i 0,.i 0,.i 0,.str [],.i 0,.vec .nil [],.vec .nil [],.vec .nil [],.vec .nil [],.i 0,.i 0] 0 (cU u)=cU u:=rfl;have ao:eE (cU u)=true:=rfl;have dy:kn ⟨n+1,(n,.k 78 (cU u))::L⟩ id us:=by unfold kn;rw[w];exact aj.2 ⟨aa,by rw[br,bV];exact g⟩
  have U:ab.get ⟨n+1,(n,.k 78 (cU u))::L⟩ p=some (.cells o [.sl id 14 0 k]):=aj.2 ⟨aa,by rw[br,bV];exact N⟩;have V:((pre++[u]).getLast?.map (·.nm))=some u.nm:=ai;have Z:us=(pre++[u])++r:=by rw[s];simp
  have ot:(((pre++[u]).length:Nat):Int)=((pre.length+1:Nat):Int):=ai;have ih:=λα=>aa6 (id:=id) (p:=p) (k:=k) w W r (pre++[u]) ⟨n+1,(n,.k 78 (cU u))::L⟩ α Z dy ⟨o,U⟩;rw[V,ot] at ih;rw[aG,M];have X:∀q,lP q (u::r)=if rq u.nm=true then(if q=some u.nm then 4 else lP (some u.nm) r) else 1:=λq=>rfl;rw[X]
  cases hn:rq u.nm with
  |false=>
   simp only[go_sem,↓reduceIte,Nat.reduceEqDiff,Nat.reduceAdd,Nat.reduceLeDiff,ne_eq,reduceCtorEq,aDX,aFB,Ι,Χ,a4,f,d,a24,m,t,c,l1,C,E,B,n1,A,ao,pa,vz,hn,Α,tK];refine .inr ⟨aK,ai,?_,?_⟩;all_goals(try simp only[go_sem,])
   all_goals(try rfl)
  |true=>
   simp only[aDp];rcases List.eq_nil_or_concat pre with rfl|⟨l,v,rfl⟩
   ·have y:decide (((0:Nat):Int)>0)=false:=rfl;simp only[Χ] at a24 m w1 t l1 F ih;rw[κ (show ¬(Option.map (λx=>x.nm) ([]:List Un).getLast? =some u.nm) by simp)];simp only[go_sem,↓reduceIte,Nat.reduceEqDiff,Nat.reduceAdd,Nat.reduceLeDiff,ne_eq,reduceCtorEq,aDX,aFB,Ι,Χ,f,d,a24,m,y,t,c,l1,C,B,A,ao,pa,vz,hn,ω,w1];refine ih _ ?_ ?_ ?_ ?_;all_goals simp only[go_sem,↓reduceIte,Nat.reduceEqDiff,Nat.reduceAdd,a4,f,d]
   ·simp only[List.concat_eq_append] at s D m w1 J t l1 F a24 ih⊢;have Y:(l++[v]).length=l.length+1:=ai;rw[Y] at D m w1 J t l1 F a24 ih;have y:=bJ (((l.length+1:Nat):Int)>0);have T:IntKind.i64.wrap (((l.length+1:Nat):Int)-1)=((l.length:Nat):Int):=w8 (l.length+1) aa aa;have hv:us[l.length]? =some v:=by rw[s,adv];exact As _ _ _
    have R:=Fo (P:=prog) tE uX aA (id:=id) (show l.length<k by omega);have S:(us.flatMap cU)[14*l.length+0]? =some (.str v.nm):=(adA (j:=0) pa hv aA).trans rfl;have hg:(Option.map (λx=>x.nm) (l++[v]).getLast? =some u.nm)↔v.nm=u.nm:=ai
    cases hq:(v.nm==u.nm) with
    |true=>
     have K:v.nm=u.nm:=by simpa using hq
     rw[ν (hg.2 K)];simp only[go_sem,↓reduceIte,Nat.reduceEqDiff,Nat.reduceAdd,Nat.reduceLeDiff,ne_eq,reduceCtorEq,aDX,aFB,Ι,Χ,a4,f,d,a24,m,y,t,R,c,cp,l1,S,C,O,E,B,Q,n1,A,ao,pa,vz,hn,hq,ω,T,tK];refine .inr ⟨aK,ai,?_,?_⟩;all_goals(try simp only[go_sem,])
     all_goals(try rfl)
    |false=>
     have K:¬v.nm=u.nm:=by simpa using hq
     rw[κ (λh=>K (hg.1 h))];simp only[go_sem,↓reduceIte,Nat.reduceEqDiff,Nat.reduceAdd,Nat.reduceLeDiff,ne_eq,reduceCtorEq,aDX,aFB,Ι,Χ,a4,f,d,a24,m,y,t,R,c,cp,l1,S,C,O,E,B,Q,n1,A,ao,pa,vz,hn,hq,ω,w1,T];refine ih _ ?_ ?_ ?_ ?_;all_goals simp only[go_sem,↓reduceIte,Nat.reduceEqDiff,a4,f,d]
end Go.Proofs.YtmehamiifalmaaaGreatDoor
namespace Go.Ab
open Go
def Kw(et s:Nat)(H H':ab):Prop:=H.next<=H'.next/\∀i x,(∀n cs,x≠.row n et s cs)->H.get i=some x->H'.get i=some x
def Kw.refl(et s)(H:ab):Kw et s H H:=⟨μ _,λ_ _ _ h=>h⟩
def Kw.trans{et s}{H a b:ab}(h:Kw et s H a)(g:Kw et s a b):Kw et s H b:=⟨aDj h.1 g.1,λi x c hi=>g.2 i x c (h.2 i x c hi)⟩
def Kw.push(et s)(H:ab)(y):Kw et s H (H.push y):=⟨awF _,λi x _ hi=>by
 rw[ab.dT,κ (by have:=ab.eg hi;omega)];exact hi⟩
def Kw.cells{et s}{H H':ab}(h:Kw et s H H'){i}{te}{cs:List AV}(hi:H.get i=some (.c te cs)):H'.get i=some (.c te cs):=h.2 i _ ai hi
def at4(P)(H:ab)(k id s off len m s')(et)(cs:List AV){ag}(h:H.get id=some (.row m et s' cs))(b:cu P et=some ag)(a:s'=s/\off+len<=m/\(ag=true\/s=1)):cH P H (k+1) (.sl id s off len)=an (dt (cH P H k) (nT ag s len (cs.drop (off*s)))) λds=>some (.vec .ro ds):=by simp only[cH,h,b];rw[ν a]
structure GT{T:Type}(P:Program)(t et:TypeId)(s b:Nat)(c:T->List AV)(g:T->AV)(ag:Bool):Prop where
 app:iZ P t et s b
 cells:∀x,(g x).cells=c x
 wid:∀x,(g x).width=some s
 len:∀x,(c x).length=s
 agg:cu P et=some ag
 one:ag=true\/s=1
 ch:∀l:List T,nT ag s l.length (l.flatMap c)=l.map g
 np:∀x,(g x).aq=true
def NJ:∀{l:List (Nat×bH)} {i:Nat} {p:Nat×bH},p∈yD l i->p∈l
 |(k,x)::r,i,p,h=>by
  simp[yD] at h;split at h
  ·exact Η _ (NJ h)
  ·rcases Ν.1 h with rfl|h
   ·grind
   ·exact Η _ (NJ h)
section
variable {T:Type} {P:Program} {t et:TypeId} {s b:Nat} {c:T->List AV} {g:T->AV} {ag:Bool}
def ej(H:ab)(et s:Nat)(c:T->List AV)(g:T->AV)(v:AV)(l:List T):Prop:=(l=[]/\v=.vec .nil [])\/(∃x,l=[x]/\v=.vec .full [g x])\/(l≠[]/\∃id,v=.sl id s 0 l.length/\H.get id=some (.row l.length et s (l.flatMap c)))
def ej.bU{H H':ab}{v}{l:List T}(h:ej H et s c g v l)(b:∀i n cs,H.get i=some (.row n et s cs)->H'.get i=some (.row n et s cs)):ej H' et s c g v l:=by
 rcases h with h|h|⟨e,id,a,d⟩
 ·exact .inl h
 ·exact .inr (.inl h)
 ·exact .inr (.inr ⟨e,id,a,b _ _ _ d⟩)
def ZC(a:GT P t et s b c g ag)(H)(o)(l:List T):pU P H s (.vec o (l.map g))=some (l.length,l.flatMap c):=by
 have d:∀l:List T,fF s (l.map g)=true:=λl=>by
  induction l with
  |nil=>rfl
  |cons x l ih=>simp[fF,a.wid x,ih]
 have e:∀l:List T,(l.map g).flatMap AV.cells=l.flatMap c:=λl=>by
  induction l with
  |nil=>rfl
  |cons x l ih=>rw[aDm,ap1,ap1,ih,a.cells]
 simp only[pU];rw[ν (d l),φ,e]
def ahh{m}(f:GT P t et s b c g ag)(hm:m t=true){H:ab}{v y:AV}{l xs:List T}(h:ej H et s c g v l)(B:pU P H s y=some (xs.length,xs.flatMap c))(D:(∃o es,y=.vec o es)\/∃a b c d,y=.sl a b c d)(E:xs≠[])(hb:(l.length+xs.length)*b<=140737488355328)(k:l.length+xs.length<=9223372036854775807):
  ∃id H',cj m P t t v y H=some (.sl id s 0 (l++xs).length,H')/\H'.get id=some (.row (l++xs).length et s ((l++xs).flatMap c))/\Kw et s H H'/\∀p∈H'.jx,p∈H.jx\/p.2=.row (l++xs).length et s ((l++xs).flatMap c):=by
 obtain⟨z,F,J⟩:=f.app.zero;have A:s≠0/\z.length=s:=⟨f.app.s0,J⟩;have w:xs.length≠0:=λe=>E (Ψ.1 e);have C:jt m t v y=none:=by rcases h with⟨_,rfl⟩|⟨x,_,rfl⟩|⟨_,id,rfl,_⟩<;>rcases D with⟨o,es,rfl⟩|⟨p,q,r,u,rfl⟩<;>simp[jt,hm]
 have L:cj m P t t v y H=pM et s b v xs.length (xs.flatMap c) H:=by
  rcases D with⟨o,es,rfl⟩|⟨p,q,r,u,rfl⟩
  ·simp only[cj,f.app.el,f.app.sz,f.app.fq,F];rw[ν ⟨trivial,A⟩,C];simp[we,B]
  ·simp only[cj,f.app.el,f.app.sz,f.app.fq,F];rw[ν ⟨trivial,A⟩,C];simp[we,B]
 rw[L];have n:(l++xs).length=l.length+xs.length:=χ;have I:(l++xs).flatMap c=l.flatMap c++xs.flatMap c:=aFx;rw[n,I];rcases h with⟨rfl,rfl⟩|⟨x,rfl,rfl⟩|⟨h1,id,rfl,K⟩
 ·simp only[pM];rw[κ w];simp only[Χ,aDz] at hb k⊢;rw[ν ⟨rfl,hb,k⟩];refine⟨H.next,_,rfl,?_,Kw.push _ _ _ _,λp j=> ?_⟩
  ·rw[ab.dT,ν rfl];simp
  ·rcases Ν.1 j with rfl|h
   ·grind
   ·exact .inl h
 ·simp only[pM];rw[κ w];simp only[Ι,Χ] at hb k⊢;rw[ν ⟨by simp[fF,f.wid],hb,k⟩];refine⟨H.next,_,rfl,?_,Kw.push _ _ _ _,λp j=> ?_⟩
  ·rw[ab.dT,ν rfl];simp[f.cells]
  ·rcases Ν.1 j with rfl|h
   ·exact .inr (by simp[f.cells])
   ·exact .inl h
 ·simp only[pM,K];rw[κ w,ν ⟨aK,aK,aK,aK,μ _,hb,k⟩];refine⟨H.next,_,rfl,?_,?_,λp j=> ?_⟩
  ·show((H.del id).push _).get (H.del id).next=_;rw[ab.dT,ν rfl,aEs (by rw[Ar f.len,aFy];exact μ _)]
  ·refine⟨awF _,λi x E hi=> ?_⟩;have G:id≠i:=by grind
   have:=ab.eg hi;rw[ab.dT,κ (λe=>by have e':H.next=i:=e;omega),ab.tz,κ G];exact hi
  ·rcases Ν.1 j with rfl|h
   ·exact .inr (by rw[aEs (by rw[Ar f.len,aFy];exact μ _)])
   ·exact .inl (NJ h)
def aj7{m}(p:GT P t et s b c g ag)(hm:m t=true){H}{v y:AV}{l xs:List T}(h:ej H et s c g v l)(i:pU P H s y=some (xs.length,xs.flatMap c))(e:(∃o es,y=.vec o es)\/∃a b c d,y=.sl a b c d)(q:xs≠[])(hb:(l.length+xs.length)*b<=140737488355328)(n:l.length+xs.length<=9223372036854775807):
  ∃id H',cj m P t t v y H=some (.sl id s 0 (l++xs).length,H')/\H'.get id=some (.row (l++xs).length et s ((l++xs).flatMap c))/\Kw et s H H':=by
 obtain⟨id,H',j,f,k,_⟩:=ahh p hm h i e q hb n;exact⟨id,H',j,f,k⟩
def NL{m}(d:GT P t et s b c g ag)(hm:m t=true){H}{v}{l:List T}(o:Own)(x:T)(h:ej H et s c g v l)(hb:(l.length+1)*b<=140737488355328)(j:l.length+1<=9223372036854775807):
  ∃a H',cj m P t t v (.vec o [g x]) H=some (a,H')/\ej H' et s c g a (l++[x])/\Kw et s H H':=by
 obtain⟨id,H',f,e,i⟩:=aj7 d hm h (ZC d H o [x]) (.inl ⟨_,_,rfl⟩) ai hb j;exact⟨_,H',f,.inr (.inr ⟨ai,id,rfl,e⟩),i⟩
def aoP(a:GT P t et s b c g ag){H:ab}{v:AV}{l:List T}(f:∀k,dt (cH P H (k+300)) (l.map g)=some (l.map g))(h:ej H et s c g v l):(if v.erase.aq=true then some v.erase else an (cH P H 1000 v) λw=>if w.aq=true then some w else none)=some (.vec (if l.length=0 then .nil else .ro) (l.map g)):=by
 have d:∀l:List T,AV.aq.go (l.map g)=true:=λl=>by
  induction l with
  |nil=>rfl
  |cons x l ih=>show((g x).aq&&AV.aq.go (l.map g))=true;rw[a.np,ih];rfl
 rcases h with⟨rfl,rfl⟩|⟨x,rfl,rfl⟩|⟨j,id,rfl,n⟩
 ·rfl
 ·have:(AV.vec .full [g x]).erase.aq=true:=by simp[AV.erase,AV.bare,Own.bare,AV.aq,AV.aq.go,a.np]
  rw[ν this];rfl
 ·rw[κ (by simp[AV.erase,AV.bare,AV.aq])];have m:l.length≠0:=λe=>j (Ψ.1 e);have i:cH P H 1000 (.sl id s 0 l.length)=some (.vec .ro (l.map g)):=by rw[show(1000:Nat)=699+300+1 from rfl];generalize 699=k;have hm:=f k;generalize k+300=q at hm;rw[at4 P H q id s 0 l.length l.length s et (l.flatMap c) n a.agg ⟨rfl,aa,a.one⟩,Nat.zero_mul,aEk,a.ch,hm];rfl
  rw[i,κ m];simp only[an];rw[ν];simp[AV.aq,d]
def aa7(d:GT P t et s b c g ag)(a:∀x H k,cH P H (k+3) (g x)=some (g x)){H:ab}{v:AV}{l:List T}(h:ej H et s c g v l):(if v.erase.aq=true then some v.erase else an (cH P H 1000 v) λw=>if w.aq=true then some w else none)=some (.vec (if l.length=0 then .nil else .ro) (l.map g)):=
 aoP d (λk=>by
  have:∀q (l:List T),dt (cH P H (q+3)) (l.map g)=some (l.map g):=λq l=>by
   induction l with
   |nil=>rfl
   |cons x l ih=>simp[dt,a x H q,an,ih]
  exact this (k+297) l) h
end
end Go.Ab
namespace Go.Proofs.YtmehamiifalmaaaGreatDoor
open Go Go.Ab Go.Proofs.Tryz
set_option maxRecDepth 100000
set_option maxHeartbeats 8000000
def pH(us:List Un):Except Nat (List Un):=if us.length>8 then .error 5 else if lP none (gu [] us)=0 then .ok (gu [] us) else .error (lP none (gu [] us))
def dD(us:List Un):AV:=.rptr [.vec (au us.length) (vU us)]
def sL:Except Nat (List Un)->AV
 | .ok us=>.tup [.rptr [.vec (au us.length) (vU us)],.i 0]
 | .error e=>.tup [.val (.pointer none),.i e]
def NM{x u}:∀{l:List Un},u∈pr x l->u=x\/u∈l
 |[],h=>by simpa[pr] using h
 |y::r,h=>by
  unfold pr at h;split at h
  ·rcases Ν.1 h with h|h
   ·exact .inr (h▸as1)
   ·exact(NM h).imp_right λh=>Η _ h
  ·exact Ν.1 h
def aj8{x u}{l}(h:u∈qd x l):u=x\/u∈l:=by unfold qd at h;rw[List.mem_reverse] at h;simpa using NM h
def Hg{u:Un}:∀{r acc:List Un},u∈gu acc r->u∈acc\/u∈r
 |[],acc,h=>.inl h
 |x::r,acc,h=>by
  rcases Hg (r:=r) h with h|h
  ·rcases aj8 h with h|h
   ·exact .inr (h▸as1)
   ·exact .inl h
  ·exact .inr (Η _ h)
def Fq:∀us:List Un,AV.aq.go (vU us)=true
 |[]=>rfl
 |u::us=>by show((AV.agg (cU u)).aq&&AV.aq.go (vU us))=true;rw[show(AV.agg (cU u)).aq=true from rA u u.b1,Fq us];rfl
def acx(P)(H)(j):∀{us:List Un},(∀u∈us,dz u.tr<=60)->dt (cH P H (j+130)) (vU us)=some (vU us)
 |[],_=>rfl
 |u::us,h=>by show an (cH P H (j+130) (.agg (cU u))) (λy=>an (dt (cH P H (j+130)) (vU us)) λb=>some (y::b))=_;rw[axy P H j u (h u as1),acx P H j (λy a=>h y (Η _ a))];rfl
def at5(P)(H)(k)(l):cH P H (k+1) (.tup l)=an (dt (cH P H k) l) λds=>some (.tup ds):=by simp[cH]
def at6(P)(H:ab)(k id){te}{cs}(h:H.get id=some (.c te cs))(a:eE cs=true):cH P H (k+1) (.ptr id 0)=an (dt (cH P H k) cs) λds=>some (.rptr ds):=by simp only[cH,h,aEk];rw[ν a]
def at7(P)(H:ab)(k id s off len m s')(et)(cs:List AV)(h:H.get id=some (.row m et s' cs))(b:cu P et=some true)(a:s'=s/\off+len<=m):cH P H (k+1) (.sl id s off len)=an (dt (cH P H k) (nT true s len (cs.drop (off*s)))) λds=>some (.vec .ro ds):=by simp only[cH,h,b];rw[ν ⟨a.1,a.2,.inl trivial⟩]
def aua(P)(H)(k)(i)(n):cH P H (k+1) (.int i n)=some (.int i n):=by simp[cH]
def aoQ{H:ab}{id p k}{us:List Un}{f}(d:H.get p=some (.cells f [.sl id 14 0 k]))(a:kn H id us)(b:us.length=k)(c:∀u∈us,dz u.tr<=60):
  cH prog H 1000 (.tup [.ptr p 0,.i 0])=some (.tup [.rptr [.vec .ro (vU us)],.i 0]):=by
 unfold kn at a;rw[b] at a;have h:nT true 14 k (us.flatMap cU)=vU us:=by rw[<-b];exact Js pa us
 rw[show(1000:Nat)=867+133 from rfl];generalize 867=j;have e:cH prog H (j+131) (.sl id 14 0 k)=some (.vec .ro (vU us)):=by rw[show j+131=(j+130)+1 from rfl,at7 prog H (j+130) id 14 0 k k 14 78 (us.flatMap cU) a Zq ⟨rfl,aa⟩,Nat.zero_mul,aEk,h,acx prog H j c];rfl
 have g:cH prog H (j+132) (.ptr p 0)=some (.rptr [.vec .ro (vU us)]):=by rw[show j+132=(j+131)+1 from rfl,at6 prog H (j+131) p d rfl];simp[dt,e,an]
 rw[show j+133=(j+132)+1 from rfl,at5];simp[dt,g,an];rw[show j+132=(j+131)+1 from rfl,aua]
def NN(x:Except Nat (List Un)):(sL x).aq=true:=by
 cases x with
 |error e=>rfl
 |ok us=>show((AV.rptr [.vec (au us.length) (vU us)]).aq&&_)=true;have:=iE (n:=us.length) (Fq us);simp only[AV.aq,AV.aq.go] at this⊢;rw[this];rfl
def ahi(x)(r):gu [] (x::r)=gu [x] r:=rfl
def aBg(us:List Un)(B:∀u∈us,dz u.tr<=60)(hl:us.length<=1000000):aI prog (run gy) 40 [.vec (au us.length) (vU us)]=some (sL (pH us)):=by
 by_cases f:us=[]
 ·subst f;exact Aj 10 rfl
 ·have J:0<us.length:=aDV.2 f;rw[HB J];refine Vy (c:=.seq _ (.seq (.seq _ (.cond _ _ _)) (.seq _ (.seq _ (.seq (.seq _ (.block 0 (.loop Ls))) _))))) rfl rfl func40 rfl (by rw[ntmps40];simp) (bW:=[.vec .ro (vU us)]) rfl (by show(AV.aq.go (vU us)&&true)=true;rw[Fq];rfl) ?_;by_cases A:us.length>8
  ·have s:=bJ ((us.length:Int)>8);have o:pH us=.error 5:=by unfold pH;rw[ν A]
   rw[o];simp only[go_sem,seval,ab.empty,E3,s,tK,results40];exact⟨_,_,rfl,rfl⟩
  ·have s:=bP ((us.length:Int)>8);have w:=aoO us ⟨0,[]⟩ f aa;simp[ab.push] at w;obtain⟨x,r,d⟩:=aEV f;have a:(gu [x] r).length=us.length:=by rw[Hf,d];simp;omega
   have o:pH us=if lP none (gu [x] r)=0 then .ok (gu [x] r) else .error (lP none (gu [x] r)):=by unfold pH;rw[κ A,d,ahi]
   have D:kn ⟨2,[(1,.z [.sl 0 14 0 us.length]),(0,.row us.length 78 14 (us.flatMap cU))]⟩ 0 (x::r):=by rw[d];exact rfl
   obtain⟨⟨n1,L1⟩,G,C,k1⟩:=at3 (k:=us.length) D (by rw[d];rfl) aa;have v:=k1.2 1 _ aA (rfl:ab.get ⟨2,[(1,.z [.sl 0 14 0 us.length]),(0,.row us.length 78 14 (us.flatMap cU))]⟩ 1=some (.z [.sl 0 14 0 us.length]));obtain⟨F,I⟩:=aj.1 v;have m:gD prog #[118] [.sl 0 14 0 us.length]=some (.i us.length):=by simp[gD,tE]
   have l:(AV.sl 0 14 0 us.length).width=some 1:=rfl;have q:(AV.sl 0 14 0 us.length).cells=[.sl 0 14 0 us.length]:=rfl;have t:eD [AV.vec .nil []] 0 [.sl 0 14 0 us.length]=[.sl 0 14 0 us.length]:=rfl;rw[o];simp[go_sem,ab.empty,E3,s,w,aZ,G,aF I,υ F,m,l,q,t];simp[cg];refine bL (mG (aa6 (id:=0) (p:=1) (k:=us.length) (us:=gu [x] r) a aa (gu [x] r) [] _ _ rfl C ⟨none,v⟩ ?_ ?_ ?_ ?_)) ?_
   case refine_5=>
    rintro _ ⟨e,ae,H',rfl,⟨rfl,b,j,⟨tp,g⟩,E⟩|⟨rfl,b,j,g⟩⟩
    ·simp[aFf] at b;rw[ν b];simp only[go_sem,seval,E,results40];refine⟨_,_,rfl,?_⟩
     have H:=aoQ g j a (λu K=>B u (by
      rw[d];rcases Hg K with h|h
      ·rw[Μ] at h;exact h▸as1
      ·exact Η _ h))
     rw[κ (by simp[AV.erase,AV.bare,AV.aq,AV.aq.go]),H];have L:sL (.ok (gu [x] r))=.tup [.rptr [.vec .ro (vU (gu [x] r))],.i 0]:=by simp[sL,(HB (n:=(gu [x] r).length) aa)]
     have y:=NN (.ok (gu [x] r));rw[L] at y⊢;simp only[an];rw[ν y]
    ·simp[aFf] at b g;rw[κ b];simp only[go_sem,seval,j,g,results40];exact⟨_,_,rfl,rfl⟩
   all_goals simp[go_sem,]
   all_goals(try rfl)
def QR:List FuncId:=[5,16,17,18]
def aoR:List FuncId:=[5,16,17,18,39,40,41,42]
noncomputable def gF:Env:={P:=prog,G:=λf=>QR.contains f,cl:=λf=>aoR.contains f,eX:=λ_=>false,dyn:=λ_=>false,df:=λ_=>false,ext:=bQ (bf jC [39,41]) (bQ (bf gy [40]) (bf fg [42]))}
def aoS:QR.all (okF gF)=true:=af
def axA:gF.P=prog:=(rfl)
def axB:gF.eX=λ_=>false:=(rfl)
def axC(i):gF.dyn i=false:=(rfl)
attribute [go_sem] axA axB axC
def aub(args)(H):gF.ext 39 args H=bf jC [39,41] 39 args H:=rH (a:=bf jC [39,41]) (b:=bQ (bf gy [40]) (bf fg [42])) (gT (a:=bf gy [40]) (b:=bf fg [42]) (ep rfl) · · |>.trans (ep rfl _ _)) args H
def auc(args)(H):gF.ext 41 args H=bf jC [39,41] 41 args H:=rH (a:=bf jC [39,41]) (b:=bQ (bf gy [40]) (bf fg [42])) (gT (a:=bf gy [40]) (b:=bf fg [42]) (ep rfl) · · |>.trans (ep rfl _ _)) args H
def aud(args)(H):gF.ext 40 args H=bf gy [40] 40 args H:=(gT (a:=bf jC [39,41]) (b:=bQ (bf gy [40]) (bf fg [42])) (f:=40) (ep rfl) args H).trans (rH (a:=bf gy [40]) (b:=bf fg [42]) (f:=40) (ep rfl) args H)
def aue(args)(H):gF.ext 42 args H=bf fg [42] 42 args H:=(gT (a:=bf jC [39,41]) (b:=bQ (bf gy [40]) (bf fg [42])) (f:=42) (ep rfl) args H).trans (gT (a:=bf gy [40]) (b:=bf fg [42]) (f:=42) (ep rfl) args H)
abbrev Md:=List UInt8×List UInt8
def fN(p:Md):AV:=.agg [.str p.1,.str p.2]
def dU(u:Un):List AV:=oW u u.b2
def aoT(p)(H):bt gF 39 [.agg [.str p.1,.str p.2]] H=some (.agg (cU (eo p)),H):=ji (fs:=[39,41]) rfl rfl aub rfl (acs p).1 (qB _ _) (rA _ _) H
def aoU(p)(H):bt gF 41 [.agg [.str p.1,.str p.2]] H=some (.agg (dU (eo p)),H):=ji (fs:=[39,41]) rfl rfl auc rfl (acs p).2 (qB _ _) (rA _ _) H
def aoV(s)(H):bt gF 42 [.str s] H=some (.bool (rq s),H):=ji (fs:=[42]) rfl rfl aue rfl (aj1 s) rfl rfl H
def aj9(x:Except Nat (List Un)):(sL x).erase=sL x:=by cases x<;>rfl
def aoW(o:Ab.Own)(us:List Un)(c:o.bare=au us.length)(a:∀u∈us,dz u.tr<=60)(b:us.length<=1000000)(H):bt gF 40 [.vec o (vU us)] H=some (sL (pH us),H):=
 ji (fs:=[40]) rfl rfl aud rfl (by
  rw[<-wh];simp[AV.erase,AV.bare,c]
  exact aBg us a b) (aj9 _) (NN _) H
attribute [go_sem] aoT aoU aoV
def aka(nm tx)(b1 b2):dz (kl nm tx b1 b2).tr<=60:=by
 unfold kl
 cases h:iW tx with
 |error q=>obtain⟨e,a⟩:=q;show dz eG<=60;decide
 |ok q=>obtain⟨l,t⟩:=q;exact(Hv h).dp
def aoX(p):dz (eo p).tr<=60:=aka _ _ _ _
def J3(o){l:List Md}{i:Nat}{p:Md}(h:l[i]? =some p):dC prog 22 (.vec o (l.map fN)) (.i i)=some (.rptr [.str p.1,.str p.2]):=oC PB IY fN o h rfl
def yr(l:List Md):(l.map fN).length=l.length:=φ ..
def CO:∀l:List Md,AV.aq.go (l.map fN)=true
 |[]=>rfl
 |x::l=>by show((fN x).aq&&AV.aq.go (l.map fN))=true;rw[CO l];rfl
noncomputable def Lt:=f16.c.r.r.l.r.b.b
def aa8{o:Ab.Own}{l:List Md}{m:Int}(A:l.length<=9223372036854775807):∀d i x α H,i+d=l.length->α 0=.vec o (l.map fN)->α 1=.i m->α 5=.i x->α 8=.vec o (l.map fN)->α 9=.i l.length->α 10=.i i->
  aD (aJ (aO gF Lt) α H) λe u H'=>(e=.exit 0/\u 0=.vec o (l.map fN))\/(e=.ret/\u 4=.bool false)
 |0,i,x,α,⟨n,L⟩,w,k,h,q,g,c,j=>by have r:Lt=.seq _ (.seq _ (.seq (.block _ (.seq _ (.seq _ (.seq _ _)))) _)):=rfl;have f:=d_ (a:=i) (b:=l.length) aa;rw[aG,r];simp only[go_sem,seval,c,j,f];exact .inl ⟨aK,by simp[go_sem,k]⟩
 |d+1,i,x,α,⟨n,L⟩,w,k,h,q,g,c,j=>by
  have r:Lt=.seq _ (.seq _ (.seq (.block _ (.seq _ (.seq _ (.seq _ _)))) _)):=rfl;have f:=dM (a:=i) (b:=l.length) aa;obtain⟨p,z⟩:=fG (show i<l.length by omega);have v:=J3 o z;have w1:=f_ (i+1) (i+1:Nat);have t:=aY (n<n+1);rw[aG,r];obtain⟨y,s⟩:∃y:Int,y=IntKind.i64.wrap (x+IntKind.i64.wrap ((p.1.length:Int)+(p.2.length:Int))):=⟨_,rfl⟩
  cases hc:decide (y>m) with
  |true=>
   simp only[go_sem,seval,k,h,q,g,c,j,f,v,t,<-s,hc];first|trivial|exact .inr ⟨rfl,by simp[go_sem,]⟩
  |false=>
   simp only[go_sem,seval,h,q,g,c,j,f,v,w1,t,<-s,hc];refine(λy α H=>aa8 (o:=o) (m:=m) A d (i+1) y α H aa) y _ _ ?_ ?_ ?_ ?_ ?_ ?_;all_goals simp[go_sem,k,h,g,c]
def aoY(ko)(l:List Md)(m:Int)(d:l.length<=9223372036854775807):∃b,aI prog (run gF) 16 [.vec (au ko) (l.map fN),.i m]=some (.bool b):=by
 suffices hh:∃v,aI prog (run gF) 16 [.vec (au ko) (l.map fN),.i m]=some v/\∃b,v=.bool b by obtain⟨v,h,b,rfl⟩:=hh;exact⟨b,h⟩
 refine uO (c:=.seq _ (.seq _ (.seq (.seq _ (.block 0 (.loop Lt))) _))) rfl rfl func16 rfl (by rw[ntmps16];simp) (bW:=[.vec (au ko) (l.map fN),.i m]) (by simp[AV.erase,AV.bare,kF]) ?_ ?_
 ·show((AV.vec (au ko) (l.map fN)).aq&&_)=true;rw[iE (CO l)];rfl
 simp only[go_sem,seval,ab.empty,yr];simp only[cg];refine bL (mG (aa8 (o:=au ko) (l:=l) (m:=m) d l.length 0 0 _ _ aa ?_ ?_ ?_ ?_ ?_ ?_)) ?_
 case refine_7=>
  rintro _ ⟨e,ae,H',rfl,⟨rfl,a⟩|⟨rfl,f⟩⟩
  ·simp only[go_sem,seval,a,yr,results16];exact⟨_,_,_,rfl,rfl,_,rfl⟩
  ·simp only[go_sem,seval,f,results16];exact⟨_,_,_,rfl,rfl,_,rfl⟩
 all_goals simp[go_sem,]
 all_goals(try rfl)
def gU(u:Un):AV:=.agg (cU u)
def aBh(u):(gU u).width=some 14:=rfl
noncomputable def Lu:=f17.c.r.r.r.l.r.b.b
def auf(u)(H):dS prog 118 1 [(0,.agg (cU u))] H=some (.vec .full [.agg (cU u)],H):=by have h:=tL XA (.agg (cU u)) (by rw[show(AV.agg (cU u)).erase=.agg (cU u) from qB _ _];rfl) (by rw[show(AV.agg (cU u)).erase=.agg (cU u) from qB _ _];rfl) aA H;rwa [show(AV.agg (cU u)).erase=.agg (cU u) from qB _ _] at h
def aa9{o:Ab.Own}{l:List Md}(D:l.length<=8):∀r us o4 α H,l.drop us.length=r->us.length+r.length=l.length->bY H 78 o4 us.length->α 4=.vec o4 (vU us)->α 10=.vec o (l.map fN)->α 11=.i l.length->α 12=.i us.length->
  aD (aJ (aO gF Lu) α H) λe w H'=>e=.exit 0/\∃d,bY H' 78 d (us++r.map eo).length/\w 4=.vec d (vU (us++r.map eo))
 |[],us,o4,α,⟨n,L⟩,q,s,hg,g,u,f,h=>by have v:Lu=.seq _ (.seq _ (.seq (.block _ (.seq _ _)) _)):=rfl;have t:=d_ (a:=us.length) (b:=l.length) (by simp at s;omega);rw[aG,v];simp only[go_sem,seval,f,h,t];refine⟨aK,o4,?_⟩;simp;exact⟨hg,by simp[go_sem,g]⟩
 |p::r,us,o4,α,⟨n,L⟩,q,s,hg,g,u,f,h=>by
  have v:Lu=.seq _ (.seq _ (.seq (.block _ (.seq _ _)) _)):=rfl;simp at s;have t:=dM (a:=us.length) (b:=l.length) aa;have C:l[us.length]? =some p:=by have:=Λ (·[0]?) q;simpa using this
  have y:l.drop (us.length+1)=r:=by rw[<-List.drop_drop,q];rfl
  have A:=aY (n<n+1);have B:bY ⟨n+1,(n,.k 65 [.str p.1,.str p.2])::L⟩ 78 o4 us.length:=hg.bU λj m E=>by obtain⟨q1,F⟩:=aj.1 E;exact aj.2 ⟨aa,by rw[br,bV];exact F⟩
  obtain⟨d,H',a1,a2,a3⟩:=wA (m:=λ_=>false) XA rfl aBh .full (eo p) B aa aa;have x:cj (λ_=>false) prog 118 118 (.vec o4 (vU us)) (.vec .full [.agg (cU (eo p))]) ⟨n+1,(n,.k 65 [.str p.1,.str p.2])::L⟩=some (.vec d (vU (us++[eo p])),H'):=a1;have c:((us++[eo p]).length:Int)=((us.length+1:Nat):Int):=ai;have ih:=λα=>aa9 (o:=o) D r (us++[eo p]) d α H' (by rw[χ];exact y) aX a2;rw[c] at ih;rw[aG,v];simp only[go_sem,seval,g,u,f,h,t,J3 o C,(fD us.length aa),A,auf,cQ,x];refine aT (ih _ ?_ ?_ ?_ ?_) ?_
  case refine_5=>
   rintro e w oU ⟨rfl,z,b1,b2⟩;rw[adv] at b1 b2;exact⟨rfl,z,b1,b2⟩
  all_goals simp[go_sem,u,f]
noncomputable def mP(l:List Md):Except Nat (List Un):=pH (l.map eo)
def aba(b:Nat)(l:List Md)(hl:l.length<=9223372036854775807):aI prog (run gF) 17 [.vec (au b) (l.map fN)]=some (sL (mP l)):=by
 refine fk (c:=.seq _ (.seq (.seq _ (.cond _ _ _)) (.seq _ (.seq (.seq _ (.block 0 (.loop Lu))) _)))) rfl rfl func17 rfl (by rw[ntmps17];simp) (bW:=[.vec (au b) (l.map fN)]) (by simp[AV.erase,AV.bare,kF]) ?_ ?_ (NN _)
 ·show((AV.vec (au b) (l.map fN)).aq&&_)=true;rw[iE (CO l)];rfl
 by_cases h:l.length>8
 ·have d:=bJ ((l.length:Int)>8);have:mP l=.error 5:=by unfold mP pH;rw[φ,ν h]
  rw[this];simp only[go_sem,seval,ab.empty,yr,d,tK,results17];exact⟨_,rfl,rfl⟩
 ·have d:=bP ((l.length:Int)>8);simp[go_sem,ab.empty,yr,d,kZ];simp[cg];refine bL (dE (aa9 (o:=au b) (l:=l) aa l [] .nil _ _ rfl ai (.inl ⟨rfl,rfl⟩) ?_ ?_ ?_ ?_)) ?_
  case refine_5=>
   rintro _ ⟨ae,H',rfl,j,g,f⟩;simp only[aDl] at g f
   have a:=λH=>aoW j (l.map eo) g.bare (λu i=>by
    obtain⟨p,_,rfl⟩:=aDt.1 i
    exact aoX p) (by rw[φ];omega) H
   have:mP l=pH (l.map eo):=rfl;rw[this]
   cases zx:pH (l.map eo) with
   |error e=>rw[zx] at a;simp only[go_sem,seval,f,a,sL,results17];exact⟨_,rfl,rfl⟩
   |ok us=>rw[zx] at a;simp only[go_sem,seval,f,a,sL,results17];exact⟨_,rfl,rfl⟩
  all_goals simp[go_sem,]
  all_goals(try rfl)
def hU(u:Un):AV:=.agg (dU u)
def wU(us:List Un):List AV:=us.map hU
def FM(u):(hU u).width=some 14:=rfl
def E4(us:List Un):(wU us).length=us.length:=by simp[wU]
def CP(u:Un):(AV.agg (dU u)).erase=.agg (dU u):=qB _ _
def QS:∀us:List Un,AV.aq.go (wU us)=true
 |[]=>rfl
 |u::us=>by show((AV.agg (dU u)).aq&&AV.aq.go (wU us))=true;rw[show(AV.agg (dU u)).aq=true from rA u u.b2,QS us];rfl
def rS(o){us}{i:Nat}{u:Un}(h:us[i]? =some u):dC prog 24 (.vec o (wU us)) (.i i)=some (.rptr (dU u)):=oC PC IZ hU o h rfl
def aug(u:Un):cr prog 91 0 (.rptr (dU u))=some (.rptr (dU u)):=Zt _ _ _ _ _ _ _ _ _ _ _ _ _ _
def rT(u:Un):(dU u)[0]? =some (.str u.nm):=rfl
attribute [go_sem] aug
def aoZ(nm tx)(b1 b2):(kl nm tx b1 b2).nm=nm:=by
 unfold kl
 cases iW tx with
 |error q=>obtain⟨e,a⟩:=q;rfl
 |ok q=>obtain⟨l,t⟩:=q;rfl
noncomputable def xA:=f18.c.r.r.r.l.r.b.b
noncomputable def Gt:=xA.r.l.b.r.l.b.b
noncomputable def Lx:=f18.c.r.r.r.r.l.r.b.b
def ZD{o o4}{l:List Md}{acc:List Un}{i:Nat}{p:Md}(t:l[i]? =some p)(A:acc.length<=8):∀k a α H,acc=k.reverse++a->qd (eo p) acc=(pr (eo p) k).reverse++a->α 0=.vec o (l.map fN)->α 4=.vec o4 (wU acc)->α 5=.i i->α 6=.i k.length->
  aD (aJ (aO gF Gt) α H) λe g H'=>e=.exit 2/\H'=H/\g 0=.vec o (l.map fN)/\g 4=.vec o4 (wU acc)/\g 5=.i i/\∃y:Nat,y<=acc.length/\qd (eo p) acc=acc.take y++eo p::acc.drop y/\g 6=.i y
 |[],a,α,⟨n,L⟩,j,hi,d,f,h,c=>by
  have s:Gt=.seq _ _:=rfl;have q:decide (((0:Nat):Int)>0)=false:=rfl;simp at c;rw[aG,s];simp only[go_sem,seval,d,f,h,c];refine⟨aK,aK,?_,?_,?_,0,aDT _,by rw[hi,aEU,aEk,j];rfl,?_⟩;all_goals simp[go_sem]
 |y::r,a,α,⟨n,L⟩,j,hi,d,f,h,c=>by
  have s:Gt=.seq _ _:=rfl;have m:acc=r.reverse++y::a:=by rw[j];simp
  have hlen:r.length+1+a.length=acc.length:=by rw[m];simp;omega
  have q:=bJ (((r.length+1:Nat):Int)>0);have w1:IntKind.i64.wrap (((r.length+1:Nat):Int)-1)=((r.length:Nat):Int):=w8 (r.length+1) aa aa;have z:acc[r.length]? =some y:=by have:=As r.reverse y a;rw[aE4] at this;rw[m];exact this
  have w:=rS o4 z;have v:=J3 o t;have hg:=av9 (eo p).nm y.nm;have u:(eo p).nm=p.1:=aoZ _ _ _ _;rw[u] at hg;simp only[Ι] at c;have b:pr (eo p) (y::r)=if Op.bytesLess (eo p).nm y.nm=true then y::pr (eo p) r else eo p::y::r:=rfl;rw[u] at b;rw[aG,s]
  cases hc:Op.bytesLess p.1 y.nm with
  |true=>
   rw[hc] at hg b;rw[ν rfl] at b;simp only[go_sem,seval,d,f,h,c,q,w1,w,v,rT,hg];refine aT (ZD (o:=o) (o4:=o4) t A r (y::a) _ ⟨n,L⟩ m (by rw[hi,b];simp) ?_ ?_ ?_ ?_) ?_;case refine_5=>exact λe g H' x=>x
   all_goals simp[go_sem,d,f,h]
  |false=>
   rw[hc] at hg b;rw[κ ai] at b;simp only[go_sem,seval,d,f,h,c,q,w1,w,v,rT,hg];refine⟨aK,aK,?_,?_,?_,r.length+1,aa,?_,?_⟩
   case refine_4=>
    have B:r.length+1=(y::r).reverse.length:=ai;rw[hi,b];conv=>rhs;rw[j,B]
    rw[List.take_left,List.drop_left];simp
   all_goals simp[go_sem]
def auh(u)(H):dS prog 24 1 [(0,.agg (dU u))] H=some (.vec .full [.agg (dU u)],H):=by have h:=tL Cd (.agg (dU u)) (by rw[CP];rfl) (by rw[CP];rfl) aA H;rwa [CP] at h
def abb{o:Ab.Own}{l:List Md}(O:l.length<=8):∀r i acc o4 α H,l.drop i=r->i+r.length=l.length->acc.length=i->bY H 91 o4 acc.length->α 0=.vec o (l.map fN)->α 4=.vec o4 (wU acc)->α 5=.i i->
  aD (aJ (aO gF xA) α H) λe h H'=>e=.exit 0/\∃z,bY H' 91 z (gu acc (r.map eo)).length/\h 4=.vec z (wU (gu acc (r.map eo)))
 |[],i,acc,o4,α,⟨n,L⟩,j,k,B,hg,d,f,g=>by have t:xA=.seq (.seq _ _) (.seq (.block _ (.seq _ (.seq (.block _ (.loop Gt)) _))) _):=rfl;have s:=d_ (a:=i) (b:=l.length) (by simp at k;omega);rw[aG,t];simp only[go_sem,seval,d,g,yr,s];exact⟨aK,o4,hg,by simp[go_sem,f];rfl⟩
 |p::r,i,acc,o4,α,⟨n,L⟩,j,k,B,hg,d,f,g=>by
  have t:xA=.seq (.seq _ _) (.seq (.block 1 (.seq _ (.seq (.block 2 (.loop Gt)) _))) _):=rfl;simp at k;have s:=dM (a:=i) (b:=l.length) aa;have u:l[i]? =some p:=by have:=Λ (·[0]?) j;simpa using this
  have F:l.drop (i+1)=r:=by rw[<-List.drop_drop,j];rfl
  have M:(wU acc).length=acc.length:=E4 acc;rw[aG,t];simp only[go_sem,seval,d,f,g,yr,s,M];simp[cg];refine bL (dE (ZD (o:=o) (o4:=o4) (acc:=acc) (i:=i) u aa acc.reverse [] _ ⟨n,L⟩ ai (by simp[qd]) ?_ ?_ ?_ ?_)) ?_
  case refine_5=>
   rintro _ ⟨h,H',rfl,rfl,a0,a4,a5,y,w,D,a6⟩;obtain⟨A,v,p1,C,ka⟩:=Ot (m:=λ_=>false) Cd rfl FM (H:=⟨n,L⟩) (o:=.nil) .ro (es:=[]) (xs:=acc.take y) (.inl ⟨rfl,rfl⟩) aX aX;obtain⟨K,N,p2,E,kb⟩:=wA (m:=λ_=>false) Cd rfl FM .full (eo p) C aX aX;obtain⟨oc,I,p3,x,kc⟩:=Ot (m:=λ_=>false) Cd rfl FM (o6 o4 none (strOf prog 24) y) (xs:=acc.drop y) E aX aX;have q:[]++acc.take y++[eo p]++acc.drop y=qd (eo p) acc:=by rw[D];simp
   rw[q] at p3 x;have J:cj (λ_=>false) prog 24 24 (.vec .nil []) (.vec .ro ((acc.take y).map hU)) ⟨n,L⟩=some (.vec A (([]++acc.take y).map hU),v):=p1;have P:cj (λ_=>false) prog 24 24 (.vec A (([]++acc.take y).map hU)) (.vec .full [.agg (dU (eo p))]) v=some (.vec K (([]++acc.take y++[eo p]).map hU),N):=p2;simp[wU] at a4;obtain⟨nc,Lc⟩:=I;simp only[go_sem,seval,a0,a4,a5,a6,ajp Cd FM o4 acc y w,Xn Cd FM o4 acc y w,J,P,p3,J3 o u,(fD i aa),auh,cQ,kZ];have c:(qd (eo p) acc).length=i+1:=by rw[HC,B]
   refine aT (abb (o:=o) O r (i+1) (qd (eo p) acc) oc _ ⟨nc,Lc⟩ F aa c x ?_ ?_ ?_) ?_;case refine_4=>exact λe h H' G=>G
   all_goals simp[go_sem,a0]
   all_goals rfl
  all_goals simp[go_sem,d,f,g,aE4]
def ZE{us:List Un}{o:Ab.Own}(C:us.length<=8):∀r pre α H,us=pre++r->α 4=.vec o (wU us)->α 8=.i pre.length->
  aD (aJ (aO gF Lx) α H) λe p H'=>(e=.exit 4/\lP (pre.getLast?.map (·.nm)) r=0/\p 4=.vec o (wU us))\/(e=.ret/\lP (pre.getLast?.map (·.nm)) r≠0/\p 2=.vec .nil []/\p 3=.i (lP (pre.getLast?.map (·.nm)) r:Nat))
 |[],pre,α,⟨n,L⟩,g,f,c=>by have w:Lx=.seq (.seq _ _) (.seq (.block _ (.seq (.seq _ _) (.seq _ _))) _):=rfl;rw[aDi] at g;have l:(wU us).length=us.length:=E4 us;have d:=d_ (a:=pre.length) (b:=us.length) (by rw[g];exact aDF _);rw[aG,w];simp only[go_sem,↓reduceIte,Nat.reduceEqDiff,ne_eq,reduceCtorEq,f,c,l,d];refine .inl ⟨aK,rfl,?_⟩;simp only[go_sem]
 |u::r,pre,α,⟨n,L⟩,g,f,c=>by
  have w:Lx=.seq (.seq _ _) (.seq (.block _ (.seq (.seq _ _) (.seq _ _))) _):=rfl;have y:pre.length<us.length:=by rw[g];simp
  have l:(wU us).length=us.length:=E4 us;have d:=dM y;have w1:=fD pre.length aa;have s:us[pre.length]? =some u:=by rw[g];exact As _ _ _
  have k:=rS o s;have B:((pre++[u]).getLast?.map (·.nm))=some u.nm:=ai;have F:us=(pre++[u])++r:=by rw[g];simp
  have I:(((pre++[u]).length:Nat):Int)=((pre.length+1:Nat):Int):=ai;have ih:=λα=>ZE (o:=o) C r (pre++[u]) α ⟨n,L⟩ F;rw[B,I] at ih;rw[aG,w];have D:∀q,lP q (u::r)=if rq u.nm=true then(if q=some u.nm then 4 else lP (some u.nm) r) else 1:=λq=>rfl;rw[D]
  cases hn:rq u.nm with
  |false=>
   simp only[go_sem,↓reduceIte,Nat.reduceEqDiff,ne_eq,reduceCtorEq,aDX,f,c,d,k,l,rT,hn,Α,kZ];refine .inr ⟨aK,ai,?_,?_⟩;all_goals(try simp only[go_sem,])
   all_goals(try rfl)
  |true=>
   simp only[aDp];rcases List.eq_nil_or_concat pre with rfl|⟨j,v,rfl⟩
   ·have m:decide (((0:Nat):Int)>0)=false:=rfl;simp only[Χ] at c d w1 k ih;rw[κ (show ¬(Option.map (λx=>x.nm) ([]:List Un).getLast? =some u.nm) by simp)];simp only[go_sem,↓reduceIte,Nat.reduceEqDiff,Nat.reduceAdd,ne_eq,f,c,d,m,k,l,rT,hn,ω,w1];refine ih _ ?_ ?_;all_goals simp only[go_sem,↓reduceIte,Nat.reduceEqDiff,Nat.reduceAdd,f]
   ·simp only[List.concat_eq_append] at g y d w1 s k c ih⊢;have E:(j++[v]).length=j.length+1:=ai;rw[E] at y d w1 s k c ih;have m:=bJ (((j.length+1:Nat):Int)>0);have A:IntKind.i64.wrap (((j.length+1:Nat):Int)-1)=((j.length:Nat):Int):=w8 (j.length+1) aa aa;have G:us[j.length]? =some v:=by rw[g,adv];exact As _ _ _
    have z:=rS o G;have hg:(Option.map (λx=>x.nm) (j++[v]).getLast? =some u.nm)↔v.nm=u.nm:=ai
    cases hq:(u.nm==v.nm) with
    |true=>
     have t:v.nm=u.nm:=by simpa using(eq_of_beq hq).symm
     rw[ν (hg.2 t)];simp only[go_sem,↓reduceIte,Nat.reduceEqDiff,ne_eq,reduceCtorEq,aDX,f,c,d,m,k,z,l,rT,hn,hq,ω,A,kZ];refine .inr ⟨aK,ai,?_,?_⟩;all_goals(try simp only[go_sem,])
     all_goals(try rfl)
    |false=>
     have t:¬v.nm=u.nm:=λh=>by rw[h] at hq;simp at hq
     rw[κ (λh=>t (hg.1 h))];simp only[go_sem,↓reduceIte,Nat.reduceEqDiff,ne_eq,f,c,d,m,k,z,l,rT,hn,hq,ω,w1,A];refine ih _ ?_ ?_;all_goals simp only[go_sem,↓reduceIte,Nat.reduceEqDiff,f]
def Fs:Except Nat (List Un)->AV
 | .ok us=>.tup [.vec (au us.length) (wU us),.i 0]
 | .error e=>.tup [.vec .nil [],.i e]
def akb(x:Except Nat (List Un)):(Fs x).aq=true:=by
 cases x with
 |error e=>rfl
 |ok us=>show((AV.vec (au us.length) (wU us)).aq&&_)=true;rw[iE (QS us)];rfl
def aui(ko)(l:List Md)(hl:l.length<=9223372036854775807):aI prog (run gF) 18 [.vec (au ko) (l.map fN)]=some (Fs (mP l)):=by
 refine fk (c:=.seq _ (.seq (.seq _ (.cond _ _ _)) (.seq _ (.seq (.seq _ (.block 0 (.loop xA))) (.seq (.seq _ (.block 4 (.loop Lx))) _))))) rfl rfl func18 rfl (by rw[ntmps18];simp) (bW:=[.vec (au ko) (l.map fN)]) (by simp[AV.erase,AV.bare,kF]) ?_ ?_ (akb _)
 ·show((AV.vec (au ko) (l.map fN)).aq&&_)=true;rw[iE (CO l)];rfl
 by_cases f:l.length>8
 ·have b:=bJ ((l.length:Int)>8);have:mP l=.error 5:=by unfold mP pH;rw[φ,ν f]
  rw[this];simp only[go_sem,seval,ab.empty,yr,b,kZ,results18];exact⟨_,rfl,rfl⟩
 ·have b:=bP ((l.length:Int)>8);have i:mP l=if lP none (gu [] (l.map eo))=0 then .ok (gu [] (l.map eo)) else .error (lP none (gu [] (l.map eo))):=by unfold mP pH;rw[φ,κ f]
  have hlen:(gu [] (l.map eo)).length=l.length:=by rw[Hf];simp
  rw[i];simp[go_sem,ab.empty,yr,b,kZ];simp[cg];refine bL (dE (abb (o:=au ko) (l:=l) aa l 0 [] .nil _ _ rfl ai rfl (.inl ⟨rfl,rfl⟩) ?_ ?_ ?_)) ?_
  case refine_4=>
   rintro _ ⟨ae,H',rfl,k,g,j⟩;simp[go_sem];simp[cg];refine bL (mG (ZE (o:=k) (us:=gu [] (l.map eo)) aa (gu [] (l.map eo)) [] _ H' rfl ?_ ?_)) ?_
   case refine_3=>
    rintro _ ⟨e,nZ,oU,rfl,⟨rfl,a,d⟩|⟨rfl,a,d,h⟩⟩
    ·simp[aFf] at a;rw[ν a];simp only[go_sem,seval,d,results18];refine⟨_,rfl,?_⟩;simp[AV.erase,AV.bare,g.bare,Fs,au]
    ·simp[aFf] at a h;rw[κ a];simp only[go_sem,seval,d,h,results18];exact⟨_,rfl,rfl⟩
   all_goals simp[go_sem,j]
   all_goals(try rfl)
  all_goals simp[go_sem,]
  all_goals(try rfl)
def UY(m:Mp)(l)(n)(wr):(eH m l n wr).bs=m.bs:=by
 unfold eH;split
 ·rfl
 ·split<;>rfl
section
variable {Pb:Bi->Prop}
def Cf{m:Mp}(l)(n:Nd)(k item)(h:∀b∈m.bs,Pb b)(hb:Pb ⟨n.a,k,n.w,item⟩):∀b∈(fe m l n k item).bs,Pb b:=λb hm=>by
 simp only[fe] at hm;rcases Ω.1 hm with c|c
 ·exact h b c
 ·grind
def Wj(a:∀b,b.k=3\/b.k=4->Pb b)(item):∀ks m l,(∀b∈m.bs,Pb b)->∀b∈(iD item m l ks).1.bs,Pb b
 |[],m,l,h=>h
 |n::r,m,l,h=>Wj a item r _ _ (Cf l n 3 item h (a _ (.inl rfl)))
mutual
def ZF(hP:∀b,b.k=3\/b.k=4->Pb b)(item)(m:Mp)(l)(n)(h:∀b∈m.bs,Pb b):∀b∈(eJ item m l n).1.bs,Pb b:=by
 match n with
 | .mk k f t w a ks=>
  rw[eJ];by_cases lU:k=23
  ·rw[ν lU];simp[UY];exact h
  rw[κ lU];by_cases lV:k=28
  ·rw[ν lV];exact M5 hP item true m l ks h
  rw[κ lV]
  have hm:∀b∈(if k=8 then eH m l (.mk k f t w a ks) true else m).bs,Pb b:=by
   split
   ·rw[UY];exact h
   ·exact h
  have hk:=λl=>OH hP item (if k=8 then eH m l (.mk k f t w a ks) true else m) (if k=6 then .e9 false::l else l) ks;simp only;have hq:=OH hP item (if k=8 then eH m l (.mk k f t w a ks) true else m) (if k=6 then .e9 false::l else l) ks hm;by_cases h7:k=7
  ·rw[ν h7];exact Cf _ _ 4 item hq (hP _ (.inr rfl))
  rw[κ h7];by_cases h6:k=6
  ·rw[ν h6];exact hq
  ·rw[κ h6];exact hq
def OH(hP:∀b,b.k=3\/b.k=4->Pb b)(item)(m:Mp)(l)(ks)(h:∀b∈m.bs,Pb b):∀b∈(dj item m l ks).1.bs,Pb b:=by
 match ks with
 |[]=>exact h
 |n::r=>rw[dj];exact OH hP item _ _ r (ZF hP item m l n h)
def M5(hP:∀b,b.k=3\/b.k=4->Pb b)(item)(lam)(m:Mp)(l)(ks)(h:∀b∈m.bs,Pb b):∀b∈(jH item lam m l ks).bs,Pb b:=by
 match ks with
 |[p,t,b]=>rw[jH];exact ZF hP item _ _ b (Wj hP item p.ks _ _ h)
 |[]=>exact h
 |[_]=>exact h
 |[_,_]=>exact h
 |_::_::_::_::_=>exact h
end
end
def DE(ks:List Nd)(b:Bi):Prop:=1<=b.k/\b.k<=4/\(b.k=1->∃n,ks[b.item]? =some n/\n.k=2)
def auj(ks:List Nd):∀b:Bi,b.k=3\/b.k=4->DE ks b:=λb h=>⟨aa,aa,λh1=>aa⟩
def H9(ks:List Nd):∀r i m l,ks.drop i=r->(∀b∈m.bs,DE ks b)->∀b∈(dO i m l r).1.bs,DE ks b
 |[],i,m,l,c,h=>h
 |n::r,i,m,l,c,h=>by
  have f:ks[i]? =some n:=by have:=Λ (·[0]?) c;simpa using this
  have a:ks.drop (i+1)=r:=by rw[<-List.drop_drop,c];rfl
  rw[dO];split
  ·rename_i d;exact H9 ks r (i+1) _ _ a (Cf l n 1 i h ⟨ai,ai,λ_=>⟨n,f,d⟩⟩)
  ·split
   ·exact H9 ks r (i+1) _ _ a (Cf l n 2 i h ⟨ai,ai,λe=>by simp at e⟩)
   ·exact H9 ks r (i+1) _ _ a h
def ZG(ks)(l):∀r i m,(∀b∈m.bs,DE ks b)->∀b∈(gk l i m r).bs,DE ks b
 |[],i,m,h=>h
 |n::r,i,m,h=>by
  rw[gk];refine ZG ks l r (i+1) _ ?_;split
  ·exact M5 (auj ks) i false m l n.ks h
  ·exact h
def akc(n:Nd):∀b∈(iK n).bs,DE n.ks b:=by unfold iK;exact ZG n.ks _ n.ks 0 _ (H9 n.ks n.ks 0 _ _ rfl (λb hb=>by cases hb))
def ZH{c}:∀{l:List Nd} {x:Nd},eK c l=true->x∈l->wf c x=true
 |n::r,x,h,b=>by
  simp[eK] at h;rcases Ν.1 b with rfl|a
  ·exact h.1
  ·exact ZH h.2 a
def ao0{c}{l}(h:cE [c] l=true):∃y,l=[y]:=by
 cases l with
 |nil=>simp[cE] at h
 |cons y r=>
  cases r with
  |nil=>exact⟨y,rfl⟩
  |cons z r=>simp[cE] at h
def auk{n:Nd}(h:wf .item n=true)(b:n.k=2):∃y,n.ks=[y]:=by
 cases n with
 |mk k f t w a ks=>simp[Nd.k] at b;subst b;simp[wf] at h;exact ao0 h
structure GoodU(u:Un):Prop where
 dz:dz u.tr<=60
 iJ:u.mp.bs.length+u.mp.ms.length<=4000
 Tw:u.tk.length<=4000
 sa:(kQ u.mp).Nodup
 lt:∀a∈kQ u.mp,a<u.tk.length
 C0:u.tk.Pairwise λa b=>a.2.1<b.2.1
 kind:∀b∈u.mp.bs,1<=b.k/\b.k<=4
 use:∀b∈u.mp.bs,b.k=1->∃n y,u.tr.ks[b.item]? =some n/\n.ks=[y]
 aC3:fr u.tk.length u.tr=true
 wide:mx u.tr<=900000000000000000
 aS:(qb u.tr).length<=4000
 bok:∀x∈qb u.tr,x.f<u.tk.length/\∀y∈x.ks,y.f<u.tk.length
 all:(vt u.tr).length<=1000000000
def aul:dz eG<=60:=aA
def axD:mx eG<=900000000000000000:=aA
def abc(nm tx)(b1 b2):GoodU (kl nm tx b1 b2):=by
 unfold kl
 cases h:iW tx with
 |error q=>obtain⟨e,a⟩:=q;exact⟨aul,ai,ai,by simp[kQ],by simp[kQ],ai,ai,ai,rfl,axD,by show(qb eG).length<=4000;decide,λx j=>(by have s:qb eG=[]:=rfl;rw[show qb _=[] from s] at j;cases j),by show(vt eG).length<=1000000000;decide⟩
 |ok q=>
  obtain⟨l,t⟩:=q;have c:=Hv h;obtain⟨r,o⟩:=c.nodup;have hb:=akc t;refine⟨c.dp,c.iJ,c.len,r,o,c.C0,λb hm=>⟨(hb b hm).1,(hb b hm).2.1⟩,λb hm d=> ?_,?_,c.mw,c.aS,c.bok,c.all⟩
  ·obtain⟨n,m,u⟩:=(hb b hm).2.2 d;obtain⟨y,p⟩:=auk (ZH c.gd.w (Β m)) u;exact⟨n,y,m,p⟩
  ·have g:=c.gd.f;have d:=c.k;have i:=c.f
   cases t with
   |mk k f tt w a ks=>simp[Nd.k,Nd.f,Nd.ks] at d i g;subst d i;simp only[fr,g,Bool.and_true,aD7,aDs];exact .inr c.pos
def aum(p):GoodU (eo p):=abc _ _ _ _
def Bp(u v:Un):Prop:=Op.bytesLess v.nm u.nm=false
def xB(u v:Un):Prop:=Op.bytesLess u.nm v.nm=true
def axE{x y z}(h:bl x y=false)(k:bl y z=false):bl x z=false:=by
 cases c:bl x z with
 |false=>rfl
 |true=>
  cases d:bl y x with
  |true=>rw[zR d c] at k;cases k
  |false=>have:=EU h d;subst this;rw[c] at k;cases k
def UZ(x:Un):∀{l:List Un},l.Pairwise (λa b=>Bp b a)->(pr x l).Pairwise (λa b=>Bp b a)
 |[],h=>by simp[pr]
 |y::r,h=>by
  rw[aDZ] at h;unfold pr
  cases hc:Op.bytesLess x.nm y.nm with
  |true=>
   rw[ν rfl,aDZ];refine⟨λz c=> ?_,UZ x h.2⟩;rcases NM c with rfl|c
   ·exact Nv hc
   ·exact h.1 z c
  |false=>
   rw[κ ai,aDZ];refine⟨λz c=> ?_,aDZ.2 h⟩;rcases Ν.1 c with rfl|c
   ·exact hc
   ·exact axE hc (h.1 z c)
def afi(x){l}(h:l.Pairwise Bp):(qd x l).Pairwise Bp:=by unfold qd;rw[List.pairwise_reverse];exact UZ x (List.pairwise_reverse.2 h)
def Ut:∀r acc,acc.Pairwise Bp->(gu acc r).Pairwise Bp
 |[],acc,h=>h
 |x::r,acc,h=>Ut r _ (afi x h)
def Vz:∀r q,lP (some q.nm) r=0->(q::r).Pairwise Bp->(q::r).Pairwise xB
 |[],q,h,b=>by simp
 |x::r,q,h,b=>by
  rw[aDZ] at b;unfold lP at h;split at h
  ·split at h
   ·cases h
   ·rename_i d;have ih:=Vz r x h b.2
    have a:bl q.nm x.nm=true:=by
     cases hc:bl q.nm x.nm with
     |true=>rfl
     |false=>exact(d (Λ some (EU hc (b.1 x as1)))).elim
    rw[aDZ];refine⟨λz c=> ?_,ih⟩;rcases Ν.1 c with rfl|c
    ·exact a
    ·exact zR a ((aDZ.1 ih).1 z c)
  ·cases h
structure Proj(us:List Un):Prop where
 pZ:∀u∈us,GoodU u
 gJ:us.Pairwise xB
 iJ:us.length<=8
def ao1{l}{us}(h:mP l=.ok us):Proj us:=by
 unfold mP pH at h;split at h
 ·cases h
 ·rename_i e;split at h
  ·rename_i a;simp at h;have d:=Ut (l.map eo) [] .nil;rw[h] at d a;refine⟨λu c=> ?_,?_,?_⟩
   ·rw[<-h] at c;rcases Hg c with b|b
    ·cases b
    ·obtain⟨p,_,rfl⟩:=aDt.1 b;exact aum p
   ·cases us with
    |nil=>exact .nil
    |cons q r=>
     unfold lP at a;split at a
     ·split at a
      ·cases a
      ·exact Vz r q a d
     ·cases a
   ·rw[<-h,Hf];simp at e⊢;omega
  ·cases h
def eO(us:List Un)(w:List UInt8):Option Un:=us.find? λu=>u.nm==w
def XL{us}(b:us.Pairwise xB){u:Un}(h:u∈us):eO us u.nm=some u:=by
 unfold eO
 induction us with
 |nil=>cases h
 |cons x r ih=>
  rw[aDZ] at b;rw[aD1];rcases Ν.1 h with rfl|c
  ·simp
  ·have:(x.nm==u.nm)=false:=by
    cases hq:(x.nm==u.nm) with
    |false=>rfl
    |true=>have a:=b.1 u c;unfold xB at a;rw[eq_of_beq hq] at a;have:=uN u.nm;rw[show Op.bytesLess u.nm u.nm=false from this] at a;cases a
   rw[this];exact ih b.2 c
def uP{us}{w}{u:Un}(h:eO us w=some u):u∈us/\u.nm=w:=by unfold eO at h;exact⟨aD3 h,by simpa using List.find?_some h⟩
def nR(bs:List Bi)(w:List UInt8):Option Nat:=(List.range bs.length).reverse.find? λi=>match bs[i]? with|some b=>decide (b.k=2)&&(b.w==w)|none=>false
def xb:List AV->Option (List Bi)
 |[]=>some []
 | .agg [.int .i64 a,.int .i64 k,.str l,.int .i64 i]::r=>if 0<=a/\0<=k/\0<=i then an (xb r) λzs=>some (⟨a.toNat,k.toNat,l,i.toNat⟩::zs) else none
 |_::_=>none
def adB:Ab.Own->Bool
 | .nil=>true
 |_=>false
def vd:ck:=λf args H=>
 if f=135 then
  match args with
  |[.agg [_,_,_,_,_,_,_,_,_,.vec o es,_,_,_,_],.str w]=>if es.length*40<=140737488351232/\(!es.isEmpty||adB o)=true then an (xb es) λbs=>some (.i (dQ (nR bs w)),H) else none
  |_=>none
 else none
def t_{T:Type}(f0:FuncId)(rest:List AV->Bool)(s:Nat)(dec:List AV->Option (List T))(enc:T->List AV)(gJ:List T->List T):ck:=λf args H=>
 if f=f0 then
  match args with
  | .vec _ es::r=>if es.length<=1/\rest r=true then some (.tup [],H) else none
  | .sl id b off n::r=>
   if b=s/\off=0/\rest r=true/\n<=1099511627776 then
    match H.get id with
    |some (.row m et a cs)=>if a=s/\m=n then an (dec cs) λl=>if l.length=n then some (.tup [],H.set id (.row m et s ((gJ l).flatMap enc))) else none else none
    |_=>none
   else none
  |_=>none
 else none
def yK(g:FuncId):List AV->Bool
 |[.fn (.func g') [] []]=>g'==g
 |_=>false
def wO:List AV->Option (List Int)
 |[]=>some []
 | .int .i64 n::r=>an (wO r) λl=>some (n::l)
 |_::_=>none
abbrev Sp:=List UInt8×Int
def qU(x:Sp):List AV:=[.str x.1,.i x.2]
def ub:List AV->Option (List Sp)
 |[]=>some []
 | .str w::.int .i64 n::r=>an (ub r) λl=>some ((w,n)::l)
 |_=>none
abbrev Fi:=List UInt8×Int×Int
def fiC(x:Fi):List AV:=[.str x.1,.i x.2.1,.i x.2.2]
def kE(x y:Sp):Bool:=Op.bytesLess x.1 y.1||((x.1==y.1)&&decide (x.2<y.2))
def R8(x y:Int×Int):Bool:=decide (x.1<y.1)||(decide (x.1=y.1)&&decide (x.2<y.2))
def oX(x y:Fi):Bool:=Op.bytesLess x.1 y.1||((x.1==y.1)&&R8 x.2 y.2)
def vA(l:List Int):List Int:=l.mergeSort λx y=>decide (x<=y)
def rU(l:List Sp):List Sp:=l.mergeSort λx y=> !kE y x
def uZ:ck:=t_ 57 (·.isEmpty) 1 wO (λn=>[.i n]) vA
def Cx:ck:=t_ 114 (yK 115) 2 ub qU rU
def mQ(m:Mp):Prop:=∀x∈m.ms,∀j,x.to=some j->j<m.bs.length
def NO{bs:List Bi}{w}:∀{l:List RN} {bD i f},me bs w l bD=some (i,f)->i<bs.length
 | .e9 lam::r,bD,i,f,h=>NO (l:=r) (by simpa[me] using h)
 | .nm k::r,bD,i,f,h=>by
  rw[me] at h;split at h
  ·rename_i a;cases h;unfold jd at a;split at a
   ·rename_i b hb;exact(ο.1 hb).1
   ·cases a
  ·exact NO h
def VA{m:Mp}(l)(n:Nd)(wr)(h:mQ m):mQ (eH m l n wr):=by
 have key:∀y:Me,(∀j,y.to=some j->j<m.bs.length)->∀bad,mQ ⟨m.bs,m.ms++[y],bad⟩:=λy d bad x e j a=>by
  rcases Ω.1 e with b|b
  ·exact h x b j a
  ·rw[Μ] at b;subst b;exact d j a
 unfold eH;split
 ·exact key _ (λj a=>by cases a) _
 ·rename_i i bD c;have hi:=NO c;split
  ·exact key _ (λj a=>by cases a;exact hi) _
  ·exact key _ (λj a=>by cases a;exact hi) _
def H_{m:Mp}(l)(n:Nd)(k item)(h:mQ m):mQ (fe m l n k item):=λx b j a=>by have:=h x b j a;simp only[fe,χ,Ι,Χ];omega
def Wk(item):∀ks m l,mQ m->mQ (iD item m l ks).1
 |[],m,l,h=>h
 |n::r,m,l,h=>Wk item r _ _ (H_ l n 3 item h)
mutual
def ZI(item)(m:Mp)(l)(n)(h:mQ m):mQ (eJ item m l n).1:=by
 match n with
 | .mk k f t w a ks=>
  rw[eJ];by_cases lU:k=23
  ·rw[ν lU];exact VA _ _ _ h
  rw[κ lU];by_cases lV:k=28
  ·rw[ν lV];exact Wl item true m l ks h
  rw[κ lV]
  have hm:mQ (if k=8 then eH m l (.mk k f t w a ks) true else m):=by
   split
   ·exact VA _ _ _ h
   ·exact h
  have hq:=ZJ item (if k=8 then eH m l (.mk k f t w a ks) true else m) (if k=6 then .e9 false::l else l) ks hm;simp only;by_cases h7:k=7
  ·rw[ν h7];exact H_ _ _ 4 item hq
  rw[κ h7];by_cases h6:k=6
  ·rw[ν h6];exact hq
  ·rw[κ h6];exact hq
def ZJ(item)(m:Mp)(l)(ks)(h:mQ m):mQ (dj item m l ks).1:=by
 match ks with
 |[]=>exact h
 |n::r=>rw[dj];exact ZJ item _ _ r (ZI item m l n h)
def Wl(item)(lam)(m:Mp)(l)(ks)(h:mQ m):mQ (jH item lam m l ks):=by
 match ks with
 |[p,t,b]=>rw[jH];exact ZI item _ _ b (Wk item p.ks _ _ h)
 |[]=>exact h
 |[_]=>exact h
 |[_,_]=>exact h
 |_::_::_::_::_=>exact h
end
def Ia:∀r i m l,mQ m->mQ (dO i m l r).1
 |[],i,m,l,h=>h
 |n::r,i,m,l,h=>by
  rw[dO];split
  ·exact Ia r (i+1) _ _ (H_ l n 1 i h)
  ·split
   ·exact Ia r (i+1) _ _ (H_ l n 2 i h)
   ·exact Ia r (i+1) _ _ h
def ZK(l):∀r i m,mQ m->mQ (gk l i m r)
 |[],i,m,h=>h
 |n::r,i,m,h=>by
  rw[gk];refine ZK l r (i+1) _ ?_;split
  ·exact Wl i false m l n.ks h
  ·exact h
def akd(n:Nd):mQ (iK n):=by unfold iK;exact ZK _ n.ks 0 _ (Ia n.ks 0 _ _ (λx a=>by cases a))
def Bq(ks:List Nd)(b:Bi):Prop:=b.k=2->∃n,ks[b.item]? =some n
def aun(ks:List Nd):∀b:Bi,b.k=3\/b.k=4->Bq ks b:=λb h h2=>by omega
def Ib(ks:List Nd):∀r i m l,ks.drop i=r->(∀b∈m.bs,Bq ks b)->∀b∈(dO i m l r).1.bs,Bq ks b
 |[],i,m,l,c,h=>h
 |n::r,i,m,l,c,h=>by
  have e:ks[i]? =some n:=by have:=Λ (·[0]?) c;simpa using this
  have a:ks.drop (i+1)=r:=by rw[<-List.drop_drop,c];rfl
  rw[dO];split
  ·exact Ib ks r (i+1) _ _ a (Cf l n 1 i h (λd=>by simp at d))
  ·split
   ·exact Ib ks r (i+1) _ _ a (Cf l n 2 i h (λ_=>⟨n,e⟩))
   ·exact Ib ks r (i+1) _ _ a h
def ZL(ks)(l):∀r i m,(∀b∈m.bs,Bq ks b)->∀b∈(gk l i m r).bs,Bq ks b
 |[],i,m,h=>h
 |n::r,i,m,h=>by
  rw[gk];refine ZL ks l r (i+1) _ ?_;split
  ·exact M5 (aun ks) i false m l n.ks h
  ·exact h
def ake(n:Nd):∀b∈(iK n).bs,Bq n.ks b:=by unfold iK;exact ZL n.ks _ n.ks 0 _ (Ib n.ks n.ks 0 _ _ rfl (λb hb=>by cases hb))
def auo{l}(h:p_ l){t:Nd}(b:jj l=.ok t):∀a∈kQ (iK t),a+1<l.length:=by
 obtain⟨j,r,d,e2,k,_,heq⟩:=Ec h.ok h.ne (n:=qE l) (μ _);simp[jj,d] at b
 cases hb:j.2.err with
 |some c=>simp only[hb] at b;cases b
 |none=>
  simp[hb] at b;split at b
  ·cases b
  ·simp at b;subst b;obtain⟨_,e⟩:=gj k hb;simp[u_] at d;obtain⟨x,m,d⟩:=al d;cases d;simp only at hb e;obtain⟨_,hU,g⟩:=Eo m hb;obtain⟨_,i⟩:=g (.nil _ _ _ _);intro a f;have:=(UR (n:=.mk 1 0 x.2.at_ [] 0 x.1) i).2 a f;omega
structure ve(u:Un):Prop extends GoodU u where
 low:∀a∈kQ u.mp,a+1<u.tk.length
 ap:u.tk=[]\/wL u.tk
 tos:mQ u.mp
 its:∀b∈u.mp.bs,Bq u.tr.ks b
def agb{s}{l:List Tok}{t:Nd}(h:iW s=.ok (l,t)):lex s=.ok l/\jj l=.ok t:=by
 unfold iW at h
 cases hx:lex s with
 |error p=>rw[hx] at h;cases h
 |ok a=>
  rw[hx] at h;simp only at h
  cases hp:jj a with
  |error p=>rw[hp] at h;cases h
  |ok t'=>rw[hp] at h;simp at h;obtain⟨rfl,rfl⟩:=h;exact⟨rfl,hp⟩
def aup(nm tx)(b1 b2):ve (kl nm tx b1 b2):=by
 have c:=abc nm tx b1 b2;unfold kl at c⊢
 cases h:iW tx with
 |error q=>obtain⟨e,a⟩:=q;rw[h] at c;exact⟨c,λa f=>by simp[kQ] at f,.inl rfl,λx i=>by simp at i,λb hb=>by simp at hb⟩
 |ok q=>obtain⟨l,t⟩:=q;rw[h] at c;obtain⟨d,g⟩:=agb h;exact⟨c,auo (En d) g,.inr (agZ d),akd t,ake t⟩
def auq(p):ve (eo p):=aup _ _ _ _
structure jV(us:List Un):Prop extends Proj us where
 vf:∀u∈us,ve u
def akf{l}{us}(h:mP l=.ok us):jV us:=by
 refine⟨ao1 h,?_⟩;unfold mP pH at h;split at h
 ·cases h
 ·split at h
  ·simp at h;intro u b;rw[<-h] at b;rcases Hg b with a|a
   ·cases a
   ·obtain⟨p,_,rfl⟩:=aDt.1 a;exact auq p
  ·cases h
end Go.Proofs.YtmehamiifalmaaaGreatDoor
namespace Go.Proofs.YtmehamiifalmaaaGreatDoor
open Go Go.Ab Go.RowKit Go.Proofs.Tryz
structure sb{T:Type}(enc:T->List AV)(fS:T->List Value)(s:Nat):Prop where
 len:∀x,(enc x).length=s
 one:∀x,∀u∈fS x,u.oneCell'=true
 oT:∀σ x,aw σ (enc x) (fS x)
 uniq:∀σ x us,aw σ (enc x) us->us=fS x
def XM{σ}:∀{cs ds:List AV} {us:List Value},aw σ (cs++ds) us->∃u v,us=u++v/\aw σ cs u/\aw σ ds v
 |[],_,us,h=>⟨[],us,rfl,by simp[aw],h⟩
 |c::cs,ds,us,h=>by simp[aw] at h;obtain⟨u,r,rfl,d,e⟩:=h;obtain⟨a,b,rfl,g,f⟩:=XM e;exact⟨u::a,b,rfl,by simp only[aw];exact⟨u,a,rfl,d,g⟩,f⟩
section
variable {T:Type} {enc:T->List AV} {fS:T->List Value} {s:Nat}
def sb.A7(e:sb enc fS s)(x:T):(fS x).length=s:=by rw[(e.oT ⟨λ_ _=>none,λ_=>none,λ_ _=>none⟩ x).length,e.len]
def wm{A:Type}{f:T->List A}(h:∀x,(f x).length=s):∀l:List T,(l.flatMap f).length=l.length*s
 |[]=>by simp
 |x::l=>by rw[ap1,χ,wm h l,h,Ι,aDJ,aFE,aD6]
def sb.adC(e:sb enc fS s)(σ):∀l:List T,aw σ (l.flatMap enc) (l.flatMap fS)
 |[]=>by simp[aw]
 |x::l=>aw.append (e.oT σ x) (sb.adC e σ l)
def sb.acy(e:sb enc fS s)(σ):∀(l:List T) (us:List Value),aw σ (l.flatMap enc) us->us=l.flatMap fS
 |[],us,h=>by simpa[aw] using h
 |x::l,us,h=>by obtain⟨u,v,rfl,a,b⟩:=XM h;rw[e.uniq σ x u a,sb.acy e σ l v b,ap1]
def sb.aBj(e:sb enc fS s)(l:List T):∀u∈l.flatMap fS,u.oneCell'=true:=λu a=>by obtain⟨x,_,b⟩:=aFq.1 a;exact e.one x u b
def OI{E}(y:ia E){f0}{rest}{dec}{gJ}{rv}(e:sb enc fS s)(hc:kG E.P f0)(z:∀l,(gJ l).length=l.length)
  (Q:∀o es r H,es.length<=1->rest r=true->run E f0 (.vec o es::r) H=some (.tup [],H))
  (M:∀l cs,dec cs=some l->cs=l.flatMap enc) (Z:∀σ r us,rest r=true->aw σ r us->us=rv)
  (t:∀(b cap) (l:List T) (c:Array Value) (et) (w:World),w.heap[b]? =some (.cells c et (0,0))->c.toList.take (l.length*s)=l.flatMap fS->l.length*s<=c.size->l.length<=1099511627776->
   Calls E.P f0 (Value.slice (some ⟨b,0,none⟩) l.length cap::rv).toArray w λe w'=>e=.returned (.tuple #[])/\Below w.heap.size (w.setRow b ((gJ l).flatMap fS++c.toList.drop (l.length*s)).toArray) w'):
  dN E.P (t_ f0 rest s dec enc gJ):=by
 intro f args H v H' a;unfold t_ at a;split at a
 ·rename_i X;subst X;split at a
  ·rename_i o es r;split at a
   ·rename_i d;cases a;exact G4 y f _ H _ _ (Q o es r H d.1 d.2)
   ·cases a
  ·rename_i id s' off n r;split at a
   ·rename_i d;obtain⟨rfl,rfl,p,yW⟩:=d;split at a
    ·rename_i m et g cs hg;split at a
     ·rename_i d;obtain⟨rfl,rfl⟩:=d
      cases hp:dec cs with
      |none=>simp[hp,an] at a
      |some l=>
       simp only[hp,an] at a;split at a
       ·rename_i k;cases a;refine⟨hc,?_⟩;intro B W0 σ w us K j;simp[aw] at j;obtain⟨u,Y,rfl,J,x⟩:=j;have q:=Z σ r Y p x;subst q;simp only[ah] at J;obtain⟨b,cap,hb,V,rfl,lO⟩:=J;obtain⟨b',vm,c,D,G,q2,F,q4,q5,S,O,q8,N,uo,Dj,SU⟩:=K.obj id _ hg;rw[hb] at D;cases D;rw[V] at G;cases G;have C:cs.length=m*g:=N;have i:m*g<=c.size:=by rw[S];exact aDr _ O
        have L:c.toList.take (m*g)=l.flatMap fS:=by refine e.acy σ l _ ?_;rw[<-(M l cs hp)];exact uo
        have W:0+((gJ l).flatMap enc).length<=cs.length:=by rw[wm e.len,z,k,C];omega
        obtain⟨b2,aAl,c2,I,_,h,_,A⟩:=K.Ye (o:=0) hg (e.adC σ (gJ l)) (e.aBj (gJ l)) W;rw[hb] at I;cases I;rw[F] at h;cases h;simp;rw[<-k] at L i⊢;refine(t b cap l c et w F L i aa).mono ?_;rintro e' w' ⟨rfl,jk⟩;refine⟨_,rfl,σ,Ext.refl B σ,?_,by simp[ah,aw]⟩;have y:(c.toList.take 0++(gJ l).flatMap fS++c.toList.drop (0+((gJ l).flatMap fS).length)).toArray=((gJ l).flatMap fS++c.toList.drop (l.length*g)).toArray:=by rw[aDz,wm e.A7,z,aEU,aDl]
        have U:eD cs 0 ((gJ l).flatMap enc)=(gJ l).flatMap enc:=by
         have t:((gJ l).flatMap enc).length=cs.length:=by rw[wm e.len,z,C,k]
         simp[eD,t]
        rw[y,U] at A;rw[k];refine A.under ?_;have R:(w.setRow b ((gJ l).flatMap fS++c.toList.drop (l.length*g)).toArray).heap.size=w.heap.size:=by simp[World.setRow]
        rw[R];exact jk
       ·cases a
     ·cases a
    ·cases a
   ·cases a
  ·cases a
 ·cases a
end
end Go.Proofs.YtmehamiifalmaaaGreatDoor
