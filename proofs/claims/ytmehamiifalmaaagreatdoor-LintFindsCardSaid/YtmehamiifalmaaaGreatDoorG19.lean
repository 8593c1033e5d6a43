/- LintFinds: part 20 of its proof. -/
import Derived.Test.YtmehamiifalmaaaGreatDoorG16
import Derived.Test.YtmehamiifalmaaaGreatDoorG17
import Derived.Test.YtmehamiifalmaaaGreatDoorG11
set_option linter.all false
namespace Go.Ab
open Go
def auR(v:AV):v.bare.bare=v.bare:=by
 cases v with
 |vec o es=>cases o<;>rfl
 |_=>rfl
def X'(l:List AV):(l.map AV.bare).map AV.bare=l.map AV.bare:=by rw[aGC];exact aEN λx _=>auR x
def apt(v:AV):v.erase.erase=v.erase:=by
 cases v with
 |agg cs=>simp only[AV.erase,X']
 |tup cs=>
  simp only[AV.erase,aGC];congr 1;refine aEN λx _=> ?_
  cases x with
  |agg ds=>simp only[Function.comp,X']
  |vec o es=>cases o<;>rfl
  |_=>rfl
 |vec o es=>cases o<;>rfl
 |_=>rfl
def HZ(P)(c)(f)(args:List AV):aK P c f (args.map AV.erase)=aK P c f args:=by
 have:(args.map AV.erase).map AV.erase=args.map AV.erase:=by rw[aGC];exact aEN λx _=>apt x
 unfold aK;rw[this]
noncomputable def aM(E:Env)(fs:List FuncId):cu:=λf args H=>if fs.contains f=true then an (aK E.P (run E) f args) λv=>some (v,H) else none
def auS{E}(b:ir E){fs:List FuncId}(c:∀f,fs.contains f=true->kM E.P f):dK E.P (aM E fs):=by
 intro f args H v H' a;unfold aM at a;split at a
 ·rename_i hf
  cases h:aK E.P (run E) f args with
  |none=>rw[h] at a;cases a
  |some u=>rw[h] at a;simp[an] at a;obtain⟨rfl,rfl⟩:=a;exact⟨c f hf,MP b h H⟩
 ·cases a
def WE{P}{c}{f}{args:List AV}{v}(h:aK P c f args=some v):AV.aq.go (args.map AV.erase)=true:=by
 unfold aK at h;split at h
 ·rename_i a;exact a
 ·cases h
def ahS{F E:Env}{fs:List FuncId}{f}{args}{v:AV}(b:F.G f=false)(c:∀args H,F.ext f args H=aM E fs f args H)(hf:fs.contains f=true)(h:aK E.P (run E) f args=some v)(a:v.erase=v)(hn:v.aq=true):aK F.P (run F) f args=some v:=by have:=Am b (args:=args) (v:=v) (H:=.empty) (WE h) (by rw[c];unfold aM;rw[μ hf,HZ,h];rfl) (by rwa [a]);rwa [a] at this
def ja{F E:Env}{fs:List FuncId}{f}{args}{v:AV}(a:F.cl f=true)(c:F.G f=false)(e:∀args H,F.ext f args H=aM E fs f args H)(hf:fs.contains f=true)(h:aK E.P (run E) f args=some v)(b:v.erase=v)(d:v.aq=true)(H):dD F (run F) (.fn (.func f) [] []) args H=some (v,H):=by rw[tS a,ahS c e hf h b d];rfl
def vo{E:Env}{f}{args}{v}(a:E.cl f=true)(h:aK E.P (run E) f args=some v)(H):dD E (run E) (.fn (.func f) [] []) args H=some (v,H):=by rw[tS a,h];rfl
def rP{T:Type}{P}{t et}{n}(el:fk P t=some et)(sz:bX P et=some n)(g:T->AV)(o){l:List T}{i:Nat}{x:T}(h:l[i]? =some x)(a:(g x).width=some n):dW P t (.vec o (l.map g)) (.i i)=some (.rptr (g x).cells):=by
 have b:(l.map g)[i]? =some (g x):=by rw[aEt,h];rfl
 simp only[dW,aE5,b,el,sz,a];rw[xD,μ ⟨trivial,ah⟩]
end Go.Ab
namespace Go.Proofs.YtmehamiifalmaaaGreatDoor
open Go Go.Ab Go.Proofs.Tryz
set_option maxRecDepth 100000
set_option maxHeartbeats 8000000
def Ka:List FuncId:=[72,42,75,76,77,107,108,109,153,154,195,33,64]
noncomputable def eU:Env:={P:=prog,G:=λf=>Ka.contains f,cl:=λf=>Ka.contains f,fq:=λ_=>false,dyn:=λ_=>false,df:=λ_=>false,ext:=λ_ _ _=>none}
def apu:Ka.all (okF eU)=true:=af
def ayu:eU.P=prog:=(rfl)
attribute [go_sem] ayu
def cN{f}(a:eU.cl f=true){args}{v}(h:aK prog (run eU) f args=some v)(H):bu eU f args H=some (v,H):=vo a h H
noncomputable def aCj(f:FuncId)(p:UInt8->Bool):Bool:=(List.range 256).all λn=>match aK prog (eL eU 30) f [.int .u8 (n:Nat)] with
 |some (.bool x)=>x==p (UInt8.ofNat n)
 |_=>false
def Iv{f}{p:UInt8->Bool}(h:aCj f p=true)(b:UInt8):aK prog (run eU) f [.int .u8 b.toNat]=some (.bool (p b)):=by
 have a:=aEi.1 h b.toNat (aER.2 b.toNat_lt);revert a
 cases hc:aK prog (eL eU 30) f [.int .u8 b.toNat] with
 |none=>intro a;cases a
 |some v=>
  cases v<;>intro a<;>try(cases a;done)
  rename_i x;simp[aGO] at a;rw[<-a];exact AR 30 hc
def abH(b:UInt8):aK prog (run eU) 107 [.int .u8 b.toNat]=some (.bool (isLet b)):=Iv rfl b
def auT(b:UInt8):aK prog (run eU) 109 [.int .u8 b.toNat]=some (.bool (jz b)):=Iv rfl b
def auU(b:UInt8):aK prog (run eU) 77 [.int .u8 b.toNat]=some (.bool (isLet b)):=Iv rfl b
def ac5(b:UInt8):aK prog (run eU) 76 [.int .u8 b.toNat]=some (.bool (jz b)):=Iv rfl b
def SA(l:List (List UInt8)):List AV:=l.map .str
def JL(l:List (List UInt8)):(SA l).length=l.length:=by simp[SA]
def KP(o){l}{i:Nat}{x:List UInt8}(h:l[i]? =some x):dW prog 66 (.vec o (SA l)) (.i i)=some (.rptr [.str x]):=rP AU ki AV.str o h rfl
def LX{s}{i:Nat}{b:UInt8}(h:s[i]? =some b):mI prog 9 (.str s) (.i i)=some (.int .u8 b.toNat):=by simp[mI,aa6,h]
def aCk(x y):jM .eql x y=some (.bool (x==y)):=(rfl)
def aCl(x y):jM .neq x y=some (.bool (!(x==y))):=(rfl)
def aCm(x y):jM .lss x y=some (.bool (Op.bytesLess x y)):=(rfl)
def aCn(x y):jM .gtr x y=some (.bool (!(Op.bytesLess x y||x==y))):=(rfl)
attribute [go_sem] aCk aCl aCm aCn
noncomputable def KQ:=f195.c.r.l.r.b.b
def Z8{o:Ab.Own}{l:List (List UInt8)}(v:l.length<=16384){w:List UInt8}:∀r i α H,l.drop i=r->i<=l.length->α 0=.vec o (SA l)->α 1=.str w->α 7=.i l.length->α 8=.i i->
  aF (aL (aT eU KQ) α H) λe q H'=>(e=.exit 0/\¬w∈r)\/(e=.ret/\w∈r/\∃j:Nat,q 4=.i j)
 |[],i,α,⟨n,L⟩,f,hi,h,g,h7,d=>by
  have m:KQ=.seq _ (.seq _ (.seq (.block _ (.seq _ (.seq _ _))) _)):=rfl;have p:i=l.length:=by have:=aED.1 f;omega
  subst p;have k:=dY (aEu l.length);rw[aJ,m];simp only[go_sem,seval,h7,d,k];exact .inl ⟨aI,ah⟩
 |x::r,i,α,⟨n,L⟩,f,hi,h,g,h7,d=>by
  have m:KQ=.seq _ (.seq _ (.seq (.block _ (.seq _ (.seq _ _))) _)):=rfl;have t:l[i]? =some x:=by have:=Ι (·[0]?) f;simpa using this
  have p:i<l.length:=(φ.1 t).1;have y:l.drop (i+1)=r:=by rw[<-List.drop_drop,f];rfl
  have k:=ec p;have s:=KP o t;rw[aJ,m]
  cases hq:(w==x) with
  |true=>
   have:w=x:=by simpa using hq
   subst this;simp only[go_sem,seval,h,g,h7,d,k,s,hq];exact .inr ⟨aI,Ρ,i,by simp[go_sem]⟩
  |false=>
   have u:w≠x:=λe=>by subst e;simp at hq
   simp only[go_sem,seval,h,g,h7,d,k,s,hq,(o8 (n:=i) aa)];refine aW ((λα=>Z8 (o:=o) v (w:=w) r (i+1) α ⟨n,L⟩ y aa) _ ?_ ?_ ?_ ?_) ?_
   case refine_5=>
    rintro e q H' (⟨a,b⟩|⟨a,b,c⟩)
    ·exact .inl ⟨a,λhm=>(Υ.1 hm).elim u b⟩
    ·exact .inr ⟨a,Κ _ b,c⟩
   all_goals simp[go_sem,h,g,h7]
def akD(l:List (List UInt8))(w)(a:l.length<=16384):∃z:Int,aK prog (run eU) 195 [.vec .ro (SA l),.str w]=some (.i z)/\decide (z≥0)=l.contains w:=by
 suffices hh:∃v,aK prog (run eU) 195 [.vec .ro (SA l),.str w]=some v/\∃z:Int,v=.i z/\decide (z≥0)=l.contains w by obtain⟨v,h,z,rfl,d⟩:=hh;exact⟨z,h,d⟩
 refine yl (c:=.seq _ (.seq (.seq _ (.block 0 (.loop KQ))) _)) rfl rfl func195 rfl (by rw[ntmps195];simp) (bE:=[.vec .ro (SA l),.str w]) rfl ?_ ?_
 ·have:∀l:List (List UInt8),AV.aq.go (SA l)=true:=λl=>by
   induction l with
   |nil=>rfl
   |cons x l ih=>show(true&&AV.aq.go (SA l))=true;rw[ih];rfl
  show(AV.aq.go (SA l)&&_)=true;rw[this];rfl
 simp only[go_sem,seval,JL,ab.empty];simp only[bW];refine bz (oW (Z8 (o:=.ro) (w:=w) a l 0 _ _ rfl aa ?_ ?_ ?_ ?_)) ?_
 case refine_5=>
  rintro _ ⟨e,ae,H',rfl,⟨rfl,hm⟩|⟨rfl,hm,j,b⟩⟩
  ·simp only[go_sem,seval,results195];refine⟨_,_,_,rfl,rfl, -1,rfl,?_⟩
   have:l.contains w=false:=by
    cases hc:l.contains w with
    |false=>rfl
    |true=>exact(hm (aEs.1 hc)).elim
   rw[this];rfl
  ·simp only[go_sem,seval,b,results195];refine⟨_,_,_,rfl,rfl,j,rfl,?_⟩;rw[aEs.2 hm];exact bH _
 all_goals simp[go_sem]
 all_goals(try rfl)
def afV(l:List (List UInt8))(w)(b:l.length<=16384):aK prog (run eU) 153 [.vec .ro (SA l),.str w]=some (.bool (l.contains w)):=by
 obtain⟨z,a,d⟩:=akD l w b;refine qy (c:=.seq _ (.seq _ _)) rfl rfl func153 rfl (by rw[ntmps153];simp) (bE:=[.vec .ro (SA l),.str w]) rfl ?_ ?_ rfl rfl
 ·exact WE a
 ·simp[go_sem,ab.empty,cN rfl a,d,results153]
def apv:aK prog (run eU) 154 []=some (.vec .ro (SA xp)):=AR 30 (PQ rfl)
def akE(w):aK prog (run eU) 108 [.str w]=some (.bool (isKey w)):=by refine qy (c:=.seq _ (.seq _ _)) rfl rfl func108 rfl (by rw[ntmps108];simp) (bE:=[.str w]) rfl rfl ?_ rfl rfl;simp only[go_sem,seval,ab.empty,cN rfl apv,(cN rfl (afV xp w aA)),results108];rfl
def rQ(s:List UInt8):Bool:=match s with
 |[]=>false
 |b::_=>decide (s.length<=40)&&isLet b&& !isKey s&&s.all bp
def Vh(b)(r):rQ (b::r)=(decide ((b::r).length<=40)&&isLet b&& !isKey (b::r)&&(b::r).all bp):=(rfl)
def Ya(w):([[117,115,101],[100,101,102],[108,101,116],[105,102],[101,108,115,101],[119,104,105,108,101],[112,114,105,110,116],[114,101,116,117,114,110],[102,110],[105,110,112,117,116],[105,110,116],[115,116,114],[100,121,110]]:List (List UInt8)).contains w=isKey w:=by
 rw[isKey,aE7];simp[aEs,xp];constructor
 ·grind
 ·grind
def FQ:List (List UInt8):=[[117,115,101],[100,101,102],[108,101,116],[105,102],[101,108,115,101],[119,104,105,108,101],[112,114,105,110,116],[114,101,116,117,114,110],[102,110],[105,110,112,117,116],[105,110,116],[115,116,114],[100,121,110]]
noncomputable def R75:=f75.c.r.l
def r75(call)(α)(H):aN eU call aL R75 α H=some (.normal,λi=>if i=3 then .vec .full (SA FQ) else if i=5 then .vec .full (SA FQ) else α i,H):=by rfl
noncomputable def zV:=f75.c.r.r.l.r.b.b
def abI{l:List (List UInt8)}(q:l.length<=16384){w}:∀r i α H,l.drop i=r->i<=l.length->α 0=.str w->α 3=.vec .full (SA l)->α 4=.i i->
  aF (aL (aT eU zV) α H) λe m H'=>(e=.exit 0/\¬w∈r)\/(e=.ret/\w∈r/\m 2=.bool true)
 |[],i,α,⟨n,L⟩,f,hi,g,h3,d=>by
  have j:zV=.seq (.seq _ _) (.seq (.block _ (.seq _ _)) _):=rfl;have k:i=l.length:=by have:=aED.1 f;omega
  subst k;have h:=dY (aEu l.length);rw[aJ,j];simp only[go_sem,seval,h3,d,h,JL];exact .inl ⟨aI,ah⟩
 |x::r,i,α,⟨n,L⟩,f,hi,g,h3,d=>by
  have j:zV=.seq (.seq _ _) (.seq (.block _ (.seq _ _)) _):=rfl;have p:l[i]? =some x:=by have:=Ι (·[0]?) f;simpa using this
  have k:i<l.length:=(φ.1 p).1;have s:l.drop (i+1)=r:=by rw[<-List.drop_drop,f];rfl
  have h:=ec k;have o:=KP .full p;rw[aJ,j]
  cases hq:(x==w) with
  |true=>
   have:x=w:=by simpa using hq
   subst this;simp only[go_sem,seval,g,h3,d,h,o,hq,JL];exact .inr ⟨aI,Ρ,by simp[go_sem,]⟩
  |false=>
   simp only[go_sem,seval,g,h3,d,h,o,hq,(o8 (n:=i) aa),JL];refine aW ((λα=>abI (l:=l) q (w:=w) r (i+1) α ⟨n,L⟩ s aa) _ ?_ ?_ ?_) ?_
   case refine_4=>
    rintro e m H' (⟨a,b⟩|⟨a,b,c⟩)
    ·grind
    ·grind
   all_goals simp[go_sem,g,h3]
def apw(w):aK prog (run eU) 75 [.str w]=some (.bool (isKey w)):=by
 refine eX (c:=.seq _ (.seq R75 (.seq (.seq _ (.block 0 (.loop zV))) _))) rfl rfl func75 rfl (by rw[ntmps75];simp) (bE:=[.str w]) rfl rfl ?_ rfl;simp[go_sem,ab.empty,r75];simp[bW];refine bz (oW (abI (w:=w) (l:=FQ) aA FQ 0 _ _ rfl aa ?_ ?_ ?_)) ?_
 case refine_4=>
  rintro _ ⟨e,ae,H',rfl,⟨rfl,hm⟩|⟨rfl,hm,a⟩⟩
  ·have:isKey w=false:=by
    rw[<-Ya]
    cases hc:(FQ.contains w) with
    |false=>exact hc
    |true=>exact(hm (aEs.1 hc)).elim
   rw[this];simp only[go_sem,seval,results75];exact⟨_,rfl,rfl⟩
  ·have:isKey w=true:=by
    rw[<-Ya];exact aEs.2 hm
   rw[this];simp only[go_sem,seval,a,results75];exact⟨_,rfl,rfl⟩
 all_goals simp[go_sem,]
 all_goals(try rfl)
def AL(b):bp b=(isLet b||jz b):=(rfl)
noncomputable def LY:=f72.c.r.r.l.r.b.b
def Qn{s:List UInt8}(k:s.length<=16384):∀r i α H,s.drop i=r->i<=s.length->α 0=.str s->α 22=.i s.length->α 23=.i i->
  aF (aL (aT eU LY) α H) λe o H'=>(e=.exit 0/\r.all bp=true)\/(e=.ret/\r.all bp=false/\o 2=.bool false)
 |[],i,α,⟨n,L⟩,d,hi,a,h3,b=>by
  have g:LY=.seq _ (.seq _ (.seq (.block _ (.seq _ (.seq _ _))) _)):=rfl;have j:i=s.length:=by have:=aED.1 d;omega
  subst j;have c:=dY (aEu s.length);rw[aJ,g];simp only[go_sem,seval,h3,b,c];first|exact .inl ⟨rfl,rfl⟩|simp
 |x::r,i,α,⟨n,L⟩,d,hi,a,h3,b=>by
  have g:LY=.seq _ (.seq _ (.seq (.block _ (.seq _ (.seq _ _))) _)):=rfl;have m:s[i]? =some x:=by have:=Ι (·[0]?) d;simpa using this
  have j:i<s.length:=(φ.1 m).1;have l:s.drop (i+1)=r:=by rw[<-List.drop_drop,d];rfl
  have c:=ec j;have h:=LX m;have w1:=o8 (n:=i) aa;have k1:=cN rfl (abH x);have k2:=cN rfl (auT x);rw[aJ,g]
  cases hq:isLet x with
  |true=>
   have ih:=λα=>Qn (s:=s) k r (i+1) α ⟨n,L⟩ l aa;have f:(x::r).all bp=r.all bp:=by simp[aEB,AL,hq]
   rw[f];simp only[go_sem,seval,a,h3,b,c,h,k1,hq,w1,ω];refine ih _ ?_ ?_ ?_;all_goals simp[go_sem,a,h3]
  |false=>
   cases hd:jz x with
   |true=>
    have ih:=λα=>Qn (s:=s) k r (i+1) α ⟨n,L⟩ l aa;have f:(x::r).all bp=r.all bp:=by simp[aEB,AL,hq,hd]
    rw[f];simp only[go_sem,seval,a,h3,b,c,h,k1,k2,hq,hd,w1,ω,χ];refine ih _ ?_ ?_ ?_;all_goals simp[go_sem,a,h3]
   |false=>
    simp only[go_sem,seval,a,h3,b,c,h,k1,k2,hq,hd,χ];refine .inr ⟨aI,?_,?_⟩
    ·simp[AL,hq,hd]
    ·grind
def apx:jM .eql [] []=some (.bool true):=(rfl)
def akF(s):aK prog (run eU) 72 [.str s]=some (.bool (rQ s)):=by
 refine eX (c:=.seq _ (.seq _ (.seq (.seq _ (.block 0 (.loop LY))) _))) rfl rfl func72 rfl (by rw[ntmps72];simp) (bE:=[.str s]) rfl rfl ?_ rfl;by_cases f:s=[]
 ·subst f;simp only[go_sem,seval,ab.empty,apx,results72];exact⟨_,rfl,rfl⟩
 ·obtain⟨b,r,j⟩:=aFW f;have d:(s==[])=false:=by simpa using f
  have g:mI prog 9 (.str s) (.i 0)=some (.int .u8 b.toNat):=LX (i:=0) (by rw[j];rfl);have k1:=cN rfl (abH b);have k2:=cN rfl (akE s);have a:rQ s=(decide (s.length<=40)&&isLet b&& !isKey s&&s.all bp):=by rw[j];exact Vh b r
  by_cases h:s.length<=40
  ·have c2:=bU ((s.length:Int)>40);rw[π h] at a
   cases hq:isLet b with
   |false=>rw[hq] at a;rw[a];simp only[go_sem,seval,ab.empty,d,c2,g,k1,hq,χ,results72];exact⟨_,rfl,rfl⟩
   |true=>
    cases hk:isKey s with
    |true=>rw[hq,hk] at a;rw[a];simp only[go_sem,seval,ab.empty,d,c2,g,k1,k2,hq,hk,ω,results72];exact⟨_,rfl,rfl⟩
    |false=>
     rw[hq,hk] at a;simp at a;rw[a];simp[go_sem,ab.empty,d,c2,g,k1,k2,hq,hk,ω];simp[bW];refine bz (oW (Qn (s:=s) aa s 0 _ _ rfl aa ?_ ?_ ?_)) ?_
     case refine_4=>
      rintro _ ⟨e,ae,H',rfl,⟨rfl,hm⟩|⟨rfl,hm,k⟩⟩
      ·rw[hm];simp only[go_sem,seval,results72];exact⟨_,rfl,rfl⟩
      ·rw[hm];simp only[go_sem,seval,k,results72];exact⟨_,rfl,rfl⟩
     all_goals simp[go_sem,]
     all_goals(try rfl)
  ·have c2:=bH ((s.length:Int)>40);rw[ξ h] at a;rw[a];simp only[go_sem,seval,ab.empty,d,c2,results72];exact⟨_,rfl,rfl⟩
noncomputable def LZ:=f42.c.r.r.l.r.b.b
def Qo{s:List UInt8}(j:s.length<=16384):∀r i α H,s.drop i=r->i<=s.length->α 0=.str s->α 3=.i i->
  aF (aL (aT eU LZ) α H) λe m H'=>(e=.exit 0/\r.all bp=true)\/(e=.ret/\r.all bp=false/\m 2=.bool false)
 |[],i,α,⟨n,L⟩,c,hi,a,h3=>by
  have f:LZ=.seq (.seq _ _) (.seq (.block _ (.seq _ _)) _):=rfl;have h:i=s.length:=by have:=aED.1 c;omega
  subst h;have b:=dY (aEu s.length);rw[aJ,f];simp only[go_sem,seval,a,h3,b];first|exact .inl ⟨rfl,rfl⟩|simp
 |x::r,i,α,⟨n,L⟩,c,hi,a,h3=>by
  have f:LZ=.seq (.seq _ _) (.seq (.block _ (.seq _ _)) _):=rfl;have l:s[i]? =some x:=by have:=Ι (·[0]?) c;simpa using this
  have h:i<s.length:=(φ.1 l).1;have k:s.drop (i+1)=r:=by rw[<-List.drop_drop,c];rfl
  have b:=ec h;have g:=LX l;have w1:=o8 (n:=i) aa;have k1:=cN rfl (auU x);have k2:=cN rfl (ac5 x);rw[aJ,f]
  cases hq:isLet x with
  |true=>
   have ih:=λα=>Qo (s:=s) j r (i+1) α ⟨n,L⟩ k aa;have d:(x::r).all bp=r.all bp:=by simp[aEB,AL,hq]
   rw[d];simp only[go_sem,seval,a,h3,b,g,k1,hq,w1,ω];refine ih _ ?_ ?_;all_goals simp[go_sem,a]
  |false=>
   cases hd:jz x with
   |true=>
    have ih:=λα=>Qo (s:=s) j r (i+1) α ⟨n,L⟩ k aa;have d:(x::r).all bp=r.all bp:=by simp[aEB,AL,hq,hd]
    rw[d];simp only[go_sem,seval,a,h3,b,g,k1,k2,hq,hd,w1,ω,χ];refine ih _ ?_ ?_;all_goals simp[go_sem,a]
   |false=>
    simp only[go_sem,seval,a,h3,b,g,k1,k2,hq,hd,χ];refine .inr ⟨aI,?_,?_⟩
    ·simp[AL,hq,hd]
    ·grind
def akG(s):aK prog (run eU) 42 [.str s]=some (.bool (rQ s)):=by
 refine eX (c:=.seq _ (.seq _ (.seq (.seq _ (.block 0 (.loop LZ))) _))) rfl rfl func42 rfl (by rw[ntmps42];simp) (bE:=[.str s]) rfl rfl ?_ rfl;by_cases g:s=[]
 ·subst g;have d:(((0:Nat):Int)==0)=true:=rfl;simp only[go_sem,seval,ab.empty,results42];exact⟨_,rfl,rfl⟩
 ·obtain⟨b,r,f⟩:=aFW g;have hlen:0<s.length:=aE3.2 g;have d:((s.length:Int)==0)=false:=by rw[aEp];omega
  have k:mI prog 9 (.str s) (.i 0)=some (.int .u8 b.toNat):=LX (i:=0) (by rw[f];rfl);have k1:=cN rfl (apw s);have k2:=cN rfl (ac5 b);have a:rQ s=(decide (s.length<=40)&&isLet b&& !isKey s&&s.all bp):=by rw[f];exact Vh b r
  by_cases j:s.length<=40
  ·have c2:=bU ((s.length:Int)>40);rw[π j] at a
   cases hk:isKey s with
   |true=>rw[hk] at a;simp at a;rw[a];simp only[go_sem,seval,ab.empty,d,c2,k1,hk,results42];exact⟨_,rfl,rfl⟩
   |false=>
    cases hd:jz b with
    |true=>
     have l:isLet b=false:=by exact OV hd
     rw[l] at a;rw[a];simp only[go_sem,seval,ab.empty,d,c2,k,k1,k2,hk,hd,χ,results42];exact⟨_,rfl,rfl⟩
    |false=>
     have a:rQ s=s.all bp:=by
      rw[a,hk,f]
      cases h:isLet b with
      |true=>rfl
      |false=>simp[aEB,AL,h,hd]
     rw[a];simp[go_sem,ab.empty,d,c2,k,k1,k2,hk,hd];simp[bW];refine bz (oW (Qo (s:=s) aa s 0 _ _ rfl aa ?_ ?_)) ?_
     case refine_3=>
      rintro _ ⟨e,ae,H',rfl,⟨rfl,hm⟩|⟨rfl,hm,m⟩⟩
      ·rw[hm];simp only[go_sem,seval,results42];exact⟨_,rfl,rfl⟩
      ·rw[hm];simp only[go_sem,seval,m,results42];exact⟨_,rfl,rfl⟩
     all_goals simp[go_sem,]
     all_goals(try rfl)
  ·have c2:=bH ((s.length:Int)>40);rw[ξ j] at a;rw[a];simp only[go_sem,seval,ab.empty,d,c2,results42];exact⟨_,rfl,rfl⟩
def qe(a b:List UInt8):Int:=if Op.bytesLess a b=true then-1 else if a=b then 0 else 1
def ac6(a):aK prog (run eU) 64 [.str a]=some (.bool false):=by refine qy (c:=.seq _ (.seq _ _)) rfl rfl func64 rfl (by rw[ntmps64];simp) (bE:=[.str a]) rfl rfl ?_ rfl rfl;have h:(a==a)=true:=ah;simp[go_sem,ab.empty,h,ω,results64]
def ac7(a b):aK prog (run eU) 33 [.str a,.str b]=some (.i (qe a b)):=by
 have k1:=cN rfl (ac6 a);have k2:=cN rfl (ac6 b);refine eX (c:=.seq _ (.seq _ (.seq _ (.seq _ (.seq _ _))))) rfl rfl func33 rfl (by rw[ntmps33];simp) (bE:=[.str a,.str b]) rfl rfl ?_ rfl
 cases hl:Op.bytesLess a b with
 |true=>simp only[go_sem,seval,ab.empty,k1,k2,hl,results33];refine⟨_,rfl,?_⟩;simp[qe,hl,AV.erase,AV.bare]
 |false=>
  by_cases d:a=b
  ·subst d;have h:(a==a)=true:=ah;simp only[go_sem,seval,ab.empty,k1,hl,h,aFr,ω,results33];refine⟨_,rfl,?_⟩;simp[qe,hl,AV.erase,AV.bare]
  ·have h:(a==b)=false:=by simpa using d
   simp only[go_sem,seval,ab.empty,k1,k2,hl,h,aFr,χ,results33];refine⟨_,rfl,?_⟩;simp[qe,hl,d,AV.erase,AV.bare]
structure Un where
 nm:List UInt8
 tx:List UInt8
 tk:List Tok
 tr:Nd
 mp:Mp
 b1:List (Nat×Nat)
 b2:List (Nat×Nat)
 er:Nat
 at_:Nat
def tc(n:Nd):aB n=[.i n.k,.i n.f,.i n.t,.str n.w,.i n.a,.vec (if n.ks.isEmpty then .nil else .ro) (br n.ks)]:=by cases n;rfl
def pG(u:Un)(bad:List (Nat×Nat)):List AV:=[.str u.nm,.str u.tx,.vec (aD u.tk.length) (V u.tk),.i u.tr.k,.i u.tr.f,.i u.tr.t,.str u.tr.w,.i u.tr.a,.vec (if u.tr.ks.isEmpty then .nil else .ro) (br u.tr.ks),.vec (aD u.mp.bs.length) (u.mp.bs.map bg),.vec (aD u.mp.ms.length) (u.mp.ms.map ck),.vec (aD bad.length) (cO bad),.i u.er,.i u.at_]
def xF(u:Un):AV:=.agg (pG u u.b1)
def TM(u:Un):AV:=.agg (pG u u.b2)
def lB(nm tx:List UInt8)(b1 b2:List (Nat×Nat)):Un:=match jP tx with
 | .error (e,a)=>⟨nm,tx,[],dR,⟨[],[],[]⟩,[],[],e,a⟩
 | .ok (l,t)=>⟨nm,tx,l,t,jN t,b1,b2,0,0⟩
def Ot:∀l:List Nd,AV.aq.go (br l)=true
 |[]=>rfl
 |x::l=>by show((aw x).aq&&AV.aq.go (br l))=true;rw[iL x,Ot l];rfl
def jO{n}{l}(h:AV.aq.go l=true):(AV.vec (aD n) l).aq=true:=by unfold aD;split<;>simp[AV.aq,h]
def qJ(u)(bad):(AV.agg (pG u bad)).aq=true:=by
 have h5:(AV.vec (if u.tr.ks.isEmpty then .nil else .ro) (br u.tr.ks)).aq=true:=by cases u.tr.ks.isEmpty<;>simp[AV.aq,Ot]
 show AV.aq.go (pG u bad)=true;simp only[pG,AV.aq.go,jO (n:=u.tk.length) (zo u.tk),jO (n:=u.mp.bs.length) (go_bi u.mp.bs),jO (n:=u.mp.ms.length) (go_me u.mp.ms),jO (n:=bad.length) (go_ba bad),h5,Bool.and_true];rfl
def oq(n):(aD n).bare=aD n:=by unfold aD;split<;>rfl
def Ou(b):(if b=true then Ab.Own.nil else Ab.Own.ro).bare=if b=true then Ab.Own.nil else Ab.Own.ro:=by cases b<;>rfl
def oE(u)(bad):(AV.agg (pG u bad)).erase=AV.agg (pG u bad):=by simp only[pG,AV.erase,aEv,aFy,AV.bare,oq,Ou]
def Ps(m)(bad):(mapA m bad).erase=mapA m bad:=by simp[mapA,AV.erase,AV.bare,oq]
def Yb(x:Except (Nat×Nat) (List Tok×Nd)):(rY x).erase=rY x:=by
 cases x with
 |error p=>obtain⟨e,a⟩:=p;exact IW .nil [] dR _ _
 |ok p=>obtain⟨l,t⟩:=p;exact IW .ro (V l) t _ _
noncomputable def ju:Env:={P:=prog,G:=λf=>[39,41].contains f,cl:=λf=>[39,41,67,68,73,74].contains f,fq:=λ_=>false,dyn:=λ_=>false,df:=λ_=>false,ext:=bG (aM ak [67,73]) (bG (aM bA [68]) (aM cC [74]))}
def okA:[39,41].all (okF ju)=true:=af
def ayv:ju.P=prog:=(rfl)
attribute [go_sem] ayv
def eZ{E}{fs:List FuncId}{f}(h:fs.contains f=false)(args)(H):aM E fs f args H=none:=by unfold aM;rw[κ (by rw[h];simp)]
def za{a b}{f}(h:∀args H,b f args H=none)(args)(H):bG a b f args H=a f args H:=by
 unfold bG;split
 ·grind
 ·grind
def lS{a b}{f}(h:∀args H,a f args H=none)(args)(H):bG a b f args H=b f args H:=by unfold bG;rw[h]
def Z9(s)(H):bu ju 67 [.str s] H=some (rY (jP s),H):=
 ja (fs:=[67,73]) rfl rfl (za (lS (eZ rfl) · · |>.trans (eZ rfl _ _))) rfl (aBQ s) (Yb _) (Im _) H
def Z_(s)(H):bu ju 73 [.str s] H=some (rY (jP s),H):=
 ja (fs:=[67,73]) rfl rfl (za (lS (eZ rfl) · · |>.trans (eZ rfl _ _))) rfl (aBR s) (Yb _) (Im _) H
def ayw(x y z w):ij 0 (.tup [x,y,z,w])=some x:=(rfl)
def ayx(x y z w):ij 1 (.tup [x,y,z,w])=some y:=(rfl)
def ayy(x y z w):ij 2 (.tup [x,y,z,w])=some z:=(rfl)
def ayz(x y z w):ij 3 (.tup [x,y,z,w])=some w:=(rfl)
attribute [go_sem] ayw ayx ayy ayz
def auV(args)(H):ju.ext 68 args H=aM bA [68] 68 args H:=
 (lS (a:=aM ak [67,73]) (b:=bG (aM bA [68]) (aM cC [74])) (f:=68) (eZ rfl) args H).trans (za (a:=aM bA [68]) (b:=aM cC [74]) (f:=68) (eZ rfl) args H)
def auW(args)(H):ju.ext 74 args H=aM cC [74] 74 args H:=
 (lS (a:=aM ak [67,73]) (b:=bG (aM bA [68]) (aM cC [74])) (f:=74) (eZ rfl) args H).trans (lS (a:=aM bA [68]) (b:=aM cC [74]) (f:=74) (eZ rfl) args H)
section
variable {l:List Tok} {t:Nd}
def pB.kids(h:pB l t):t.ks.length<=900000000000000000/\∀x∈t.ks,db x<=300000/\mx x<=900000000000000000:=by
 have c:=h.dp;have d:=h.mw
 cases t with
 |mk k f t w a ks=>rw[s9] at c;rw[ew] at d;simp[Nd.ks];refine⟨aa,λx b=> ?_⟩;have:=sN b;have:=qC b;omega
def apy(h:pB l t):∃bad,bad.length=(jN t).bad.length/\∀H,bu ju 68 [aw t] H=some (mapA (jN t) bad,H):=by obtain⟨c,a⟩:=h.kids;have h3:=h.fT;obtain⟨v,d,bad,hb,rfl⟩:=aB5 c (λx b=>⟨by have:=(a x b).1;omega,(a x b).2⟩) ⟨aa,aa⟩;refine⟨bad,hb,λH=>ja (fs:=[68]) rfl rfl auV rfl d (Ps _ _) (CG _ _) H⟩
def apz(h:pB l t):∃bad,bad.length=(jN t).bad.length/\∀H,bu ju 74 [aw t] H=some (mapA (jN t) bad,H):=by obtain⟨a,c⟩:=h.kids;have h3:=h.fT;obtain⟨v,b,bad,hb,rfl⟩:=aCi a c ⟨aa,aa⟩;refine⟨bad,hb,λH=>ja (fs:=[74]) rfl rfl auW rfl b (Ps _ _) (CG _ _) H⟩
end
def VT{s}{e a}(h:jP s=.error (e,a)):e≠0:=by
 unfold jP at h
 cases hx:lex s with
 |error p=>rw[hx] at h;simp at h;subst h;exact Oh hx
 |ok d=>
  rw[hx] at h;simp only at h
  cases hp:kh d with
  |error p=>obtain⟨c,b⟩:=p;obtain⟨h1,_⟩:=Nj (Ii hx) hp;rw[hp] at h;simp at h;omega
  |ok t'=>rw[hp] at h;cases h
def Iw{n}(h:0<n):aD n=.ro:=by unfold aD;rw[bM]
def pk(nm tx:List UInt8):AV:=.agg [.str nm,.str tx]
def L0(a b c k f t w d e g m x y z)(n:Nd):eg [a,b,c,k,f,t,w,d,e,g,m,x,y,z] 3 (aB n)=[a,b,c,.i n.k,.i n.f,.i n.t,.str n.w,.i n.a,.vec (if n.ks.isEmpty then .nil else .ro) (br n.ks),g,m,x,y,z]:=by rw[tc];rfl
def KR(n):(aB n).length=6:=by rw[tc];rfl
def auX(nm tx):∃b1,∀b2,aK prog (run ju) 39 [pk nm tx]=some (xF (lB nm tx b1 b2)):=by
 have mk:∀{v:AV},v.aq=true->aF (aT ju (match f39.body with|some c=>c|none=>.skip) (jq [pk nm tx]) .empty) (λe j H'=>∃u,pU (finish ju.P f39.results.toList (e,j,H'))=some u/\u.erase=v)->aK prog (run ju) 39 [pk nm tx]=some v:=λi k=>
  eX rfl rfl func39 rfl (by rw[ntmps39];simp) (bE:=[pk nm tx]) rfl rfl k i
 have g:(match f39.body with|some c=>c|none=>Code.skip)=.seq _ (.seq _ (.seq _ (.seq (.seq _ (.cond _ _ _)) (.seq _ _)))):=rfl
 cases hx:jP tx with
 |error p=>
  obtain⟨e,a⟩:=p;have d:((e:Int)==0)=false:=by have:=VT hx;rw[aEp];omega
  refine⟨[],λb2=>mk (qJ _ _) ?_⟩;have b:lB nm tx [] b2=⟨nm,tx,[],dR,⟨[],[],[]⟩,[],[],e,a⟩:=by simp[lB,hx]
  rw[b,g];simp only[go_sem,seval,ab.empty,pk,Z9,hx,rY,d,aQ,L0,KR,results39];exact⟨_,rfl,oE ⟨nm,tx,[],dR,⟨[],[],[]⟩,[],[],e,a⟩ []⟩
 |ok p=>
  obtain⟨l,t⟩:=p;have f:=Iq hx;obtain⟨bad,hb,h⟩:=apy f;have d:((0:Int)==0)=true:=rfl;simp only[uc,tc,mapA] at h;refine⟨bad,λb2=>mk (qJ _ _) ?_⟩;have b:lB nm tx bad b2=⟨nm,tx,l,t,jN t,bad,b2,0,0⟩:=by simp only[lB,hx]
  rw[b,g];simp only[go_sem,seval,ab.empty,pk,Z9,hx,rY,d,h,aQ,L0,KR,results39];refine⟨_,rfl,?_⟩;refine(Ι AV.erase (?_:_=AV.agg (pG ⟨nm,tx,l,t,jN t,bad,b2,0,0⟩ bad))).trans (oE _ _);simp[pG,Iw f.pos];rfl
def auY(nm tx):∃b2,∀b1,aK prog (run ju) 41 [pk nm tx]=some (TM (lB nm tx b1 b2)):=by
 have mk:∀{v:AV},v.aq=true->aF (aT ju (match f41.body with|some c=>c|none=>.skip) (jq [pk nm tx]) .empty) (λe j H'=>∃u,pU (finish ju.P f41.results.toList (e,j,H'))=some u/\u.erase=v)->aK prog (run ju) 41 [pk nm tx]=some v:=λi k=>
  eX rfl rfl func41 rfl (by rw[ntmps41];simp) (bE:=[pk nm tx]) rfl rfl k i
 have g:(match f41.body with|some c=>c|none=>Code.skip)=.seq _ (.seq _ (.seq _ (.seq (.seq _ (.cond _ _ _)) (.seq _ _)))):=rfl
 cases hx:jP tx with
 |error p=>
  obtain⟨e,a⟩:=p;have d:((e:Int)==0)=false:=by have:=VT hx;rw[aEp];omega
  refine⟨[],λb1=>mk (qJ _ _) ?_⟩;have b:lB nm tx b1 []=⟨nm,tx,[],dR,⟨[],[],[]⟩,[],[],e,a⟩:=by simp[lB,hx]
  rw[b,g];simp only[go_sem,seval,ab.empty,pk,Z_,hx,rY,d,aQ,L0,KR,results41];exact⟨_,rfl,oE ⟨nm,tx,[],dR,⟨[],[],[]⟩,[],[],e,a⟩ []⟩
 |ok p=>
  obtain⟨l,t⟩:=p;have f:=Iq hx;obtain⟨bad,hb,h⟩:=apz f;have d:((0:Int)==0)=true:=rfl;simp only[uc,tc,mapA] at h;refine⟨bad,λb1=>mk (qJ _ _) ?_⟩;have b:lB nm tx b1 bad=⟨nm,tx,l,t,jN t,b1,bad,0,0⟩:=by simp only[lB,hx]
  rw[b,g];simp only[go_sem,seval,ab.empty,pk,Z_,hx,rY,d,h,aQ,L0,KR,results41];refine⟨_,rfl,?_⟩;refine(Ι AV.erase (?_:_=AV.agg (pG ⟨nm,tx,l,t,jN t,b1,bad,0,0⟩ bad))).trans (oE _ _);simp[pG,Iw f.pos];rfl
def NO(nm tx):∃b1 b2,aK prog (run ju) 39 [pk nm tx]=some (xF (lB nm tx b1 b2))/\aK prog (run ju) 41 [pk nm tx]=some (TM (lB nm tx b1 b2)):=by obtain⟨b1,a⟩:=auX nm tx;obtain⟨b2,b⟩:=auY nm tx;exact⟨b1,b2,a b2,b b1⟩
noncomputable def eK(p:List UInt8×List UInt8):Un:=lB p.1 p.2 (Classical.choose (NO p.1 p.2)) (Classical.choose (aFR (NO p.1 p.2)))
def ac8(p:List UInt8×List UInt8):aK prog (run ju) 39 [pk p.1 p.2]=some (xF (eK p))/\aK prog (run ju) 41 [pk p.1 p.2]=some (TM (eK p)):=aFR (aFR (NO p.1 p.2))
end Go.Proofs.YtmehamiifalmaaaGreatDoor
namespace Go.Ab
open Go
section
variable {T:Type} {c:T->List AV} {s:Nat}
def wZ(a:∀x,(c x).length=s):∀l:List T,(l.flatMap c).length=s*l.length
 |[]=>by simp
 |x::l=>by rw[agX,τ,a,wZ a l,Γ,aGM];omega
def Pt(a:∀x,(c x).length=s):∀(l:List T) (i:Nat),(l.flatMap c).drop (s*i)=(l.drop i).flatMap c
 |l,0=>by simp
 |[],i+1=>by simp
 |x::l,i+1=>by rw[agX,show s*(i+1)=(c x).length+s*i by rw[a,aGM];omega,<-List.drop_drop,aGI,Pt a l i];rfl
def Z'(a:∀x,(c x).length=s):∀(l:List T) (i:Nat),(l.flatMap c).take (s*i)=(l.take i).flatMap c
 |l,0=>by simp
 |[],i+1=>by simp
 |x::l,i+1=>by rw[agX,show s*(i+1)=(c x).length+s*i by rw[a,aGM];omega,List.take_length_add_append,Z' a l i];rfl
def ac9(a:∀x,(c x).length=s){l:List T}{i}{x:T}(h:l[i]? =some x):((l.flatMap c).drop (s*i)).take s=c x:=by obtain⟨hi,b⟩:=φ.1 h;rw[Pt a,Μ hi,b,agX,<-a x,aGJ]
def Ri(a:∀x,(c x).length=s){P}{t}(b:∀(cs:List AV) (off),iP P t cs off=if off+s<=cs.length then some (.agg ((cs.drop off).take s)) else none){l:List T}{i}{x:T}(h:l[i]? =some x):iP P t (l.flatMap c) (s*i)=some (.agg (c x)):=by obtain⟨hi,_⟩:=φ.1 h;rw[b,ac9 a h,wZ a,μ];have:=Nat.mul_le_mul_left s hi;rw[Nat.mul_succ] at this;exact this
def Rj(a:∀x,(c x).length=s){l:List T}{i}(h:i<l.length)(y:T):eg (l.flatMap c) (s*i) (c y)=(l.set i y).flatMap c:=by unfold eg;rw[show s*i+(c y).length=s*(i+1) by rw[a,Nat.mul_succ],Z' a,Pt a];rw[aGc,μ h,aGA,agX,Λ]
def FR(a:∀x,(c x).length=s):∀l:List T,oB true s l.length (l.flatMap c)=l.map λx=>.agg (c x)
 |[]=>rfl
 |x::l=>by rw[agX,Γ,aEv,<-FR a l];simp only[oB,aEl];rw[<-a x,aGJ,aGI]
def Yc:∀l:List T,(l.map λx=>AV.agg (c x)).flatMap AV.cells=l.flatMap c
 |[]=>rfl
 |x::l=>by rw[aEv,agX,agX,Yc l];rfl
end
def FT{P}{t et}{s}(el:fk P t=some et)(sz:bX P et=some s)(a:s≠0){id n i}(h:i<n):dW P t (.sl id s 0 n) (.i i)=some (.ptr id (s*i)):=by simp only[dW,el,sz];rw[μ ⟨aa,aa⟩,μ ⟨trivial,a⟩,aE5,aEF,aGg]
end Go.Ab
namespace Go.Proofs.YtmehamiifalmaaaGreatDoor
open Go Go.Ab Go.Proofs.Tryz
set_option maxRecDepth 100000
set_option maxHeartbeats 8000000
def cU(u:Un):List AV:=pG u u.b1
def oY(u):(cU u).length=14:=rfl
def ku(H:ab)(id:Nat)(us:List Un):Prop:=H.get id=some (.row us.length 78 14 (us.flatMap cU))
def Rk:List FuncId:=[40,69,70,71,106,151]
def apA:List FuncId:=[40,72,33]
noncomputable def gj:Env:={P:=prog,G:=λf=>Rk.contains f,cl:=λf=>apA.contains f,fq:=λt=>t==118,dyn:=λ_=>false,df:=λ_=>false,ext:=aM eU [72,33]}
def apB:Rk.all (okF gj)=true:=af
def ayA:gj.P=prog:=(rfl)
def ayB:gj.fq=λt=>t==118:=(rfl)
def ayC(i):gj.dyn i=false:=(rfl)
def apC(a b)(H):bu gj 33 [.str a,.str b] H=some (.i (qe a b),H):=ja (fs:=[72,33]) rfl rfl (λ_ _=>rfl) rfl (ac7 a b) rfl rfl H
def apD(s)(H):bu gj 72 [.str s] H=some (.bool (rQ s),H):=ja (fs:=[72,33]) rfl rfl (λ_ _=>rfl) rfl (akF s) rfl rfl H
def apE:=gI gj 69 rfl rfl
def apF:=gI gj 70 rfl rfl
def apG:=gI gj 71 rfl rfl
def akH:=gI gj 106 rfl rfl
def akI:=gI gj 151 rfl rfl
attribute [go_sem] ayA ayB ayC apC apD apE apF apG akH akI
def vR(u:Un):(cU u)[0]? =some (.str u.nm):=rfl
def ayD(u v:Un)(n)(L):run gj 71 [.agg (cU u),.agg (cU v)] ⟨n,L⟩=some (.i (qe u.nm v.nm),⟨n+1+1,(n+1,.z (cU v))::(n,.z (cU u))::L⟩):=by
 suffices hh:∃r,run gj 71 [.agg (cU u),.agg (cU v)] ⟨n,L⟩=some r/\r=(.i (qe u.nm v.nm),(⟨n+1+1,(n+1,.z (cU v))::(n,.z (cU u))::L⟩:ab)) by obtain⟨r,c,rfl⟩:=hh;exact c
 refine fM rfl rfl func71 rfl (by rw[ntmps71];simp) ?_;have a:=bf (n<n+1+1);have d:=bf (n+1<n+1+1);have e:=dJ (n+1=n);have b:∀(u:Un) (H:ab),eQ (.agg (cU u)) H=some (.ptr H.next 0,H.push (.z (cU u))):=λu H=>by simp[eQ,AV.width,AV.cells]
 simp only[go_sem,seval,b,a,d,e,vR,results71];exact⟨_,rfl,rfl⟩
attribute [go_sem] ayD
def Yd(a b):decide (qe a b<0)=Op.bytesLess a b:=by
 unfold qe
 cases h:Op.bytesLess a b with
 |true=>simp
 |false=>
  by_cases c:a=b
  ·simp[c]
  ·simp[c]
def pn(x:Un):List Un->List Un
 |[]=>[x]
 |y::r=>if Op.bytesLess x.nm y.nm=true then y::pn x r else x::y::r
def qf(x:Un)(l:List Un):List Un:=(pn x l.reverse).reverse
def gh:List Un->List Un->List Un
 |acc,[]=>acc
 |acc,x::r=>gh (qf x acc) r
def Ye(x):∀l:List Un,(pn x l).length=l.length+1
 |[]=>rfl
 |y::r=>by
  unfold pn;split
  ·simp[Ye x r]
  ·simp
def Ix(x)(l:List Un):(qf x l).length=l.length+1:=by simp[qf,Ye]
def H7:∀(r acc:List Un),(gh acc r).length=acc.length+r.length
 |[],acc=>rfl
 |x::r,acc=>by rw[gh,H7 r,Ix,Γ];omega
abbrev xS:AV:=.fn (.func 71) [] []
noncomputable def Gi:=f151.c.r.b.b
noncomputable def Gj:=Gi.r.l.b.r.b.b
def auZ{T:Type}(a:List T)(y x:T)(b):(a++y::x::b)[a.length+1]? =some x/\(a++y::x::b)[a.length]? =some y:=by
 constructor
 ·rw[Ψ aa,show a.length+1-a.length=1 by omega];rfl
 ·rw[Ψ aa,aFI];rfl
def apH{T:Type}(a:List T)(y x:T)(b):((a++y::x::b).set (a.length+1) y).set a.length x=a++x::y::b:=by rw[aGp _ _ aa,show a.length+1-a.length=1 by omega,aGp _ _ aa,aFI];rfl
def Yf{id k i}{x}(B:k<=1000000):∀(d post:List Un) (H:ab) (α:az),d.length+1+post.length=k->ku H id (d.reverse++x::post)->
  α 0=.sl id 14 0 k->α 1=.i 0->α 2=.i k->α 3=xS->α 8=.i i->α 9=.i d.length->
  aF (aL (aT gj Gj) α H) λe b H'=>e=.exit 2/\ku H' id ((pn x d).reverse++post)/\Kr id H H'/\b 0=.sl id 14 0 k/\b 1=.i 0/\b 2=.i k/\b 3=xS/\b 8=.i i
 |[],post,H,α,m,h,a0,a1,a2,a3,a8,a9=>by have j:Gj=.seq _ _:=rfl;have o:decide (((0:Nat):Int)>0)=false:=rfl;simp at a9;rw[aJ,j];simp only[go_sem,seval,a0,a1,a9];refine⟨aI,h,Kr.refl _ _,?_⟩;simp[go_sem,a2,a3,a8]
 |y::r,post,H,α,m,h,a0,a1,a2,a3,a8,a9=>by
  have j:Gj=.seq _ _:=rfl;obtain⟨n,L⟩:=H;have E:(y::r).reverse++x::post=r.reverse++y::x::post:=ah;rw[E] at h;have a:(r.reverse++y::x::post).length=k:=by simp at m⊢;omega
  unfold ku at h;rw[a] at h;obtain⟨z,g⟩:=ai.1 h;have c:=vg g;have v:=ο z;have D:=bf (id<n+1+1);have s:=dJ (n=id);have n1:=dJ (n+1=id);simp only[Γ] at m a9;have o:=bH (((r.length+1:Nat):Int)>0);have w1:IntKind.i64.wrap (((r.length+1:Nat):Int)-1)=((r.length:Nat):Int):=vP (r.length+1) aa aa;have F:r.reverse.length=r.length:=aFA;obtain⟨p1,p⟩:=auZ r.reverse y x post;have q:=apH r.reverse y x post;rw[F] at p1 p q;have A:=FT (P:=prog) ue ur aA (id:=id) (show r.length+1<k by omega);have t:=FT (P:=prog) ue ur aA (id:=id) (show r.length<k by omega);have l1:=Ri oY JE p1;have w:=Ri oY JE p;have o2:=Rj oY (l:=(r.reverse++y::x::post).set (r.length+1) y) (i:=r.length) (by rw[aEy];omega) x;rw[q] at o2;have C:(14*(r.length+1)+14<=((r.reverse++y::x::post).flatMap cU).length)=True:=ο (by rw[wZ oY];omega);have G:(14*r.length+14<=(((r.reverse++y::x::post).set (r.length+1) y).flatMap cU).length)=True:=ο (by rw[wZ oY,aEy];omega);have ao:∀u:Un,eo (cU u)=true:=λu=>rfl;have gs:cg (aH L id (.row k 78 14 (((r.reverse++y::x::post).set (r.length+1) y).flatMap cU))) id=some (.row k 78 14 (((r.reverse++y::x::post).set (r.length+1) y).flatMap cU)):=by rw[aR,μ rfl,g];rfl
  have kp:Kr id ⟨n,L⟩ ⟨n+1+1,(n+1,.z (cU y))::(n,.z (cU x))::L⟩:=(Kr.push ⟨n,L⟩ (.z (cU x))).trans (Kr.push ⟨n+1,(n,.z (cU x))::L⟩ (.z (cU y)));have hi:pn x (y::r)=if Op.bytesLess x.nm y.nm=true then y::pn x r else x::y::r:=rfl;have f:=Yd x.nm y.nm
  cases hc:Op.bytesLess x.nm y.nm with
  |true=>
   rw[hc] at f hi;rw[μ rfl] at hi;rw[aJ,j];simp only[go_sem,seval,a0,a1,a3,a9,o,w1,A,t,l1,w,(Rj oY (l:=r.reverse++y::x::post) (i:=r.length+1) aa y),o2,C,G,v,D,s,n1,c,g,Ew (ds:=((r.reverse++y::x::post).set (r.length+1) y).flatMap cU) g,gs,ao,oY,Ap,f_,f,bo];refine aW (Yf (id:=id) (k:=k) (i:=i) (x:=x) B r (y::post) ⟨n+1+1,(n+1,.z (cU y))::(n,.z (cU x))::aH L id (.row k 78 14 ((r.reverse++x::y::post).flatMap cU))⟩ _ aP ?_ ?_ ?_ ?_ ?_ ?_ ?_) ?_
   case refine_8=>
    rintro e b H' ⟨rfl,J,I,K⟩;refine⟨rfl,?_,kp.trans (Kr.trans ?_ I),K⟩
    ·rw[hi,List.reverse_cons,Λ];exact J
    have:=Kr.set (id:=id) ⟨n+1+1,(n+1,.z (cU y))::(n,.z (cU x))::L⟩ (.row k 78 14 ((r.reverse++x::y::post).flatMap cU));simpa only[ab.set,tW,s,n1,ap1] using this
   ·unfold ku;have:(r.reverse++x::y::post).length=k:=by simp at a⊢;omega
    rw[this];exact ai.2 ⟨aa,by rw[bo,κ (show ¬n+1=id by omega),bo,κ (show ¬n=id by omega),aR,μ rfl,g];rfl⟩
   all_goals simp[go_sem,a0,a1,a2,a3,a8]
  |false=>
   rw[hc] at f hi;rw[κ ah] at hi;rw[aJ,j];simp only[go_sem,seval,a0,a1,a2,a3,a8,a9,o,w1,A,t,l1,w,v,c,f];refine⟨aI,?_,kp,?_⟩
   ·rw[hi];have:(x::y::r).reverse++post=r.reverse++y::x::post:=ah;rw[this];unfold ku;rw[a];exact ai.2 ⟨aa,by rw[bo,κ (show ¬n+1=id by omega),bo,κ (show ¬n=id by omega)];exact g⟩
   simp[go_sem]
def aaa{id k}(g:k<=1000000):∀(r acc:List Un) (H:ab) (α:az),acc.length+r.length=k->ku H id (acc++r)->
  α 0=.sl id 14 0 k->α 1=.i 0->α 2=.i k->α 3=xS->α 8=.i acc.length->
  aF (aL (aT gj Gi) α H) λe p H'=>e=.exit 0/\ku H' id (gh acc r)/\Kr id H H'
 |[],acc,H,α,f,h,a0,a1,a2,a3,a8=>by have d:Gi=.seq _ (.seq (.block 1 (.seq _ (.block 2 (.loop Gj)))) _):=rfl;simp at f;have c:=dY (a:=acc.length) (b:=k) aa;rw[Η] at h;rw[aJ,d];simp only[go_sem,seval,a2,a8,c];exact⟨aI,h,Kr.refl _ _⟩
 |x::r,acc,H,α,f,h,a0,a1,a2,a3,a8=>by
  have d:Gi=.seq _ (.seq (.block 1 (.seq _ (.block 2 (.loop Gj)))) _):=rfl;simp at f;have c:=ec (a:=acc.length) (b:=k) aa;have m:ku H id (acc.reverse.reverse++x::r):=by rw[List.reverse_reverse];exact h
  rw[aJ,d];simp only[go_sem,seval,a2,a8,c];simp[bW];refine bz (dm (Yf (id:=id) (k:=k) (i:=acc.length) (x:=x) g acc.reverse r H _ aP m ?_ ?_ ?_ ?_ ?_ ?_)) ?_
  case refine_7=>
   rintro _ ⟨p,H1,rfl,q,l,n,b1,b2,s,b8⟩;simp[go_sem,b8,(eN acc.length aa)];have o:((qf x acc).length:Int)=((acc.length+1:Nat):Int):=by rw[Ix]
   refine aW (aaa (k:=k) g r (qf x acc) H1 _ (by rw[Ix];omega) q ?_ ?_ ?_ ?_ ?_) ?_
   case refine_6=>
    rintro e qQ H2 ⟨rfl,j,t⟩;exact⟨rfl,j,l.trans t⟩
   all_goals simp[go_sem,n,b1,b2,s,o]
  all_goals simp[go_sem,a0,a1,a2,a3,a8,aFA]
def ayE{id k}{H}{x}{r:List Un}(h:ku H id (x::r))(hk:r.length+1=k)(a:k<=1000000):∃H',run gj 151 [.sl id 14 0 k,.i 0,.i k,xS] H=some (.tup [],H')/\ku H' id (gh [x] r)/\Kr id H H':=by
 suffices hh:∃q,run gj 151 [.sl id 14 0 k,.i 0,.i k,xS] H=some q/\∃H',q=(.tup [],H')/\ku H' id (gh [x] r)/\Kr id H H' by obtain⟨q,e,H',rfl,d⟩:=hh;exact⟨H',e,d⟩
 refine fM (c:=.seq _ (.block 0 (.loop Gi))) rfl rfl func151 rfl (by rw[ntmps151];simp) ?_;simp only[go_sem,seval];refine bz (dm (aaa (k:=k) a r [x] H _ aP h ?_ ?_ ?_ ?_ ?_)) ?_
 case refine_6=>
  rintro _ ⟨ae,H',rfl,r,b⟩;simp only[go_sem,seval,results151];exact⟨_,rfl,_,rfl,r,b⟩
 all_goals simp[go_sem,]
 all_goals rfl
noncomputable def Rm:=f106.c.r.r.l.b.b
noncomputable def Rn:=f106.c.r.r.r.r.b.b
def akJ{k:Nat}(hk:k<=8)(α:az)(H:ab)(d:α 1=.i k)(c:α 8=.i 20):aF (aL (aT gj Rm) α H) λe a H'=>e=.exit 0/\H'=H/\a 0=α 0/\a 1=α 1/\a 2=α 2/\a 6=α 6/\a 7=α 7:=by have f:Rm=.seq (.seq _ _) _:=rfl;have b:=bU ((20:Int)<=(k:Int));rw[aJ,f];simp[go_sem,d,c,b]
def akK{k:Nat}(hk:k<=8)(α:az)(H:ab)(a:α 1=.i k)(c:α 6=.i 20):aF (aL (aT gj Rn) α H) λe ae H'=>e=.exit 2/\H'=H:=by have b:Rn=.seq (.seq _ _) _:=rfl;have d:=bU ((20:Int)<(k:Int));rw[aJ,b];simp[go_sem,a,c,d]
def akL{id k:Nat}{H:ab}{x:Un}{r:List Un}(h:ku H id (x::r))(b:r.length+1=k)(a:k<=8):∃H',run gj 106 [.sl id 14 0 k,.i k,xS] H=some (.tup [],H')/\ku H' id (gh [x] r)/\Kr id H H':=by
 suffices hh:∃q,run gj 106 [.sl id 14 0 k,.i k,xS] H=some q/\∃H',q=(.tup [],H')/\ku H' id (gh [x] r)/\Kr id H H' by obtain⟨q,f,H',rfl,l⟩:=hh;exact⟨H',f,l⟩
 obtain⟨H1,g,e,k1⟩:=ayE h b aa;refine fM (c:=.seq _ (.seq _ (.seq (.block 0 (.loop Rm)) (.seq _ (.block 2 (.loop Rn)))))) rfl rfl func106 rfl (by rw[ntmps106];simp) ?_;simp only[go_sem,seval,];simp only[bW];refine bz (dm (akJ (k:=k) a _ H ?_ ?_)) ?_
 case refine_3=>
  rintro _ ⟨ae,H',rfl,rfl,d,b1,b2,j,b7⟩;simp only[go_sem,seval,d,b1,b2,b7,g];refine bz (dm (akK (k:=k) a _ H1 ?_ ?_)) ?_
  case refine_3=>
   rintro _ ⟨qQ,sD,rfl,rfl⟩;simp only[go_sem,seval,results106];exact⟨_,rfl,_,rfl,e,k1⟩
  all_goals simp[go_sem,b1,j]
 all_goals simp[go_sem,]
def au0{id k:Nat}{H:ab}{x:Un}{r:List Un}(h:ku H id (x::r))(b:r.length+1=k)(g:k<=8):∃H',run gj 70 [.sl id 14 0 k,xS] H=some (.tup [],H')/\ku H' id (gh [x] r)/\Kr id H H':=by
 suffices hh:∃q,run gj 70 [.sl id 14 0 k,xS] H=some q/\∃H',q=(.tup [],H')/\ku H' id (gh [x] r)/\Kr id H H' by obtain⟨q,e,H',rfl,f⟩:=hh;exact⟨H',e,f⟩
 obtain⟨H1,d,c,k1⟩:=akL h b g;have a:gB prog #[118] [.sl id 14 0 k]=some (.i k):=by simp[gB,ue]
 refine fM rfl rfl func70 rfl (by rw[ntmps70];simp) ?_;simp only[go_sem,seval,a,d,results70];exact⟨_,rfl,_,rfl,c,k1⟩
def vU(us:List Un):List AV:=us.map λu=>.agg (cU u)
def Fz(us:List Un):(vU us).length=us.length:=by simp[vU]
def Yg{T:Type}(g:T->AV){n:Nat}(h:∀x,(g x).width=some n):∀l:List T,fF n (l.map g)=true
 |[]=>rfl
 |x::l=>by simp[fF,h x,Yg g h l]
def ayF(us:List Un)(H:ab)(b:us≠[])(h8:us.length<=8):cH (λt=>t==118) prog 118 118 (.vec .full []) (.vec .ro (vU us)) H=some (.sl H.next 14 0 us.length,H.push (.row us.length 78 14 (us.flatMap cU))):=by
 have c:us.length≠0:=λe=>b (Ξ.1 e);have a:nT prog H 14 (.vec .ro (vU us))=some (us.length,us.flatMap cU):=by simp only[nT];rw[μ (show fF 14 (vU us)=true from(Yg (λu=>AV.agg (cU u)) (n:=14) (λ_=>rfl) us)),Fz];show some (us.length,(us.map λu=>AV.agg (cU u)).flatMap AV.cells)=_;rw[Yc]
 simp only[cH,ue,ur,ZZ,Pq,jK,vk,a];rw[μ ⟨trivial,aA,rfl⟩];simp only[beq_self_eq_true,aEl,oV,κ c];rw[μ ⟨rfl,aP,aP⟩];simp
def apI(us:List Un)(H:ab)(a:us≠[])(b:us.length<=8):run gj 69 [.vec .ro (vU us)] H=some (.sl H.next 14 0 us.length,H.push (.row us.length 78 14 (us.flatMap cU))):=by
 obtain⟨n,L⟩:=H;have hb:∀H,dZ prog 118 0 [] H=some (.vec .full [],H):=λH=>by simp[dZ,ue,ur,Pq,mc,fF,lj]
 have c:fH prog .eql 118 (.vec .ro (vU us)) (.vec .nil [])=some (.bool false):=by
  cases us with
  |nil=>exact(a rfl).elim
  |cons x r=>rfl
 refine ow rfl rfl func69 rfl (by rw[ntmps69];simp) ?_;simp[go_sem,c,hb,cG,ayF us ⟨n,L⟩ a b,jy,results69]
def abJ{T:Type}{P:Program}{H:ab}{k:Nat}{g:T->AV}(h:∀x,cA P H k (g x)=some (g x)):∀l:List T,dv (cA P H k) (l.map g)=some (l.map g)
 |[]=>rfl
 |x::l=>by simp[dv,h x,an,abJ h l]
def Qp{P:Program}{H:ab}{k:Nat}:∀{ks:List Nd},(∀x∈ks,cA P H k (aw x)=some (aw x))->dv (cA P H k) (br ks)=some (br ks)
 |[],_=>rfl
 |x::ks,h=>by show an (cA P H k (aw x)) (λy=>an (dv (cA P H k) (br ks)) λb=>some (y::b))=_;rw[h x Ρ,Qp (λy a=>h y (Κ _ a))];rfl
def Ro(P:Program)(H:ab):∀n k,2*db n<=k->cA P H (k+1) (aw n)=some (aw n)
 | .mk kd f t w a ks,k,c=>by rw[s9] at c;obtain⟨j,rfl⟩:∃j,k=j+2:=⟨k-2,aa⟩;have b:dv (cA P H (j+1)) (br ks)=some (br ks):=Qp λx d=>Ro P H x j (by have:=sN d;omega);rw[uc,tc,Qd];simp[Nd.ks,Nd.k,Nd.f,Nd.t,Nd.w,Nd.a,dv];rw[yO,b];simp[cA,an];cases ks<;>rfl
 termination_by n=>SizeOf.sizeOf n
def ayG(P:Program)(H:ab)(j:Nat)(u:Un)(d:db u.tr<=60):cA P H (j+130) (.agg (cU u))=some (.agg (cU u)):=by
 have h:dv (cA P H (j+128)) (V u.tk)=some (V u.tk):=abJ (g:=mP) (λx=>rfl) u.tk
 have e:dv (cA P H (j+128)) (br u.tr.ks)=some (br u.tr.ks):=Qp λx b=>Ro P H x (j+127) (by
  cases c:u.tr with
  |mk kd f t w a ks=>
   rw[c,s9] at d;rw[c] at b;simp only[Nd.ks] at b;have:=sN b
   omega)
 rw[show j+130=(j+129)+1 from rfl,Qd];unfold cU pG;simp only[dv];rw[show j+129=(j+128)+1 from rfl];rw[yO,yO,yO,yO,yO,h,e];rw[show j+128=j+125+3 from rfl,Q_ P H (j+125) u.mp.bs,Ra P H (j+125) u.mp.ms,Rb P H (j+125) u.b1];simp only[cA,an,Ou,oq]
end Go.Proofs.YtmehamiifalmaaaGreatDoor
namespace Go.Ab
open Go
def aCo{T:Type}{c:T->List AV}{s}(b:∀x,(c x).length=s){l:List T}{i j}{x:T}(h:l[i]? =some x)(a:j<s):(l.flatMap c)[s*i+j]? =(c x)[j]? :=by have:=ac9 b h;rw[<-this,Τ a,aEz]
def ED{E:Env}{f}{fn:Func}{c}{args bE:List AV}{a}(m:E.G f=true)(h:E.df f=false)(d:E.P.funcs[f]? =some fn)(b:fn.body=some c)(n:args.length<=fn.ntmps)(j:args.map AV.erase=bE)
  (g:AV.aq.go bE=true) (l:aF (aN E (run E) aL c (jq bE) .empty) λe k H'=>∃v H2,finish E.P fn.results.toList (e,k,H')=some (v,H2)/\(if v.erase.aq=true then some v.erase else an (cA E.P H2 1000 v) λw=>if w.aq=true then some w else none)=some a):
  aK E.P (run E) f args=some a:=by
 obtain⟨v,i,rfl⟩:=yl (Q:=λw=>w=a) m h d b n j g (aW l λe α H ⟨v,H2,d,b⟩=>⟨v,H2,a,d,b,rfl⟩);exact i
end Go.Ab
namespace Go.Proofs.YtmehamiifalmaaaGreatDoor
open Go Go.Ab Go.Proofs.Tryz
set_option maxRecDepth 100000
set_option maxHeartbeats 8000000
def lC:Option (List UInt8)->List Un->Nat
 |_,[]=>0
 |p,u::r=>if rQ u.nm=true then(if p=some u.nm then 4 else lC (some u.nm) r) else 1
noncomputable def L7:=f40.c.r.r.r.r.l.r.b.b
def w7{T:Type}(pre:List T)(x:T)(r):(pre++x::r)[pre.length]? =some x:=by rw[Ψ (ν _),aFI];rfl
def abK{id p k}{us:List Un}(w:us.length=k)(V:k<=8):∀r pre H α,us=pre++r->ku H id us->(∃o,H.get p=some (.cells o [.sl id 14 0 k]))->
  α 4=.ptr p 0->α 22=.sl id 14 0 k->α 23=.i k->α 24=.i pre.length->
  aF (aL (aT gj L7) α H) λe G H'=>(e=.exit 0/\lC (pre.getLast?.map (·.nm)) r=0/\ku H' id us/\(∃o,H'.get p=some (.cells o [.sl id 14 0 k]))/\G 4=.ptr p 0)\/(e=.ret/\lC (pre.getLast?.map (·.nm)) r≠0/\G 2=.val (.pointer none)/\G 3=.i (lC (pre.getLast?.map (·.nm)) r:Nat))
 |[],pre,H,α,s,h,⟨o,I⟩,a4,f,d,a24=>by have M:L7=.seq _ (.seq _ (.seq (.block _ (.seq _ (.block _ (.seq _ (.cond _ _ (.seq _ _)))))) _)):=rfl;rw[Η] at s;have m:=dY (a:=pre.length) (b:=k) (by rw[<-w,s];exact aEu _);rw[aJ,M];simp only[go_sem,↓reduceIte,Nat.reduceEqDiff,ne_eq,reduceCtorEq,d,a24,m];refine .inl ⟨aI,rfl,h,⟨o,I⟩,?_⟩;simp only[go_sem,a4]
 |u::r,pre,⟨n,L⟩,α,s,h,⟨o,I⟩,a4,f,d,a24=>by
  have M:L7=.seq _ (.seq _ (.seq (.block _ (.seq _ (.block _ (.seq _ (.cond _ _ (.seq _ _)))))) _)):=rfl;have A:pre.length<k:=by rw[<-w,s];simp
  have m:=ec A;have w1:=eN pre.length aa;have K:us[pre.length]? =some u:=by rw[s];exact w7 _ _ _
  unfold ku at h;rw[w] at h;obtain⟨z,g⟩:=ai.1 h;obtain⟨zp,N⟩:=ai.1 I;have c:=vg g;have cp:=aC N;have D:(id<n)=True:=ο z;have O:=bf (id<n+1);have E:=bf (p<n+1);have C:=bf (n<n+1);have Q:=dJ (n=id);have n1:=dJ (n=p);have t:=FT (P:=prog) ue ur aA (id:=id) A;have l1:=Ri oY JE K;have F:(14*pre.length+14<=(us.flatMap cU).length)=True:=ο (by rw[wZ oY];omega);have B:eg [.str [],.str [],.vec .nil [],.i 0,.i 0,.i 0,.str [],.i 0,.vec .nil [],.vec .nil [],.vec .nil [],.vec .nil [],.i 0,.i 0] 0 (cU u)=cU u:=rfl;have ao:eo (cU u)=true:=rfl;have dC:ku ⟨n+1,(n,.k 78 (cU u))::L⟩ id us:=by unfold ku;rw[w];exact ai.2 ⟨aa,by rw[bo,bM];exact g⟩
  have U:ab.get ⟨n+1,(n,.k 78 (cU u))::L⟩ p=some (.cells o [.sl id 14 0 k]):=ai.2 ⟨aa,by rw[bo,bM];exact N⟩;have X:((pre++[u]).getLast?.map (·.nm))=some u.nm:=ah;have Y:us=(pre++[u])++r:=by rw[s];simp
  have Z:(((pre++[u]).length:Nat):Int)=((pre.length+1:Nat):Int):=ah;have ih:=λα=>abK (id:=id) (p:=p) (k:=k) w V r (pre++[u]) ⟨n+1,(n,.k 78 (cU u))::L⟩ α Y dC ⟨o,U⟩;rw[X,Z] at ih;rw[aJ,M];have TO:∀q,lC q (u::r)=if rQ u.nm=true then(if q=some u.nm then 4 else lC (some u.nm) r) else 1:=λq=>rfl;rw[TO]
  cases hn:rQ u.nm with
  |false=>
   simp only[go_sem,↓reduceIte,Nat.reduceEqDiff,Nat.reduceAdd,Nat.reduceLeDiff,ne_eq,reduceCtorEq,aEW,aGG,Γ,Χ,a4,f,d,a24,m,t,c,l1,D,E,C,n1,B,ao,oY,vR,hn,χ,qI];refine .inr ⟨aI,ah,?_,?_⟩;all_goals(try simp only[go_sem,])
   all_goals(try rfl)
  |true=>
   simp only[aEl];rcases List.eq_nil_or_concat pre with rfl|⟨l,v,rfl⟩
   ·have y:decide (((0:Nat):Int)>0)=false:=rfl;simp only[Χ] at a24 m w1 t l1 F ih;rw[κ (show ¬(Option.map (λx=>x.nm) ([]:List Un).getLast? =some u.nm) by simp)];simp only[go_sem,↓reduceIte,Nat.reduceEqDiff,Nat.reduceAdd,Nat.reduceLeDiff,ne_eq,reduceCtorEq,aEW,aGG,Γ,Χ,f,d,a24,m,y,t,c,l1,D,C,B,ao,oY,vR,hn,ω,w1];refine ih _ ?_ ?_ ?_ ?_;all_goals simp only[go_sem,↓reduceIte,Nat.reduceEqDiff,Nat.reduceAdd,a4,f,d]
   ·simp only[List.concat_eq_append] at s A m w1 K t l1 F a24 ih⊢;have W:(l++[v]).length=l.length+1:=ah;rw[W] at A m w1 K t l1 F a24 ih;have y:=bH (((l.length+1:Nat):Int)>0);have T:IntKind.i64.wrap (((l.length+1:Nat):Int)-1)=((l.length:Nat):Int):=vP (l.length+1) aa aa;have hv:us[l.length]? =some v:=by rw[s,Λ];exact w7 _ _ _
    have R:=FT (P:=prog) ue ur aA (id:=id) (show l.length<k by omega);have S:(us.flatMap cU)[14*l.length+0]? =some (.str v.nm):=(aCo (j:=0) oY hv aA).trans rfl;have hg:(Option.map (λx=>x.nm) (l++[v]).getLast? =some u.nm)↔v.nm=u.nm:=ah
    cases hq:(v.nm==u.nm) with
    |true=>
     have J:v.nm=u.nm:=by simpa using hq
     rw[μ (hg.2 J)];simp only[go_sem,↓reduceIte,Nat.reduceEqDiff,Nat.reduceAdd,Nat.reduceLeDiff,ne_eq,reduceCtorEq,aEW,aGG,Γ,Χ,a4,f,d,a24,m,y,t,R,c,cp,l1,S,D,O,E,C,Q,n1,B,ao,oY,vR,hn,hq,ω,T,qI];refine .inr ⟨aI,ah,?_,?_⟩;all_goals(try simp only[go_sem,])
     all_goals(try rfl)
    |false=>
     have J:¬v.nm=u.nm:=by simpa using hq
     rw[κ (λh=>J (hg.1 h))];simp only[go_sem,↓reduceIte,Nat.reduceEqDiff,Nat.reduceAdd,Nat.reduceLeDiff,ne_eq,reduceCtorEq,aEW,aGG,Γ,Χ,a4,f,d,a24,m,y,t,R,c,cp,l1,S,D,O,E,C,Q,n1,B,ao,oY,vR,hn,hq,ω,w1,T];refine ih _ ?_ ?_ ?_ ?_;all_goals simp only[go_sem,↓reduceIte,Nat.reduceEqDiff,a4,f,d]
end Go.Proofs.YtmehamiifalmaaaGreatDoor
namespace Go.Ab
open Go
def Kw(et s:Nat)(H H':ab):Prop:=H.next<=H'.next/\∀i x,(∀n cs,x≠.row n et s cs)->H.get i=some x->H'.get i=some x
def Kw.refl(et s)(H:ab):Kw et s H H:=⟨ν _,λ_ _ _ h=>h⟩
def Kw.trans{et s}{H H1 H2:ab}(h:Kw et s H H1)(g:Kw et s H1 H2):Kw et s H H2:=⟨atB h.1 g.1,λi x a hi=>g.2 i x a (h.2 i x a hi)⟩
def Kw.push(et s)(H:ab)(y):Kw et s H (H.push y):=⟨aEg _,λi x _ hi=>by
 rw[ab.fL,κ (by have:=ab.ep hi;omega)];exact hi⟩
def Kw.cells{et s}{H H':ab}(h:Kw et s H H'){i}{te}{cs:List AV}(hi:H.get i=some (.c te cs)):H'.get i=some (.c te cs):=h.2 i _ ah hi
def au1(P)(H:ab)(k id s off len m s')(et)(cs:List AV){ag}(h:H.get id=some (.row m et s' cs))(b:cv P et=some ag)(a:s'=s/\off+len<=m/\(ag=true\/s=1)):cA P H (k+1) (.sl id s off len)=an (dv (cA P H k) (oB ag s len (cs.drop (off*s)))) λds=>some (.vec .ro ds):=by simp only[cA,h,b];rw[μ a]
structure GT{T:Type}(P:Program)(t et:TypeId)(s b:Nat)(c:T->List AV)(g:T->AV)(ag:Bool):Prop where
 app:jD P t et s b
 cells:∀x,(g x).cells=c x
 wid:∀x,(g x).width=some s
 len:∀x,(c x).length=s
 agg:cv P et=some ag
 one:ag=true\/s=1
 ch:∀l:List T,oB ag s l.length (l.flatMap c)=l.map g
 np:∀x,(g x).aq=true
def Ov:∀{l:List (Nat×bB)} {i:Nat} {p:Nat×bB},p∈ze l i->p∈l
 |(k,x)::r,i,p,h=>by
  simp[ze] at h;split at h
  ·exact Κ _ (Ov h)
  ·rcases Υ.1 h with rfl|h
   ·grind
   ·exact Κ _ (Ov h)
section
variable {T:Type} {P:Program} {t et:TypeId} {s b:Nat} {c:T->List AV} {g:T->AV} {ag:Bool}
def fO(H:ab)(et s:Nat)(c:T->List AV)(g:T->AV)(v:AV)(l:List T):Prop:=(l=[]/\v=.vec .nil [])\/(∃x,l=[x]/\v=.vec .full [g x])\/(l≠[]/\∃id,v=.sl id s 0 l.length/\H.get id=some (.row l.length et s (l.flatMap c)))
def fO.cj{H H':ab}{v}{l:List T}(h:fO H et s c g v l)(b:∀i n cs,H.get i=some (.row n et s cs)->H'.get i=some (.row n et s cs)):fO H' et s c g v l:=by
 rcases h with h|h|⟨d,id,a,h3⟩
 ·exact .inl h
 ·exact .inr (.inl h)
 ·exact .inr (.inr ⟨d,id,a,b _ _ _ h3⟩)
def Fc(a:GT P t et s b c g ag)(H)(o)(l:List T):nT P H s (.vec o (l.map g))=some (l.length,l.flatMap c):=by
 have d:∀l:List T,fF s (l.map g)=true:=λl=>by
  induction l with
  |nil=>rfl
  |cons x l ih=>simp[fF,a.wid x,ih]
 have hf:∀l:List T,(l.map g).flatMap AV.cells=l.flatMap c:=λl=>by
  induction l with
  |nil=>rfl
  |cons x l ih=>rw[aEv,agX,agX,ih,a.cells]
 simp only[nT];rw[μ (d l),Θ,hf]
def au2(a:GT P t et s b c g ag){H:ab}{id}{l:List T}(h:H.get id=some (.row l.length et s (l.flatMap c))):nT P H s (.sl id s 0 l.length)=some (l.length,l.flatMap c):=by simp only[nT,h];rw[μ ⟨aI,aa,aI⟩,aGS,aEQ,aFq (by rw[wZ a.len,aGg];exact ν _)]
def WG{m}(f:GT P t et s b c g ag)(hm:m t=true){H:ab}{v y:AV}{l xs:List T}(h:fO H et s c g v l)(C:nT P H s y=some (xs.length,xs.flatMap c))(B:(∃o es,y=.vec o es)\/∃a b c d,y=.sl a b c d)(E:xs≠[])(hb:(l.length+xs.length)*b<=140737488355328)(n:l.length+xs.length<=9223372036854775807):
  ∃id H',cH m P t t v y H=some (.sl id s 0 (l++xs).length,H')/\H'.get id=some (.row (l++xs).length et s ((l++xs).flatMap c))/\Kw et s H H'/\∀p∈H'.jo,p∈H.jo\/p.2=.row (l++xs).length et s ((l++xs).flatMap c):=by
 obtain⟨z,F,K⟩:=f.app.zero;have D:s≠0/\z.length=s:=⟨f.app.s0,K⟩;have w:xs.length≠0:=λe=>E (Ξ.1 e);have A:jK m t v y=none:=by rcases h with⟨_,rfl⟩|⟨x,_,rfl⟩|⟨_,id,rfl,_⟩<;>rcases B with⟨o,es,rfl⟩|⟨p,q,r,u,rfl⟩<;>simp[jK,hm]
 have G:cH m P t t v y H=oV et s b v xs.length (xs.flatMap c) H:=by
  rcases B with⟨o,es,rfl⟩|⟨p,q,r,u,rfl⟩
  ·simp only[cH,f.app.el,f.app.sz,f.app.fQ,F];rw[μ ⟨trivial,D⟩,A];simp[vk,C]
  ·simp only[cH,f.app.el,f.app.sz,f.app.fQ,F];rw[μ ⟨trivial,D⟩,A];simp[vk,C]
 rw[G];have k:(l++xs).length=l.length+xs.length:=τ;have J:(l++xs).flatMap c=l.flatMap c++xs.flatMap c:=aGA;rw[k,J];rcases h with⟨rfl,rfl⟩|⟨x,rfl,rfl⟩|⟨h1,id,rfl,h3⟩
 ·simp only[oV];rw[κ w];simp only[Χ,aEF] at hb n⊢;rw[μ ⟨rfl,hb,n⟩];refine⟨H.next,_,rfl,?_,Kw.push _ _ _ _,λp j=> ?_⟩
  ·rw[ab.fL,μ rfl];simp
  ·rcases Υ.1 j with rfl|h
   ·grind
   ·exact .inl h
 ·simp only[oV];rw[κ w];simp only[Γ,Χ] at hb n⊢;rw[μ ⟨by simp[fF,f.wid],hb,n⟩];refine⟨H.next,_,rfl,?_,Kw.push _ _ _ _,λp j=> ?_⟩
  ·rw[ab.fL,μ rfl];simp[f.cells]
  ·rcases Υ.1 j with rfl|h
   ·exact .inr (by simp[f.cells])
   ·exact .inl h
 ·simp only[oV,h3];rw[κ w,μ ⟨aI,aI,aI,aI,ν _,hb,n⟩];refine⟨H.next,_,rfl,?_,?_,λp j=> ?_⟩
  ·show((H.del id).push _).get (H.del id).next=_;rw[ab.fL,μ rfl,aFq (by rw[wZ f.len,aGg];exact ν _)]
  ·refine⟨aEg _,λi x E hi=> ?_⟩;have I:id≠i:=by grind
   have:=ab.ep hi;rw[ab.fL,κ (λe=>by have e':H.next=i:=e;omega),ab.Cx,κ I];exact hi
  ·rcases Υ.1 j with rfl|h
   ·exact .inr (by rw[aFq (by rw[wZ f.len,aGg];exact ν _)])
   ·exact .inl (Ov h)
def Ow{m}(n:GT P t et s b c g ag)(hm:m t=true){H}{v y:AV}{l xs:List T}(h:fO H et s c g v l)(i:nT P H s y=some (xs.length,xs.flatMap c))(e:(∃o es,y=.vec o es)\/∃a b c d,y=.sl a b c d)(p:xs≠[])(hb:(l.length+xs.length)*b<=140737488355328)(k:l.length+xs.length<=9223372036854775807):
  ∃id H',cH m P t t v y H=some (.sl id s 0 (l++xs).length,H')/\H'.get id=some (.row (l++xs).length et s ((l++xs).flatMap c))/\Kw et s H H':=by
 obtain⟨id,H',j,f,h3,_⟩:=WG n hm h i e p hb k;exact⟨id,H',j,f,h3⟩
def Ox{m}(d:GT P t et s b c g ag)(hm:m t=true){H}{v}{l:List T}(o:Own)(x:T)(h:fO H et s c g v l)(hb:(l.length+1)*b<=140737488355328)(i:l.length+1<=9223372036854775807):
  ∃a H',cH m P t t v (.vec o [g x]) H=some (a,H')/\fO H' et s c g a (l++[x])/\Kw et s H H':=by
 obtain⟨id,H',f,e,h3⟩:=Ow d hm h (Fc d H o [x]) (.inl ⟨_,_,rfl⟩) ah hb i;exact⟨_,H',f,.inr (.inr ⟨ah,id,rfl,e⟩),h3⟩
def akM{m}(a:GT P t et s b c g ag)(hm:m t=true){H}{v y:AV}{l xs:List T}(h:fO H et s c g v l)(n:fO H et s c g y xs)(hb:(l.length+xs.length)*b<=140737488355328)(k:l.length+xs.length<=9223372036854775807):
  ∃i H',cH m P t t v y H=some (i,H')/\fO H' et s c g i (l++xs)/\Kw et s H H':=by
 obtain⟨z,o,p⟩:=a.app.zero;have r:s≠0/\z.length=s:=⟨a.app.s0,p⟩;rcases n with⟨rfl,rfl⟩|⟨x,rfl,rfl⟩|⟨j,id,rfl,h3⟩
 ·refine⟨v,H,?_,by rw[Η];exact h,Kw.refl _ _ _⟩;have u:jK m t v (.vec .nil [])=none:=by rcases h with⟨_,rfl⟩|⟨x,_,rfl⟩|⟨_,id,rfl,_⟩<;>simp[jK,hm]
  have q:nT P H s (.vec .nil [])=some (0,[]):=Fc a H .nil [];simp only[cH,a.app.el,a.app.sz,a.app.fQ,o];rw[μ ⟨trivial,r⟩,u];simp[vk,q];rcases h with⟨_,rfl⟩|⟨x,_,rfl⟩|⟨_,id,rfl,_⟩<;>simp[oV]
 ·obtain⟨id,H',d,f,e⟩:=Ow a hm h (Fc a H .full [x]) (.inl ⟨_,_,rfl⟩) ah hb k;exact⟨_,H',d,.inr (.inr ⟨ah,id,rfl,f⟩),e⟩
 ·obtain⟨gD,H',d,f,e⟩:=Ow a hm h (au2 a h3) (.inr ⟨_,_,_,_,rfl⟩) j hb k;exact⟨_,H',d,.inr (.inr ⟨by simp[j],gD,rfl,f⟩),e⟩
def aab(a:GT P t et s b c g ag){H:ab}{v:AV}{l:List T}(d:∀k,dv (cA P H (k+300)) (l.map g)=some (l.map g))(h:fO H et s c g v l):(if v.erase.aq=true then some v.erase else an (cA P H 1000 v) λw=>if w.aq=true then some w else none)=some (.vec (if l.length=0 then .nil else .ro) (l.map g)):=by
 have f:∀l:List T,AV.aq.go (l.map g)=true:=λl=>by
  induction l with
  |nil=>rfl
  |cons x l ih=>show((g x).aq&&AV.aq.go (l.map g))=true;rw[a.np,ih];rfl
 rcases h with⟨rfl,rfl⟩|⟨x,rfl,rfl⟩|⟨i,id,rfl,h3⟩
 ·rfl
 ·have:(AV.vec .full [g x]).erase.aq=true:=by simp[AV.erase,AV.bare,Own.bare,AV.aq,AV.aq.go,a.np]
  rw[μ this];rfl
 ·rw[κ (by simp[AV.erase,AV.bare,AV.aq])];have j:l.length≠0:=λe=>i (Ξ.1 e);have hf:cA P H 1000 (.sl id s 0 l.length)=some (.vec .ro (l.map g)):=by rw[show(1000:Nat)=699+300+1 from rfl];generalize 699=k;have hm:=d k;generalize k+300=q at hm;rw[au1 P H q id s 0 l.length l.length s et (l.flatMap c) h3 a.agg ⟨rfl,aa,a.one⟩,aGS,aEQ,a.ch,hm];rfl
  rw[hf,κ j];simp only[an];rw[μ];simp[AV.aq,f]
def Qq(d:GT P t et s b c g ag)(a:∀x H k,cA P H (k+3) (g x)=some (g x)){H:ab}{v:AV}{l:List T}(h:fO H et s c g v l):(if v.erase.aq=true then some v.erase else an (cA P H 1000 v) λw=>if w.aq=true then some w else none)=some (.vec (if l.length=0 then .nil else .ro) (l.map g)):=
 aab d (λk=>by
  have:∀q (l:List T),dv (cA P H (q+3)) (l.map g)=some (l.map g):=λq l=>by
   induction l with
   |nil=>rfl
   |cons x l ih=>simp[dv,a x H q,an,ih]
  exact this (k+297) l) h
end
end Go.Ab
namespace Go.Proofs.YtmehamiifalmaaaGreatDoor
open Go Go.Ab Go.Proofs.Tryz
set_option maxRecDepth 100000
set_option maxHeartbeats 8000000
def qv(us:List Un):Except Nat (List Un):=if us.length>8 then .error 5 else if lC none (gh [] us)=0 then .ok (gh [] us) else .error (lC none (gh [] us))
def fD(us:List Un):AV:=.rptr [.vec (aD us.length) (vU us)]
def tj:Except Nat (List Un)->AV
 | .ok us=>.tup [.rptr [.vec (aD us.length) (vU us)],.i 0]
 | .error e=>.tup [.val (.pointer none),.i e]
def Oy{x u}:∀{l:List Un},u∈pn x l->u=x\/u∈l
 |[],h=>by simpa[pn] using h
 |y::r,h=>by
  unfold pn at h;split at h
  ·rcases Υ.1 h with h|h
   ·exact .inr (h▸Ρ)
   ·exact(Oy h).imp_right λh=>Κ _ h
  ·exact Υ.1 h
def akN{x u}{l}(h:u∈qf x l):u=x\/u∈l:=by unfold qf at h;rw[List.mem_reverse] at h;simpa using Oy h
def NP{u:Un}:∀{r acc:List Un},u∈gh acc r->u∈acc\/u∈r
 |[],acc,h=>.inl h
 |x::r,acc,h=>by
  rcases NP (r:=r) h with h|h
  ·rcases akN h with h|h
   ·exact .inr (h▸Ρ)
   ·exact .inl h
  ·exact .inr (Κ _ h)
def FV:∀us:List Un,AV.aq.go (vU us)=true
 |[]=>rfl
 |u::us=>by show((AV.agg (cU u)).aq&&AV.aq.go (vU us))=true;rw[show(AV.agg (cU u)).aq=true from qJ u u.b1,FV us];rfl
def ada(P)(H)(j):∀{us:List Un},(∀u∈us,db u.tr<=60)->dv (cA P H (j+130)) (vU us)=some (vU us)
 |[],_=>rfl
 |u::us,h=>by show an (cA P H (j+130) (.agg (cU u))) (λy=>an (dv (cA P H (j+130)) (vU us)) λb=>some (y::b))=_;rw[ayG P H j u (h u Ρ),ada P H j (λy a=>h y (Κ _ a))];rfl
def au3(P)(H)(k)(l):cA P H (k+1) (.tup l)=an (dv (cA P H k) l) λds=>some (.tup ds):=by simp[cA]
def au4(P)(H:ab)(k id){te}{cs}(h:H.get id=some (.c te cs))(a:eo cs=true):cA P H (k+1) (.ptr id 0)=an (dv (cA P H k) cs) λds=>some (.rptr ds):=by simp only[cA,h,aEQ];rw[μ a]
def au5(P)(H:ab)(k id s off len m s')(et)(cs:List AV)(h:H.get id=some (.row m et s' cs))(b:cv P et=some true)(a:s'=s/\off+len<=m):cA P H (k+1) (.sl id s off len)=an (dv (cA P H k) (oB true s len (cs.drop (off*s)))) λds=>some (.vec .ro ds):=by simp only[cA,h,b];rw[μ ⟨a.1,a.2,.inl trivial⟩]
def au6(P)(H)(k)(i)(n):cA P H (k+1) (.int i n)=some (.int i n):=by simp[cA]
def apJ{H:ab}{id p k}{us:List Un}{f}(d:H.get p=some (.cells f [.sl id 14 0 k]))(a:ku H id us)(b:us.length=k)(c:∀u∈us,db u.tr<=60):
  cA prog H 1000 (.tup [.ptr p 0,.i 0])=some (.tup [.rptr [.vec .ro (vU us)],.i 0]):=by
 unfold ku at a;rw[b] at a;have g:oB true 14 k (us.flatMap cU)=vU us:=by rw[<-b];exact FR oY us
 rw[show(1000:Nat)=867+133 from rfl];generalize 867=j;have e:cA prog H (j+131) (.sl id 14 0 k)=some (.vec .ro (vU us)):=by rw[show j+131=(j+130)+1 from rfl,au5 prog H (j+130) id 14 0 k k 14 78 (us.flatMap cU) a ZY ⟨rfl,aa⟩,aGS,aEQ,g,ada prog H j c];rfl
 have h3:cA prog H (j+132) (.ptr p 0)=some (.rptr [.vec .ro (vU us)]):=by rw[show j+132=(j+131)+1 from rfl,au4 prog H (j+131) p d rfl];simp[dv,e,an]
 rw[show j+133=(j+132)+1 from rfl,au3];simp[dv,h3,an];rw[show j+132=(j+131)+1 from rfl,au6]
def Oz(x:Except Nat (List Un)):(tj x).aq=true:=by
 cases x with
 |error e=>rfl
 |ok us=>show((AV.rptr [.vec (aD us.length) (vU us)]).aq&&_)=true;have:=jO (n:=us.length) (FV us);simp only[AV.aq,AV.aq.go] at this⊢;rw[this];rfl
def ahT(x)(r):gh [] (x::r)=gh [x] r:=rfl
def aCp(us:List Un)(v:∀u∈us,db u.tr<=60)(hl:us.length<=1000000):aK prog (run gj) 40 [.vec (aD us.length) (vU us)]=some (tj (qv us)):=by
 by_cases f:us=[]
 ·subst f;exact AR 10 rfl
 ·have A:0<us.length:=aE3.2 f;rw[Iw A];refine ED (c:=.seq _ (.seq (.seq _ (.cond _ _ _)) (.seq _ (.seq _ (.seq (.seq _ (.block 0 (.loop L7))) _))))) rfl rfl func40 rfl (by rw[ntmps40];simp) (bE:=[.vec .ro (vU us)]) rfl (by show(AV.aq.go (vU us)&&true)=true;rw[FV];rfl) ?_;by_cases s:us.length>8
  ·have l:=bH ((us.length:Int)>8);have j:qv us=.error 5:=by unfold qv;rw[μ s]
   rw[j];simp only[go_sem,seval,ab.empty,Fz,l,qI,results40];exact⟨_,_,rfl,rfl⟩
  ·have l:=bU ((us.length:Int)>8);have t:=apI us ⟨0,[]⟩ f aa;simp[ab.push] at t;obtain⟨x,r,d⟩:=aFW f;have a:(gh [x] r).length=us.length:=by rw[H7,d];simp;omega
   have j:qv us=if lC none (gh [x] r)=0 then .ok (gh [x] r) else .error (lC none (gh [x] r)):=by unfold qv;rw[κ s,d,ahT]
   have w:ku ⟨2,[(1,.z [.sl 0 14 0 us.length]),(0,.row us.length 78 14 (us.flatMap cU))]⟩ 0 (x::r):=by rw[d];exact rfl
   obtain⟨⟨n1,L1⟩,E,B,k1⟩:=au0 (k:=us.length) w (by rw[d];rfl) aa;have q:=k1.2 1 _ aA (rfl:ab.get ⟨2,[(1,.z [.sl 0 14 0 us.length]),(0,.row us.length 78 14 (us.flatMap cU))]⟩ 1=some (.z [.sl 0 14 0 us.length]));obtain⟨D,G⟩:=ai.1 q;have m:gB prog #[118] [.sl 0 14 0 us.length]=some (.i us.length):=by simp[gB,ue]
   have K:(AV.sl 0 14 0 us.length).width=some 1:=rfl;have J:(AV.sl 0 14 0 us.length).cells=[.sl 0 14 0 us.length]:=rfl;have y:eg [AV.vec .nil []] 0 [.sl 0 14 0 us.length]=[.sl 0 14 0 us.length]:=rfl;rw[j];simp[go_sem,ab.empty,Fz,l,t,aQ,E,aC G,ο D,m,K,J,y];simp[bW];refine bz (oW (abK (id:=0) (p:=1) (k:=us.length) (us:=gh [x] r) a aa (gh [x] r) [] _ _ rfl B ⟨none,q⟩ ?_ ?_ ?_ ?_)) ?_
   case refine_5=>
    rintro _ ⟨e,ae,H',rfl,⟨rfl,b,g,⟨tp,h3⟩,C⟩|⟨rfl,b,g,h3⟩⟩
    ·simp[aGj] at b;rw[μ b];simp only[go_sem,seval,C,results40];refine⟨_,_,rfl,?_⟩
     have I:=apJ h3 g a (λu H=>v u (by
      rw[d];rcases NP H with h|h
      ·rw[aE8] at h;exact h▸Ρ
      ·exact Κ _ h))
     rw[κ (by simp[AV.erase,AV.bare,AV.aq,AV.aq.go]),I];have F:tj (.ok (gh [x] r))=.tup [.rptr [.vec .ro (vU (gh [x] r))],.i 0]:=by simp[tj,(Iw (n:=(gh [x] r).length) aa)]
     have o:=Oz (.ok (gh [x] r));rw[F] at o⊢;simp only[an];rw[μ o]
    ·simp[aGj] at b h3;rw[κ b];simp only[go_sem,seval,g,h3,results40];exact⟨_,_,rfl,rfl⟩
   all_goals simp[go_sem,]
   all_goals(try rfl)
def Rp:List FuncId:=[5,16,17,18]
def apK:List FuncId:=[5,16,17,18,39,40,41,42]
noncomputable def fc:Env:={P:=prog,G:=λf=>Rp.contains f,cl:=λf=>apK.contains f,fq:=λ_=>false,dyn:=λ_=>false,df:=λ_=>false,ext:=bG (aM ju [39,41]) (bG (aM gj [40]) (aM eU [42]))}
def apL:Rp.all (okF fc)=true:=af
def ayI:fc.P=prog:=(rfl)
def ayJ:fc.fq=λ_=>false:=(rfl)
def ayK(i):fc.dyn i=false:=(rfl)
attribute [go_sem] ayI ayJ ayK
def au7(args)(H):fc.ext 39 args H=aM ju [39,41] 39 args H:=za (a:=aM ju [39,41]) (b:=bG (aM gj [40]) (aM eU [42])) (lS (a:=aM gj [40]) (b:=aM eU [42]) (eZ rfl) · · |>.trans (eZ rfl _ _)) args H
def au8(args)(H):fc.ext 41 args H=aM ju [39,41] 41 args H:=za (a:=aM ju [39,41]) (b:=bG (aM gj [40]) (aM eU [42])) (lS (a:=aM gj [40]) (b:=aM eU [42]) (eZ rfl) · · |>.trans (eZ rfl _ _)) args H
def au9(args)(H):fc.ext 40 args H=aM gj [40] 40 args H:=(lS (a:=aM ju [39,41]) (b:=bG (aM gj [40]) (aM eU [42])) (f:=40) (eZ rfl) args H).trans (za (a:=aM gj [40]) (b:=aM eU [42]) (f:=40) (eZ rfl) args H)
def ava(args)(H):fc.ext 42 args H=aM eU [42] 42 args H:=(lS (a:=aM ju [39,41]) (b:=bG (aM gj [40]) (aM eU [42])) (f:=42) (eZ rfl) args H).trans (lS (a:=aM gj [40]) (b:=aM eU [42]) (f:=42) (eZ rfl) args H)
abbrev Md:=List UInt8×List UInt8
def fK(p:Md):AV:=.agg [.str p.1,.str p.2]
def dU(u:Un):List AV:=pG u u.b2
def apM(p)(H):bu fc 39 [.agg [.str p.1,.str p.2]] H=some (.agg (cU (eK p)),H):=ja (fs:=[39,41]) rfl rfl au7 rfl (ac8 p).1 (oE _ _) (qJ _ _) H
def apN(p)(H):bu fc 41 [.agg [.str p.1,.str p.2]] H=some (.agg (dU (eK p)),H):=ja (fs:=[39,41]) rfl rfl au8 rfl (ac8 p).2 (oE _ _) (qJ _ _) H
def apO(s)(H):bu fc 42 [.str s] H=some (.bool (rQ s),H):=ja (fs:=[42]) rfl rfl ava rfl (akG s) rfl rfl H
def akO(x:Except Nat (List Un)):(tj x).erase=tj x:=by cases x<;>rfl
def apP(o:Ab.Own)(us:List Un)(c:o.bare=aD us.length)(a:∀u∈us,db u.tr<=60)(b:us.length<=1000000)(H):bu fc 40 [.vec o (vU us)] H=some (tj (qv us),H):=
 ja (fs:=[40]) rfl rfl au9 rfl (by
  rw[<-HZ];simp[AV.erase,AV.bare,c]
  exact aCp us a b) (akO _) (Oz _) H
attribute [go_sem] apM apN apO
def akP(nm tx)(b1 b2):db (lB nm tx b1 b2).tr<=60:=by
 unfold lB
 cases h:jP tx with
 |error q=>obtain⟨e,a⟩:=q;show db dR<=60;decide
 |ok q=>obtain⟨l,t⟩:=q;exact(Iq h).dp
def apQ(p):db (eK p).tr<=60:=akP _ _ _ _
def KS(o){l:List Md}{i:Nat}{p:Md}(h:l[i]? =some p):dW prog 22 (.vec o (l.map fK)) (.i i)=some (.rptr [.str p.1,.str p.2]):=rP Qi JF fK o h rfl
def yP(l:List Md):(l.map fK).length=l.length:=Θ ..
def Dg:∀l:List Md,AV.aq.go (l.map fK)=true
 |[]=>rfl
 |x::l=>by show((fK x).aq&&AV.aq.go (l.map fK))=true;rw[Dg l];rfl
noncomputable def Ma:=f16.c.r.r.l.r.b.b
def abL{o:Ab.Own}{l:List Md}{m:Int}(z:l.length<=9223372036854775807):∀d i x α H,i+d=l.length->α 0=.vec o (l.map fK)->α 1=.i m->α 5=.i x->α 8=.vec o (l.map fK)->α 9=.i l.length->α 10=.i i->
  aF (aL (aT fc Ma) α H) λe t H'=>(e=.exit 0/\t 0=.vec o (l.map fK))\/(e=.ret/\t 4=.bool false)
 |0,i,x,α,⟨n,L⟩,v,j,h,h5,g,c,k=>by have q:Ma=.seq _ (.seq _ (.seq (.block _ (.seq _ (.seq _ (.seq _ _)))) _)):=rfl;have f:=dY (a:=i) (b:=l.length) aa;rw[aJ,q];simp only[go_sem,seval,c,k,f];exact .inl ⟨aI,by simp[go_sem,j]⟩
 |d+1,i,x,α,⟨n,L⟩,v,j,h,h5,g,c,k=>by
  have q:Ma=.seq _ (.seq _ (.seq (.block _ (.seq _ (.seq _ (.seq _ _)))) _)):=rfl;have f:=ec (a:=i) (b:=l.length) aa;obtain⟨p,w⟩:=fo (show i<l.length by omega);have u:=KS o w;have w1:=gK (i+1) (i+1:Nat);have s:=bf (n<n+1);rw[aJ,q];obtain⟨y,r⟩:∃y:Int,y=IntKind.i64.wrap (x+IntKind.i64.wrap ((p.1.length:Int)+(p.2.length:Int))):=⟨_,rfl⟩
  cases hc:decide (y>m) with
  |true=>
   simp only[go_sem,seval,j,h,h5,g,c,k,f,u,s,<-r,hc];first|trivial|exact .inr ⟨rfl,by simp[go_sem,]⟩
  |false=>
   simp only[go_sem,seval,h,h5,g,c,k,f,u,w1,s,<-r,hc];refine(λy α H=>abL (o:=o) (m:=m) z d (i+1) y α H aa) y _ _ ?_ ?_ ?_ ?_ ?_ ?_;all_goals simp[go_sem,j,h,g,c]
def apR(ko)(l:List Md)(m:Int)(d:l.length<=9223372036854775807):∃b,aK prog (run fc) 16 [.vec (aD ko) (l.map fK),.i m]=some (.bool b):=by
 suffices hh:∃v,aK prog (run fc) 16 [.vec (aD ko) (l.map fK),.i m]=some v/\∃b,v=.bool b by obtain⟨v,h,b,rfl⟩:=hh;exact⟨b,h⟩
 refine yl (c:=.seq _ (.seq _ (.seq (.seq _ (.block 0 (.loop Ma))) _))) rfl rfl func16 rfl (by rw[ntmps16];simp) (bE:=[.vec (aD ko) (l.map fK),.i m]) (by simp[AV.erase,AV.bare,oq]) ?_ ?_
 ·show((AV.vec (aD ko) (l.map fK)).aq&&_)=true;rw[jO (Dg l)];rfl
 simp only[go_sem,seval,ab.empty,yP];simp only[bW];refine bz (oW (abL (o:=aD ko) (l:=l) (m:=m) d l.length 0 0 _ _ aa ?_ ?_ ?_ ?_ ?_ ?_)) ?_
 case refine_7=>
  rintro _ ⟨e,ae,H',rfl,⟨rfl,a⟩|⟨rfl,f⟩⟩
  ·simp only[go_sem,seval,a,yP,results16];exact⟨_,_,_,rfl,rfl,_,rfl⟩
  ·simp only[go_sem,seval,f,results16];exact⟨_,_,_,rfl,rfl,_,rfl⟩
 all_goals simp[go_sem,]
 all_goals(try rfl)
def gU(u:Un):AV:=.agg (cU u)
def aCq(u):(gU u).width=some 14:=rfl
noncomputable def Mb:=f17.c.r.r.r.l.r.b.b
def avb(u)(H):dZ prog 118 1 [(0,.agg (cU u))] H=some (.vec .full [.agg (cU u)],H):=by have h:=vB X9 (.agg (cU u)) (by rw[show(AV.agg (cU u)).erase=.agg (cU u) from oE _ _];rfl) (by rw[show(AV.agg (cU u)).erase=.agg (cU u) from oE _ _];rfl) aA H;rwa [show(AV.agg (cU u)).erase=.agg (cU u) from oE _ _] at h
def abM{o:Ab.Own}{l:List Md}(B:l.length<=8):∀r us o4 α H,l.drop us.length=r->us.length+r.length=l.length->cY H 78 o4 us.length->α 4=.vec o4 (vU us)->α 10=.vec o (l.map fK)->α 11=.i l.length->α 12=.i us.length->
  aF (aL (aT fc Mb) α H) λe x H'=>e=.exit 0/\∃d,cY H' 78 d (us++r.map eK).length/\x 4=.vec d (vU (us++r.map eK))
 |[],us,o4,α,⟨n,L⟩,s,u,hg,q,h,f,g=>by have w:Mb=.seq _ (.seq _ (.seq (.block _ (.seq _ _)) _)):=rfl;have v:=dY (a:=us.length) (b:=l.length) (by simp at u;omega);rw[aJ,w];simp only[go_sem,seval,f,g,v];refine⟨aI,o4,?_⟩;simp;exact⟨hg,by simp[go_sem,q]⟩
 |p::r,us,o4,α,⟨n,L⟩,s,u,hg,q,h,f,g=>by
  have w:Mb=.seq _ (.seq _ (.seq (.block _ (.seq _ _)) _)):=rfl;simp at u;have v:=ec (a:=us.length) (b:=l.length) aa;have A:l[us.length]? =some p:=by have:=Ι (·[0]?) s;simpa using this
  have E:l.drop (us.length+1)=r:=by rw[<-List.drop_drop,s];rfl
  have y:=bf (n<n+1);have C:cY ⟨n+1,(n,.k 65 [.str p.1,.str p.2])::L⟩ 78 o4 us.length:=hg.cj λj m D=>by obtain⟨q1,F⟩:=ai.1 D;exact ai.2 ⟨aa,by rw[bo,bM];exact F⟩
  obtain⟨d,H',a1,a2,a3⟩:=CD (m:=λ_=>false) X9 rfl aCq .full (eK p) C aa aa;have z:cH (λ_=>false) prog 118 118 (.vec o4 (vU us)) (.vec .full [.agg (cU (eK p))]) ⟨n+1,(n,.k 65 [.str p.1,.str p.2])::L⟩=some (.vec d (vU (us++[eK p])),H'):=a1;have c:((us++[eK p]).length:Int)=((us.length+1:Nat):Int):=ah;have ih:=λα=>abM (o:=o) B r (us++[eK p]) d α H' (by rw[τ];exact E) aP a2;rw[c] at ih;rw[aJ,w];simp only[go_sem,seval,q,h,f,g,v,KS o A,(eN us.length aa),y,avb,cG,z];refine aW (ih _ ?_ ?_ ?_ ?_) ?_
  case refine_5=>
   rintro e x sD ⟨rfl,t,b1,b2⟩;rw[Λ] at b1 b2;exact⟨rfl,t,b1,b2⟩
  all_goals simp[go_sem,h,f]
noncomputable def nR(l:List Md):Except Nat (List Un):=qv (l.map eK)
def abN(b:Nat)(l:List Md)(hl:l.length<=9223372036854775807):aK prog (run fc) 17 [.vec (aD b) (l.map fK)]=some (tj (nR l)):=by
 refine eX (c:=.seq _ (.seq (.seq _ (.cond _ _ _)) (.seq _ (.seq (.seq _ (.block 0 (.loop Mb))) _)))) rfl rfl func17 rfl (by rw[ntmps17];simp) (bE:=[.vec (aD b) (l.map fK)]) (by simp[AV.erase,AV.bare,oq]) ?_ ?_ (Oz _)
 ·show((AV.vec (aD b) (l.map fK)).aq&&_)=true;rw[jO (Dg l)];rfl
 by_cases h:l.length>8
 ·have d:=bH ((l.length:Int)>8);have:nR l=.error 5:=by unfold nR qv;rw[Θ,μ h]
  rw[this];simp only[go_sem,seval,ab.empty,yP,d,qI,results17];exact⟨_,rfl,rfl⟩
 ·have d:=bU ((l.length:Int)>8);simp[go_sem,ab.empty,yP,d,jy];simp[bW];refine bz (dm (abM (o:=aD b) (l:=l) aa l [] .nil _ _ rfl ah (.inl ⟨rfl,rfl⟩) ?_ ?_ ?_ ?_)) ?_
  case refine_5=>
   rintro _ ⟨ae,H',rfl,j,g,f⟩;simp only[Ο] at g f
   have a:=λH=>apP j (l.map eK) g.bare (λu i=>by
    obtain⟨p,_,rfl⟩:=aEI.1 i
    exact apQ p) (by rw[Θ];omega) H
   have:nR l=qv (l.map eK):=rfl;rw[this]
   cases zW:qv (l.map eK) with
   |error e=>rw[zW] at a;simp only[go_sem,seval,f,a,tj,results17];exact⟨_,rfl,rfl⟩
   |ok us=>rw[zW] at a;simp only[go_sem,seval,f,a,tj,results17];exact⟨_,rfl,rfl⟩
  all_goals simp[go_sem,]
  all_goals(try rfl)
def hU(u:Un):AV:=.agg (dU u)
def wU(us:List Un):List AV:=us.map hU
def Gk(u):(hU u).width=some 14:=rfl
def w8(us:List Un):(wU us).length=us.length:=by simp[wU]
def Dh(u:Un):(AV.agg (dU u)).erase=.agg (dU u):=oE _ _
def Rq:∀us:List Un,AV.aq.go (wU us)=true
 |[]=>rfl
 |u::us=>by show((AV.agg (dU u)).aq&&AV.aq.go (wU us))=true;rw[show(AV.agg (dU u)).aq=true from qJ u u.b2,Rq us];rfl
def so(o){us}{i:Nat}{u:Un}(h:us[i]? =some u):dW prog 24 (.vec o (wU us)) (.i i)=some (.rptr (dU u)):=rP Qj JG hU o h rfl
def avc(u:Un):bV prog 91 0 (.rptr (dU u))=some (.rptr (dU u)):=Z1 _ _ _ _ _ _ _ _ _ _ _ _ _ _
def mn(u:Un):(dU u)[0]? =some (.str u.nm):=rfl
attribute [go_sem] avc
def apS(nm tx)(b1 b2):(lB nm tx b1 b2).nm=nm:=by
 unfold lB
 cases jP tx with
 |error q=>obtain⟨e,a⟩:=q;rfl
 |ok q=>obtain⟨l,t⟩:=q;rfl
noncomputable def xT:=f18.c.r.r.r.l.r.b.b
noncomputable def G4:=xT.r.l.b.r.l.b.b
noncomputable def Mf:=f18.c.r.r.r.r.l.r.b.b
def aac{o o4}{l:List Md}{acc:List Un}{i:Nat}{p:Md}(t:l[i]? =some p)(A:acc.length<=8):∀j a α H,acc=j.reverse++a->qf (eK p) acc=(pn (eK p) j).reverse++a->α 0=.vec o (l.map fK)->α 4=.vec o4 (wU acc)->α 5=.i i->α 6=.i j.length->
  aF (aL (aT fc G4) α H) λe g H'=>e=.exit 2/\H'=H/\g 0=.vec o (l.map fK)/\g 4=.vec o4 (wU acc)/\g 5=.i i/\∃y:Nat,y<=acc.length/\qf (eK p) acc=acc.take y++eK p::acc.drop y/\g 6=.i y
 |[],a,α,⟨n,L⟩,h,hi,d,f,h5,c=>by
  have q:G4=.seq _ _:=rfl;have m:decide (((0:Nat):Int)>0)=false:=rfl;simp at c;rw[aJ,q];simp only[go_sem,seval,d,f,h5,c];refine⟨aI,aI,?_,?_,?_,0,aFc _,by rw[hi,aFB,aEQ,h];rfl,?_⟩;all_goals simp[go_sem]
 |y::r,a,α,⟨n,L⟩,h,hi,d,f,h5,c=>by
  have q:G4=.seq _ _:=rfl;have k:acc=r.reverse++y::a:=by rw[h];simp
  have hlen:r.length+1+a.length=acc.length:=by rw[k];simp;omega
  have m:=bH (((r.length+1:Nat):Int)>0);have w1:IntKind.i64.wrap (((r.length+1:Nat):Int)-1)=((r.length:Nat):Int):=vP (r.length+1) aa aa;have z:acc[r.length]? =some y:=by have:=w7 r.reverse y a;rw[aFA] at this;rw[k];exact this
  have v:=so o4 z;have u:=KS o t;have hg:=axf (eK p).nm y.nm;have s:(eK p).nm=p.1:=apS _ _ _ _;rw[s] at hg;simp only[Γ] at c;have b:pn (eK p) (y::r)=if Op.bytesLess (eK p).nm y.nm=true then y::pn (eK p) r else eK p::y::r:=rfl;rw[s] at b;rw[aJ,q]
  cases hc:Op.bytesLess p.1 y.nm with
  |true=>
   rw[hc] at hg b;rw[μ rfl] at b;simp only[go_sem,seval,d,f,h5,c,m,w1,v,u,mn,hg];refine aW (aac (o:=o) (o4:=o4) t A r (y::a) _ ⟨n,L⟩ k (by rw[hi,b];simp) ?_ ?_ ?_ ?_) ?_;case refine_5=>exact λe g H' x=>x
   all_goals simp[go_sem,d,f,h5]
  |false=>
   rw[hc] at hg b;rw[κ ah] at b;simp only[go_sem,seval,d,f,h5,c,m,w1,v,u,mn,hg];refine⟨aI,aI,?_,?_,?_,r.length+1,aa,?_,?_⟩
   case refine_4=>
    have w:r.length+1=(y::r).reverse.length:=ah;rw[hi,b];conv=>rhs;rw[h,w]
    rw[aGJ,aGI];simp
   all_goals simp[go_sem]
def avd(u)(H):dZ prog 24 1 [(0,.agg (dU u))] H=some (.vec .full [.agg (dU u)],H):=by have h:=vB CH (.agg (dU u)) (by rw[Dh];rfl) (by rw[Dh];rfl) aA H;rwa [Dh] at h
def abO{o:Ab.Own}{l:List Md}(M:l.length<=8):∀r i acc o4 α H,l.drop i=r->i+r.length=l.length->acc.length=i->cY H 91 o4 acc.length->α 0=.vec o (l.map fK)->α 4=.vec o4 (wU acc)->α 5=.i i->
  aF (aL (aT fc xT) α H) λe g H'=>e=.exit 0/\∃w,cY H' 91 w (gh acc (r.map eK)).length/\g 4=.vec w (wU (gh acc (r.map eK)))
 |[],i,acc,o4,α,⟨n,L⟩,h,j,z,hg,d,f,h5=>by have q:xT=.seq (.seq _ _) (.seq (.block _ (.seq _ (.seq (.block _ (.loop G4)) _))) _):=rfl;have k:=dY (a:=i) (b:=l.length) (by simp at j;omega);rw[aJ,q];simp only[go_sem,seval,d,h5,yP,k];exact⟨aI,o4,hg,by simp[go_sem,f];rfl⟩
 |p::r,i,acc,o4,α,⟨n,L⟩,h,j,z,hg,d,f,h5=>by
  have q:xT=.seq (.seq _ _) (.seq (.block 1 (.seq _ (.seq (.block 2 (.loop G4)) _))) _):=rfl;simp at j;have k:=ec (a:=i) (b:=l.length) aa;have s:l[i]? =some p:=by have:=Ι (·[0]?) h;simpa using this
  have N:l.drop (i+1)=r:=by rw[<-List.drop_drop,h];rfl
  have K:(wU acc).length=acc.length:=w8 acc;rw[aJ,q];simp only[go_sem,seval,d,f,h5,yP,k,K];simp[bW];refine bz (dm (aac (o:=o) (o4:=o4) (acc:=acc) (i:=i) s aa acc.reverse [] _ ⟨n,L⟩ ah (by simp[qf]) ?_ ?_ ?_ ?_)) ?_
  case refine_5=>
   rintro _ ⟨g,H',rfl,rfl,a0,a4,a5,y,u,D,a6⟩;obtain⟨x,t,p1,A,ka⟩:=CC (m:=λ_=>false) CH rfl Gk (H:=⟨n,L⟩) (o:=.nil) .ro (es:=[]) (xs:=acc.take y) (.inl ⟨rfl,rfl⟩) aP aP;obtain⟨I,J,B,C,kb⟩:=CD (m:=λ_=>false) CH rfl Gk .full (eK p) A aP aP;obtain⟨oc,F,p3,v,kc⟩:=CC (m:=λ_=>false) CH rfl Gk (yH o4 none) (xs:=acc.drop y) C aP aP;have O:[]++acc.take y++[eK p]++acc.drop y=qf (eK p) acc:=by rw[D];simp
   rw[O] at p3 v;have G:cH (λ_=>false) prog 24 24 (.vec .nil []) (.vec .ro ((acc.take y).map hU)) ⟨n,L⟩=some (.vec x (([]++acc.take y).map hU),t):=p1;have P:cH (λ_=>false) prog 24 24 (.vec x (([]++acc.take y).map hU)) (.vec .full [.agg (dU (eK p))]) t=some (.vec I (([]++acc.take y++[eK p]).map hU),J):=B;simp[wU] at a4;obtain⟨nc,Lc⟩:=F;simp only[go_sem,seval,a0,a4,a5,a6,XV CH Gk o4 acc y u,XW CH Gk o4 acc y u,G,P,p3,KS o s,(eN i aa),avd,cG,jy];have c:(qf (eK p) acc).length=i+1:=by rw[Ix,z]
   refine aW (abO (o:=o) M r (i+1) (qf (eK p) acc) oc _ ⟨nc,Lc⟩ N aa c v ?_ ?_ ?_) ?_;case refine_4=>exact λe g H' E=>E
   all_goals simp[go_sem,a0]
   all_goals rfl
  all_goals simp[go_sem,d,f,h5,aFA]
def aad{us:List Un}{o:Ab.Own}(B:us.length<=8):∀r pre α H,us=pre++r->α 4=.vec o (wU us)->α 8=.i pre.length->
  aF (aL (aT fc Mf) α H) λe p H'=>(e=.exit 4/\lC (pre.getLast?.map (·.nm)) r=0/\p 4=.vec o (wU us))\/(e=.ret/\lC (pre.getLast?.map (·.nm)) r≠0/\p 2=.vec .nil []/\p 3=.i (lC (pre.getLast?.map (·.nm)) r:Nat))
 |[],pre,α,⟨n,L⟩,j,g,c=>by have y:Mf=.seq (.seq _ _) (.seq (.block _ (.seq (.seq _ _) (.seq _ _))) _):=rfl;rw[Η] at j;have l:(wU us).length=us.length:=w8 us;have d:=dY (a:=pre.length) (b:=us.length) (by rw[j];exact aEu _);rw[aJ,y];simp only[go_sem,↓reduceIte,Nat.reduceEqDiff,ne_eq,reduceCtorEq,g,c,l,d];refine .inl ⟨aI,rfl,?_⟩;simp only[go_sem]
 |u::r,pre,α,⟨n,L⟩,j,g,c=>by
  have y:Mf=.seq (.seq _ _) (.seq (.block _ (.seq (.seq _ _) (.seq _ _))) _):=rfl;have s:pre.length<us.length:=by rw[j];simp
  have l:(wU us).length=us.length:=w8 us;have d:=ec s;have w1:=eN pre.length aa;have w:us[pre.length]? =some u:=by rw[j];exact w7 _ _ _
  have k:=so o w;have D:((pre++[u]).getLast?.map (·.nm))=some u.nm:=ah;have E:us=(pre++[u])++r:=by rw[j];simp
  have F:(((pre++[u]).length:Nat):Int)=((pre.length+1:Nat):Int):=ah;have ih:=λα=>aad (o:=o) B r (pre++[u]) α ⟨n,L⟩ E;rw[D,F] at ih;rw[aJ,y];have I:∀q,lC q (u::r)=if rQ u.nm=true then(if q=some u.nm then 4 else lC (some u.nm) r) else 1:=λq=>rfl;rw[I]
  cases hn:rQ u.nm with
  |false=>
   simp only[go_sem,↓reduceIte,Nat.reduceEqDiff,ne_eq,reduceCtorEq,aEW,g,c,d,k,l,mn,hn,χ,jy];refine .inr ⟨aI,ah,?_,?_⟩;all_goals(try simp only[go_sem,])
   all_goals(try rfl)
  |true=>
   simp only[aEl];rcases List.eq_nil_or_concat pre with rfl|⟨f,v,rfl⟩
   ·have m:decide (((0:Nat):Int)>0)=false:=rfl;simp only[Χ] at c d w1 k ih;rw[κ (show ¬(Option.map (λx=>x.nm) ([]:List Un).getLast? =some u.nm) by simp)];simp only[go_sem,↓reduceIte,Nat.reduceEqDiff,Nat.reduceAdd,ne_eq,g,c,d,m,k,l,mn,hn,ω,w1];refine ih _ ?_ ?_;all_goals simp only[go_sem,↓reduceIte,Nat.reduceEqDiff,Nat.reduceAdd,g]
   ·simp only[List.concat_eq_append] at j s d w1 w k c ih⊢;have C:(f++[v]).length=f.length+1:=ah;rw[C] at s d w1 w k c ih;have m:=bH (((f.length+1:Nat):Int)>0);have A:IntKind.i64.wrap (((f.length+1:Nat):Int)-1)=((f.length:Nat):Int):=vP (f.length+1) aa aa;have G:us[f.length]? =some v:=by rw[j,Λ];exact w7 _ _ _
    have z:=so o G;have hg:(Option.map (λx=>x.nm) (f++[v]).getLast? =some u.nm)↔v.nm=u.nm:=ah
    cases hq:(u.nm==v.nm) with
    |true=>
     have t:v.nm=u.nm:=by simpa using(eq_of_beq hq).symm
     rw[μ (hg.2 t)];simp only[go_sem,↓reduceIte,Nat.reduceEqDiff,ne_eq,reduceCtorEq,aEW,g,c,d,m,k,z,l,mn,hn,hq,ω,A,jy];refine .inr ⟨aI,ah,?_,?_⟩;all_goals(try simp only[go_sem,])
     all_goals(try rfl)
    |false=>
     have t:¬v.nm=u.nm:=λh=>by rw[h] at hq;simp at hq
     rw[κ (λh=>t (hg.1 h))];simp only[go_sem,↓reduceIte,Nat.reduceEqDiff,ne_eq,g,c,d,m,k,z,l,mn,hn,hq,ω,w1,A];refine ih _ ?_ ?_;all_goals simp only[go_sem,↓reduceIte,Nat.reduceEqDiff,g]
def FW:Except Nat (List Un)->AV
 | .ok us=>.tup [.vec (aD us.length) (wU us),.i 0]
 | .error e=>.tup [.vec .nil [],.i e]
def akQ(x:Except Nat (List Un)):(FW x).aq=true:=by
 cases x with
 |error e=>rfl
 |ok us=>show((AV.vec (aD us.length) (wU us)).aq&&_)=true;rw[jO (Rq us)];rfl
def ave(ko)(l:List Md)(hl:l.length<=9223372036854775807):aK prog (run fc) 18 [.vec (aD ko) (l.map fK)]=some (FW (nR l)):=by
 refine eX (c:=.seq _ (.seq (.seq _ (.cond _ _ _)) (.seq _ (.seq (.seq _ (.block 0 (.loop xT))) (.seq (.seq _ (.block 4 (.loop Mf))) _))))) rfl rfl func18 rfl (by rw[ntmps18];simp) (bE:=[.vec (aD ko) (l.map fK)]) (by simp[AV.erase,AV.bare,oq]) ?_ ?_ (akQ _)
 ·show((AV.vec (aD ko) (l.map fK)).aq&&_)=true;rw[jO (Dg l)];rfl
 by_cases f:l.length>8
 ·have b:=bH ((l.length:Int)>8);have:nR l=.error 5:=by unfold nR qv;rw[Θ,μ f]
  rw[this];simp only[go_sem,seval,ab.empty,yP,b,jy,results18];exact⟨_,rfl,rfl⟩
 ·have b:=bU ((l.length:Int)>8);have j:nR l=if lC none (gh [] (l.map eK))=0 then .ok (gh [] (l.map eK)) else .error (lC none (gh [] (l.map eK))):=by unfold nR qv;rw[Θ,κ f]
  have hlen:(gh [] (l.map eK)).length=l.length:=by rw[H7];simp
  rw[j];simp[go_sem,ab.empty,yP,b,jy];simp[bW];refine bz (dm (abO (o:=aD ko) (l:=l) aa l 0 [] .nil _ _ rfl ah rfl (.inl ⟨rfl,rfl⟩) ?_ ?_ ?_)) ?_
  case refine_4=>
   rintro _ ⟨ae,H',rfl,i,g,h⟩;simp[go_sem];simp[bW];refine bz (oW (aad (o:=i) (us:=gh [] (l.map eK)) aa (gh [] (l.map eK)) [] _ H' rfl ?_ ?_)) ?_
   case refine_3=>
    rintro _ ⟨e,qQ,sD,rfl,⟨rfl,a,d⟩|⟨rfl,a,d,h3⟩⟩
    ·simp[aGj] at a;rw[μ a];simp only[go_sem,seval,d,results18];refine⟨_,rfl,?_⟩;simp[AV.erase,AV.bare,g.bare,FW,aD]
    ·simp[aGj] at a h3;rw[κ a];simp only[go_sem,seval,d,h3,results18];exact⟨_,rfl,rfl⟩
   all_goals simp[go_sem,h]
   all_goals(try rfl)
  all_goals simp[go_sem,]
  all_goals(try rfl)
def Vi(m:Mp)(l)(n)(wr):(fg m l n wr).bs=m.bs:=by
 unfold fg;split
 ·rfl
 ·split<;>rfl
section
variable {Pb:Bi->Prop}
def I3{m:Mp}(l)(n:Nd)(k item)(h:∀b∈m.bs,Pb b)(hb:Pb ⟨n.a,k,n.w,item⟩):∀b∈(fz m l n k item).bs,Pb b:=λb hm=>by
 simp only[fz] at hm;rcases aEo.1 hm with c|c
 ·exact h b c
 ·grind
def WH(a:∀b,b.k=3\/b.k=4->Pb b)(item):∀ks m l,(∀b∈m.bs,Pb b)->∀b∈(iB item m l ks).1.bs,Pb b
 |[],m,l,h=>h
 |n::r,m,l,h=>WH a item r _ _ (I3 l n 3 item h (a _ (.inl rfl)))
mutual
def aae(hP:∀b,b.k=3\/b.k=4->Pb b)(item)(m:Mp)(l)(n)(h:∀b∈m.bs,Pb b):∀b∈(eP item m l n).1.bs,Pb b:=by
 match n with
 | .mk k f t w a ks=>
  rw[eP];by_cases nu:k=23
  ·rw[μ nu];simp[Vi];exact h
  rw[κ nu];by_cases nv:k=28
  ·rw[μ nv];exact WI hP item true m l ks h
  rw[κ nv]
  have hm:∀b∈(if k=8 then fg m l (.mk k f t w a ks) true else m).bs,Pb b:=by
   split
   ·rw[Vi];exact h
   ·exact h
  have hk:=λl=>Pu hP item (if k=8 then fg m l (.mk k f t w a ks) true else m) (if k=6 then .fu false::l else l) ks;simp only;have hq:=Pu hP item (if k=8 then fg m l (.mk k f t w a ks) true else m) (if k=6 then .fu false::l else l) ks hm;by_cases h7:k=7
  ·rw[μ h7];exact I3 _ _ 4 item hq (hP _ (.inr rfl))
  rw[κ h7];by_cases h6:k=6
  ·rw[μ h6];exact hq
  ·rw[κ h6];exact hq
def Pu(hP:∀b,b.k=3\/b.k=4->Pb b)(item)(m:Mp)(l)(ks)(h:∀b∈m.bs,Pb b):∀b∈(dE item m l ks).1.bs,Pb b:=by
 match ks with
 |[]=>exact h
 |n::r=>rw[dE];exact Pu hP item _ _ r (aae hP item m l n h)
def WI(hP:∀b,b.k=3\/b.k=4->Pb b)(item)(lam)(m:Mp)(l)(ks)(h:∀b∈m.bs,Pb b):∀b∈(kf item lam m l ks).bs,Pb b:=by
 match ks with
 |[p,t,b]=>rw[kf];exact aae hP item _ _ b (WH hP item p.ks _ _ h)
 |[]=>exact h
 |[_]=>exact h
 |[_,_]=>exact h
 |_::_::_::_::_=>exact h
end
end
def Eb(ks:List Nd)(b:Bi):Prop:=1<=b.k/\b.k<=4/\(b.k=1->∃n,ks[b.item]? =some n/\n.k=2)
def avf(ks:List Nd):∀b:Bi,b.k=3\/b.k=4->Eb ks b:=λb h=>⟨aa,aa,λh1=>aa⟩
def I5(ks:List Nd):∀r i m l,ks.drop i=r->(∀b∈m.bs,Eb ks b)->∀b∈(eh i m l r).1.bs,Eb ks b
 |[],i,m,l,c,h=>h
 |n::r,i,m,l,c,h=>by
  have f:ks[i]? =some n:=by have:=Ι (·[0]?) c;simpa using this
  have a:ks.drop (i+1)=r:=by rw[<-List.drop_drop,c];rfl
  rw[eh];split
  ·rename_i d;exact I5 ks r (i+1) _ _ a (I3 l n 1 i h ⟨ah,ah,λ_=>⟨n,f,d⟩⟩)
  ·split
   ·exact I5 ks r (i+1) _ _ a (I3 l n 2 i h ⟨ah,ah,λe=>by simp at e⟩)
   ·exact I5 ks r (i+1) _ _ a h
def aaf(ks)(l):∀r i m,(∀b∈m.bs,Eb ks b)->∀b∈(hC l i m r).bs,Eb ks b
 |[],i,m,h=>h
 |n::r,i,m,h=>by
  rw[hC];refine aaf ks l r (i+1) _ ?_;split
  ·exact WI (avf ks) i false m l n.ks h
  ·exact h
def akR(n:Nd):∀b∈(jN n).bs,Eb n.ks b:=by unfold jN;exact aaf n.ks _ n.ks 0 _ (I5 n.ks n.ks 0 _ _ rfl (λb hb=>by cases hb))
def aag{c}:∀{l:List Nd} {x:Nd},eH c l=true->x∈l->wf c x=true
 |n::r,x,h,b=>by
  simp[eH] at h;rcases Υ.1 b with rfl|a
  ·exact h.1
  ·exact aag h.2 a
def apT{c}{l}(h:cL [c] l=true):∃y,l=[y]:=by
 cases l with
 |nil=>simp[cL] at h
 |cons y r=>
  cases r with
  |nil=>exact⟨y,rfl⟩
  |cons z r=>simp[cL] at h
def avg{n:Nd}(h:wf .item n=true)(b:n.k=2):∃y,n.ks=[y]:=by
 cases n with
 |mk k f t w a ks=>simp[Nd.k] at b;subst b;simp[wf] at h;exact apT h
structure jb(u:Un):Prop where
 db:db u.tr<=60
 fT:u.mp.bs.length+u.mp.ms.length<=4000
 tkl:u.tk.length<=4000
 nod:(lJ u.mp).Nodup
 lt:∀a∈lJ u.mp,a<u.tk.length
 Dw:u.tk.Pairwise λa b=>a.2.1<b.2.1
 kind:∀b∈u.mp.bs,1<=b.k/\b.k<=4
 use:∀b∈u.mp.bs,b.k=1->∃n y,u.tr.ks[b.item]? =some n/\n.ks=[y]
 aD3:fr u.tk.length u.tr=true
 wide:mx u.tr<=900000000000000000
 aX:(eT u.tr).length<=4000
 LF:∀x∈eT u.tr,x.f<u.tk.length/\∀y∈x.ks,y.f<u.tk.length
 all:(e_ u.tr).length<=1000000000
def avh:db dR<=60:=aA
def ayL:mx dR<=900000000000000000:=aA
def avi(nm tx)(b1 b2):jb (lB nm tx b1 b2):=by
 unfold lB
 cases h:jP tx with
 |error q=>obtain⟨e,a⟩:=q;exact⟨avh,ah,ah,by simp[lJ],by simp[lJ],ah,ah,ah,rfl,ayL,by show(eT dR).length<=4000;decide,λx i=>(by have r:eT dR=[]:=rfl;rw[show eT _=[] from r] at i;cases i),by show(e_ dR).length<=1000000000;decide⟩
 |ok q=>
  obtain⟨l,t⟩:=q;have c:=Iq h;obtain⟨p,m⟩:=c.nodup;have hb:=akR t;refine⟨c.dp,c.fT,c.len,p,m,c.Dw,λb hm=>⟨(hb b hm).1,(hb b hm).2.1⟩,λb hm d=> ?_,?_,c.mw,c.aX,c.LF,c.all⟩
  ·obtain⟨n,j,s⟩:=(hb b hm).2.2 d;obtain⟨y,o⟩:=avg (aag c.gd.w (Δ j)) s;exact⟨n,y,j,o⟩
  ·have hf:=c.gd.f;have d:=c.k;have g:=c.f
   cases t with
   |mk k f tt w a ks=>simp[Nd.k,Nd.f,Nd.ks] at d g hf;subst d g;simp only[fr,hf,Bool.and_true,aFm,aEn];exact .inr c.pos
def avj(p):jb (eK p):=avi _ _ _ _
def BP(u v:Un):Prop:=Op.bytesLess v.nm u.nm=false
def zX(u v:Un):Prop:=Op.bytesLess u.nm v.nm=true
def ayM{x y z}(h:bl x y=false)(k:bl y z=false):bl x z=false:=by
 cases c:bl x z with
 |false=>rfl
 |true=>
  cases d:bl y x with
  |true=>rw[Cs d c] at k;cases k
  |false=>have:=Jo h d;subst this;rw[c] at k;cases k
def Vj(x:Un):∀{l:List Un},l.Pairwise (λa b=>BP b a)->(pn x l).Pairwise (λa b=>BP b a)
 |[],h=>by simp[pn]
 |y::r,h=>by
  rw[aEK] at h;unfold pn
  cases hc:Op.bytesLess x.nm y.nm with
  |true=>
   rw[μ rfl,aEK];refine⟨λz c=> ?_,Vj x h.2⟩;rcases Oy c with rfl|c
   ·exact XG hc
   ·exact h.1 z c
  |false=>
   rw[κ ah,aEK];refine⟨λz c=> ?_,aEK.2 h⟩;rcases Υ.1 c with rfl|c
   ·exact hc
   ·exact ayM hc (h.1 z c)
def afW(x){l}(h:l.Pairwise BP):(qf x l).Pairwise BP:=by unfold qf;rw[aFS];exact Vj x (aFS.2 h)
def UQ:∀r acc,acc.Pairwise BP->(gh acc r).Pairwise BP
 |[],acc,h=>h
 |x::r,acc,h=>UQ r _ (afW x h)
def VU:∀r q,lC (some q.nm) r=0->(q::r).Pairwise BP->(q::r).Pairwise zX
 |[],q,h,b=>by simp
 |x::r,q,h,b=>by
  rw[aEK] at b;unfold lC at h;split at h
  ·split at h
   ·cases h
   ·rename_i d;have ih:=VU r x h b.2
    have a:bl q.nm x.nm=true:=by
     cases hc:bl q.nm x.nm with
     |true=>rfl
     |false=>exact(d (Ι some (Jo hc (b.1 x Ρ)))).elim
    rw[aEK];refine⟨λz c=> ?_,ih⟩;rcases Υ.1 c with rfl|c
    ·exact a
    ·exact Cs a ((aEK.1 ih).1 z c)
  ·cases h
structure gl(us:List Un):Prop where
 kW:∀u∈us,jb u
 gF:us.Pairwise zX
 fT:us.length<=8
def aah{l}{us}(h:nR l=.ok us):gl us:=by
 unfold nR qv at h;split at h
 ·cases h
 ·rename_i e;split at h
  ·rename_i a;simp at h;have d:=UQ (l.map eK) [] .nil;rw[h] at d a;refine⟨λu c=> ?_,?_,?_⟩
   ·rw[<-h] at c;rcases NP c with b|b
    ·cases b
    ·obtain⟨p,_,rfl⟩:=aEI.1 b;exact avj p
   ·cases us with
    |nil=>exact .nil
    |cons q r=>
     unfold lC at a;split at a
     ·split at a
      ·cases a
      ·exact VU r q a d
     ·cases a
   ·rw[<-h,H7];simp at e⊢;omega
  ·cases h
def iM(us:List Un)(w:List UInt8):Option Un:=us.find? λu=>u.nm==w
def OA{us}(b:us.Pairwise zX){u:Un}(h:u∈us):iM us u.nm=some u:=by
 unfold iM
 induction us with
 |nil=>cases h
 |cons x r ih=>
  rw[aEK] at b;rw[aE0];rcases Υ.1 h with rfl|c
  ·simp
  ·have:(x.nm==u.nm)=false:=by
    cases hq:(x.nm==u.nm) with
    |false=>rfl
    |true=>have a:=b.1 u c;unfold zX at a;rw[eq_of_beq hq] at a;have:=wG u.nm;rw[show Op.bytesLess u.nm u.nm=false from this] at a;cases a
   rw[this];exact ih b.2 c
def H8{us}{w}{u:Un}(h:iM us w=some u):u∈us/\u.nm=w:=by unfold iM at h;exact⟨aE2 h,by simpa using List.find?_some h⟩
def ox(bs:List Bi)(w:List UInt8):Option Nat:=(List.range bs.length).reverse.find? λi=>match bs[i]? with|some b=>decide (b.k=2)&&(b.w==w)|none=>false
def xx:List AV->Option (List Bi)
 |[]=>some []
 | .agg [.int .i64 a,.int .i64 k,.str l,.int .i64 i]::r=>if 0<=a/\0<=k/\0<=i then an (xx r) λzs=>some (⟨a.toNat,k.toNat,l,i.toNat⟩::zs) else none
 |_::_=>none
def ad9:Ab.Own->Bool
 | .nil=>true
 |_=>false
def tq:cu:=λf args H=>
 if f=135 then
  match args with
  |[.agg [_,_,_,_,_,_,_,_,_,.vec o es,_,_,_,_],.str w]=>if es.length*40<=140737488351232/\(!es.isEmpty||ad9 o)=true then an (xx es) λbs=>some (.i (dS (ox bs w)),H) else none
  |_=>none
 else none
def uG{T:Type}(f0:FuncId)(rest:List AV->Bool)(s:Nat)(dec:List AV->Option (List T))(enc:T->List AV)(gF:List T->List T):cu:=λf args H=>
 if f=f0 then
  match args with
  | .vec _ es::r=>if es.length<=1/\rest r=true then some (.tup [],H) else none
  | .sl id b off n::r=>
   if b=s/\off=0/\rest r=true/\n<=1099511627776 then
    match H.get id with
    |some (.row m et a cs)=>if a=s/\m=n then an (dec cs) λl=>if l.length=n then some (.tup [],H.set id (.row m et s ((gF l).flatMap enc))) else none else none
    |_=>none
   else none
  |_=>none
 else none
def sq(g:FuncId):List AV->Bool
 |[.fn (.func g') [] []]=>g'==g
 |_=>false
def xh:List AV->Option (List Int)
 |[]=>some []
 | .int .i64 n::r=>an (xh r) λl=>some (n::l)
 |_::_=>none
abbrev Sp:=List UInt8×Int
def mE(x:Sp):List AV:=[.str x.1,.i x.2]
def vT:List AV->Option (List Sp)
 |[]=>some []
 | .str w::.int .i64 n::r=>an (vT r) λl=>some ((w,n)::l)
 |_=>none
abbrev Fi:=List UInt8×Int×Int
def jv(x:Fi):List AV:=[.str x.1,.i x.2.1,.i x.2.2]
def uH:List AV->Option (List Fi)
 |[]=>some []
 | .str w::.int .i64 n::.int .i64 k::r=>an (uH r) λl=>some ((w,n,k)::l)
 |_=>none
def zY(x y:Sp):Bool:=Op.bytesLess x.1 y.1||((x.1==y.1)&&decide (x.2<y.2))
def Gl(x y:Int×Int):Bool:=decide (x.1<y.1)||(decide (x.1=y.1)&&decide (x.2<y.2))
def fU(x y:Fi):Bool:=Op.bytesLess x.1 y.1||((x.1==y.1)&&Gl x.2 y.2)
def mU(l:List Int):List Int:=l.mergeSort λx y=>decide (x<=y)
def zw(l:List Sp):List Sp:=l.mergeSort λx y=> !zY y x
def zy(l:List Fi):List Fi:=l.mergeSort λx y=> !fU y x
def w9:cu:=uG 57 (·.isEmpty) 1 xh (λn=>[.i n]) mU
def w_:cu:=uG 114 (sq 115) 2 vT mE zw
def yQ:cu:=uG 53 (sq 54) 3 uH jv zy
def xb:cu:=λf args H=>
 if f=30 then
  match args with
  | .vec _ es::r=>if es.length<=1/\sq 31 r=true then some (.tup [],H) else none
  |_=>none
 else none
end Go.Proofs.YtmehamiifalmaaaGreatDoor
namespace Go.Proofs.YtmehamiifalmaaaGreatDoor
open Go Go.Ab Go.RowKit Go.Proofs.Tryz
structure rD{T:Type}(enc:T->List AV)(fP:T->List Value)(s:Nat):Prop where
 len:∀x,(enc x).length=s
 one:∀x,∀u∈fP x,u.oneCell'=true
 oQ:∀σ x,au σ (enc x) (fP x)
 uniq:∀σ x us,au σ (enc x) us->us=fP x
def Yh{σ}:∀{cs ds:List AV} {us:List Value},au σ (cs++ds) us->∃u v,us=u++v/\au σ cs u/\au σ ds v
 |[],_,us,h=>⟨[],us,rfl,by simp[au],h⟩
 |c::cs,ds,us,h=>by simp[au] at h;obtain⟨u,r,rfl,d,e⟩:=h;obtain⟨a,b,rfl,h3,f⟩:=Yh e;exact⟨u::a,b,rfl,by simp only[au];exact⟨u,a,rfl,d,h3⟩,f⟩
section
variable {T:Type} {enc:T->List AV} {fP:T->List Value} {s:Nat}
def rD.Bq(e:rD enc fP s)(x:T):(fP x).length=s:=by rw[(e.oQ ⟨λ_ _=>none,λ_=>none,λ_ _=>none⟩ x).length,e.len]
def wI{A:Type}{f:T->List A}(h:∀x,(f x).length=s):∀l:List T,(l.flatMap f).length=l.length*s
 |[]=>by simp
 |x::l=>by rw[agX,τ,wI h l,h,Γ,aEM,aGL,aFp]
def rD.aea(e:rD enc fP s)(σ):∀l:List T,au σ (l.flatMap enc) (l.flatMap fP)
 |[]=>by simp[au]
 |x::l=>au.append (e.oQ σ x) (rD.aea e σ l)
def rD.adb(e:rD enc fP s)(σ):∀(l:List T) (us:List Value),au σ (l.flatMap enc) us->us=l.flatMap fP
 |[],us,h=>by simpa[au] using h
 |x::l,us,h=>by obtain⟨u,v,rfl,a,b⟩:=Yh h;rw[e.uniq σ x u a,rD.adb e σ l v b,agX]
def rD.aCr(e:rD enc fP s)(l:List T):∀u∈l.flatMap fP,u.oneCell'=true:=λu a=>by obtain⟨x,_,b⟩:=List.mem_flatMap.1 a;exact e.one x u b
def Pv{E}(y:ir E){f0}{rest}{dec}{gF}{rv}(e:rD enc fP s)(hc:kM E.P f0)(z:∀l,(gF l).length=l.length)
  (R:∀o es r H,es.length<=1->rest r=true->run E f0 (.vec o es::r) H=some (.tup [],H))
  (M:∀l cs,dec cs=some l->cs=l.flatMap enc) (X:∀σ r us,rest r=true->au σ r us->us=rv)
  (t:∀(b cap) (l:List T) (c:Array Value) (et) (w:World),w.heap[b]? =some (.cells c et (0,0))->c.toList.take (l.length*s)=l.flatMap fP->l.length*s<=c.size->l.length<=1099511627776->
   Calls E.P f0 (Value.slice (some ⟨b,0,none⟩) l.length cap::rv).toArray w λe w'=>e=.returned (.tuple #[])/\Below w.heap.size (w.setRow b ((gF l).flatMap fP++c.toList.drop (l.length*s)).toArray) w'):
  dK E.P (uG f0 rest s dec enc gF):=by
 intro f args H v H' a;unfold uG at a;split at a
 ·rename_i hf;subst hf;split at a
  ·rename_i o es r;split at a
   ·rename_i d;cases a;exact EI y f _ H _ _ (R o es r H d.1 d.2)
   ·cases a
  ·rename_i id s' off n r;split at a
   ·rename_i d;obtain⟨rfl,rfl,A,zE⟩:=d;split at a
    ·rename_i m et i cs hg;split at a
     ·rename_i d;obtain⟨rfl,rfl⟩:=d
      cases hp:dec cs with
      |none=>simp[hp,an] at a
      |some l=>
       simp only[hp,an] at a;split at a
       ·rename_i p;cases a;refine⟨hc,?_⟩;intro B W0 σ w us K k;simp[au] at k;obtain⟨u,W,rfl,J,x⟩:=k;have q:=X σ r W A x;subst q;simp only[aj] at J;obtain⟨b,cap,hb,kV,rfl,lA⟩:=J;obtain⟨b',zj,c,F,g,q2,I,q4,q5,U,Q,q8,N,Z,DU,Td⟩:=K.obj id _ hg;rw[hb] at F;cases F;rw[kV] at g;cases g;have L:cs.length=m*i:=N;have h:m*i<=c.size:=by rw[U];exact aEq _ Q
        have C:c.toList.take (m*i)=l.flatMap fP:=by refine e.adb σ l _ ?_;rw[<-(M l cs hp)];exact Z
        have Y:0+((gF l).flatMap enc).length<=cs.length:=by rw[wI e.len,z,p,L];omega
        obtain⟨b2,aBr,c2,G,_,j,_,D⟩:=K.YM (o:=0) hg (e.aea σ (gF l)) (e.aCr (gF l)) Y;rw[hb] at G;cases G;rw[I] at j;cases j;simp;rw[<-p] at C h⊢;refine(t b cap l c et w I C h aa).mono ?_;rintro e' w' ⟨rfl,S⟩;refine⟨_,rfl,σ,Ext.refl B σ,?_,by simp[aj,au]⟩;have y:(c.toList.take 0++(gF l).flatMap fP++c.toList.drop (0+((gF l).flatMap fP).length)).toArray=((gF l).flatMap fP++c.toList.drop (l.length*i)).toArray:=by rw[aEF,wI e.Bq,z,aFB,Ο]
        have O:eg cs 0 ((gF l).flatMap enc)=(gF l).flatMap enc:=by
         have t:((gF l).flatMap enc).length=cs.length:=by rw[wI e.len,z,L,p]
         simp[eg,t]
        rw[y,O] at D;rw[p];refine D.under ?_;have V:(w.setRow b ((gF l).flatMap fP++c.toList.drop (l.length*i)).toArray).heap.size=w.heap.size:=by simp[World.setRow]
        rw[V];exact S
       ·cases a
     ·cases a
    ·cases a
   ·cases a
  ·cases a
 ·cases a
end
end Go.Proofs.YtmehamiifalmaaaGreatDoor
