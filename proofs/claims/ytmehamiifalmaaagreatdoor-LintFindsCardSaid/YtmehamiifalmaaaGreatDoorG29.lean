/- LintFinds: part 30 of its proof. -/
import Derived.Test.YtmehamiifalmaaaGreatDoorG5
import Derived.Test.YtmehamiifalmaaaGreatDoorG8
import Derived.IntWalk
import Derived.Test.YtmehamiifalmaaaGreatDoorG27
import Derived.Test.YtmehamiifalmaaaGreatDoorG28
set_option linter.all false
namespace Go.Proofs.YtmehamiifalmaaaGreatDoor.K
open Go Go.Ab Go.Proofs.Tryz
def Dj:List FuncId:=[110,155,156,157,196,77,76,75,197,228,100,141,142,143,172,173,174,175,107,176,108,109,177,178,179,217,237,219,240,215,153,154,218,238,195]
def I9:List FuncId:=[110,155,156,157,196,77,76,75,197,228,100,141,171,173,174,175,107,108,109,177,217,237,219,240,215,153,154,216,218,257,195]
def qU:cu:=bG (uv 258 329) (bG (wM 239 329) (bG (AQ 257) (bG (Ay 171) (CO 216 336))))
noncomputable def aE:Env:={P:=prog,G:=λf=>Dj.contains f,cl:=λf=>I9.contains f,fq:=λ_=>false,dyn:=λi=>i==1,df:=λ_=>false,ext:=qU}
def aqP:Dj.all (okF aE)=true:=af
def ak:aE.P=prog:=(rfl)
def aCX:aE.dyn 1=true:=(rfl)
def aCY:aE.dyn 4=false:=(rfl)
def aCZ:aE.dyn 5=false:=(rfl)
def aC0:aE.dyn 3=false:=(rfl)
def aC1:aE.dyn 8=false:=(rfl)
def aAm:aE.dyn 15=false:=(rfl)
def aAn:aE.dyn 16=false:=(rfl)
def aAo:aE.dyn 40=false:=(rfl)
def aC2(l):aE.any l=false:=(rfl)
attribute [go_sem] aC2 aCX aC0 aCY aCZ aC1 aAm aAn aAo
noncomputable def aAp(f:FuncId)(p:UInt8->Bool):Bool:=(List.range 256).all λn=>match aK prog (eL aE 30) f [.int .u8 (n:Nat)] with
 |some (.bool x)=>x==p (UInt8.ofNat n)
 |_=>false
def wT{f}{p:UInt8->Bool}(h:aAp f p=true)(b:UInt8):aK prog (run aE) f [.int .u8 b.toNat]=some (.bool (p b)):=by
 have a:=aEi.1 h b.toNat (aER.2 b.toNat_lt);revert a
 cases hc:aK prog (eL aE 30) f [.int .u8 b.toNat] with
 |none=>intro a;cases a
 |some v=>
  cases v<;>intro a<;>try(cases a;done)
  rename_i x;simp[aGO] at a;rw[<-a];exact AR 30 hc
def FD(b:UInt8):Bool:=decide (b.toNat=35)
def RD(b:UInt8):aK prog (run aE) 77 [.int .u8 b.toNat]=some (.bool (isLet b)):=wT af b
def RE(b:UInt8):aK prog (run aE) 76 [.int .u8 b.toNat]=some (.bool (jz b)):=wT af b
def av6(b:UInt8):aK prog (run aE) 228 [.int .u8 b.toNat]=some (.bool (pT b)):=wT af b
def aC3(b:UInt8):aK prog (run aE) 173 [.int .u8 b.toNat]=some (.bool (kn b)):=wT af b
def av7(b:UInt8):aK prog (run aE) 174 [.int .u8 b.toNat]=some (.bool (FD b)):=wT af b
def aC4(b:UInt8):aK prog (run aE) 175 [.int .u8 b.toNat]=some (.bool (g_ b)):=wT af b
def aAq(b:UInt8):aK prog (run aE) 107 [.int .u8 b.toNat]=some (.bool (isLet b)):=wT af b
def aAr(b:UInt8):aK prog (run aE) 109 [.int .u8 b.toNat]=some (.bool (jz b)):=wT af b
def aAs(b:UInt8):aK prog (run aE) 215 [.int .u8 b.toNat]=some (.bool (bp b)):=wT af b
set_option maxRecDepth 100000
def Gq:yF prog 9=true:=af
def aC5:cv prog 9=some false:=af
def aC6:cv prog 3=some false:=af
def pM:bX prog 9=some 1:=af
def qx:bX prog 3=some 1:=af
def Yx:gY prog 235=some [(0,9),(1,3)]:=af
def aC7:zh prog #[9]=false:=af
def aC8(l:List UInt8):gB prog #[9] [.str l]=some (.i l.length):=by simp[gB,Gq]
def iY{s}{i:Nat}{b:UInt8}(h:s[i]? =some b):mI prog 9 (.str s) (.i i)=some (.int .u8 b.toNat):=by simp[mI,Gq,h]
def xZ(l:List UInt8){a b}(h1:a<=b)(h2:b<=l.length):kg prog 9 (some (.i a)) (some (.i b)) (.str l)=some (.str ((l.take b).drop a)):=by have h3:(b:Int)<=(l.length:Int):=aa;have c:(a:Int)<=(b:Int):=aa;simp[kg,Gq,nI,j9,h3,c]
def K2(l:List UInt8){a}(h2:a<=l.length):kg prog 9 (some (.i a)) none (.str l)=some (.str (l.drop a)):=by have h3:(a:Int)<=(l.length:Int):=aa;simp[kg,Gq,nI,j9,h3]
def ld9(cs)(off):iP prog 9 cs off=cs[off]? :=kE aC5 cs off
def ld3(cs)(off):iP prog 3 cs off=cs[off]? :=kE aC6 cs off
def av8(n k):bV prog 235 0 (.ptr n k)=some (.ptr n k):=by simp[bV,Yx,pM]
def av9(n k):bV prog 235 1 (.ptr n k)=some (.ptr n (k+1)):=by simp[bV,Yx,qx]
def PW(n k):Ca (.ptr n k)=some (.ptr n k):=(rfl)
def PX(b):xF .not (.bool b)=some (.bool (!b)):=by cases b<;>exact(rfl)
attribute [go_sem] aC8 ld9 ld3 av8 av9 PW PX
def sc(s:List UInt8)(i:Nat):bB:=.z [.str s,.i i]
def Sc(m:Nat)(L:List (Nat×bB))(k:Nat)(s:List UInt8)(i:Nat):Prop:=k<m/\cg L k=some (sc s i)
def Sc.cells{m}{L}{k}{s}{i}(h:Sc m L k s i):eF L k=some [.str s,.i i]:=by simp[eF,h.2,sc]
def Sc.set{m}{L}{k}{s}{i}(h:Sc m L k s i)(j):Sc m (aH L k (sc s j)) k s j:=⟨h.1,by rw[aR,μ rfl,h.2];rfl⟩
def Sc.store{m}{L}{k}{s}{i}(h:Sc m L k s i)(j:Nat):ug prog 3 (.ptr k 1) (.i j) ⟨m,L⟩=some (gz,⟨m,aH L k (sc s j)⟩):=by rw[HQ,μ h.1,h.cells];simp[an,qx,AV.width,AV.cells,eo,AV.one,h.2,sc,Da,eg]
def Sc.same{m}{L}{k}{s}{i}(h:Sc m L k s i):aH L k (sc s i)=L:=qA L k _ h.2
def yU(g:FuncId)(p:UInt8->Bool):Prop:=I9.contains g=true/\∀b:UInt8,aK prog (run aE) g [.int .u8 b.toNat]=some (.bool (p b))
def pY(p:UInt8->Bool)(s:List UInt8)(i:Nat):Bool:=match s[i]? with
 |some b=>p b
 |none=>false
def ah4{g}{p:UInt8->Bool}(a:yU g p)(b:UInt8)(H):dD aE (run aE) (.fn (.func g) [] []) [.int .u8 b.toNat] H=some (.bool (p b),H):=by rw[tS a.1,show aE.P=prog from rfl,a.2 b];rfl
def C3{g}{p:UInt8->Bool}(n:yU g p){m}{L}{k}{s:List UInt8}{i:Nat}(h:Sc m L k s i):run aE 172 [.ptr k 0,.fn (.func g) [] []] ⟨m,L⟩=some (.bool (pY p s i),⟨m,L⟩):=by
 have f:(k<m)=True:=ο h.1;have j:=h.cells;refine ow (c:=.seq _ (.seq _ _)) rfl rfl func172 rfl (by rw[ntmps172];simp) ?_;have e:=aa5 (E:=aE) (l:=#[.tmp 12]) (d_:=#[9]) aC7;by_cases hi:i<s.length
 ·obtain⟨b,hb⟩:=get_some hi;have a:=bH ((i:Int)<(s.length:Int));have d:pY p s i=p b:=by simp[pY,hb]
  simp only[go_sem,seval,ak,f,j,a,e,iY hb,ah4 n b,d,results172]
 ·have a:=bU ((i:Int)<(s.length:Int));have d:pY p s i=false:=by simp[pY,aEh (aET hi)]
  simp only[go_sem,seval,ak,f,j,a,e,d,results172]
def call70:=xc aE 172 rfl rfl
attribute [go_sem] call70
def aC9:yU 173 kn:=⟨af,aC3⟩
def aDa:yU 174 FD:=⟨af,av7⟩
def aDb:yU 175 g_:=⟨af,aC4⟩
def aDc:yU 107 isLet:=⟨af,aAq⟩
def aDd:yU 109 jz:=⟨af,aAr⟩
def aAt:yU 215 bp:=⟨af,aAs⟩
def EF{p}{s}{i}{b}(h:s[i]? =some b):pY p s i=p b:=by simp[pY,h]
def Ja{p}{s}{i}(h:pY p s i=true):∃b,s[i]? =some b/\p b=true:=by
 unfold pY at h;split at h
 ·rename_i b hb;exact⟨b,hb,h⟩
 ·cases h
def OJ{p}{s:List UInt8}{i}(hi:i<=s.length)(h:pY p s i=false):fp p s i=i:=by
 by_cases a:i<s.length
 ·obtain⟨b,hb⟩:=get_some a;rw[EF hb] at h;exact Nf hb h
 ·exact ND aa
structure IP(p:UInt8->Bool)(s:List UInt8)(e k m:Nat)(L:List (Nat×bB))(f:Int)(d:Nat)(α:az)(H:ab):Prop where
 ex:∃i,i+d=s.length/\fp p s i=e/\H=⟨m,aH L k (sc s i)⟩
 a0:α 0=.ptr k 0
 a3:α 3=.i f
def PP(id:Nat)(p:UInt8->Bool)(s:List UInt8)(j k m:Nat)(L:List (Nat×bB))(f:Int)(e:Ex)(α:az)(H:ab):Prop:=
 e=.exit id/\H=⟨m,aH L k (sc s j)⟩/\pY p s j=false/\α 0=.ptr k 0/\α 3=.i f
noncomputable def zV:=f176.c.r.r.l.b.b
noncomputable def aDe:Code:=.block 0 (.loop zV)
noncomputable def K75:=f176.c.r.r.r
def aqQ{s:List UInt8}{e k m}{L}{f}{i0}(n:Sc m L k s i0)(hn:s.length<=16384)(d:Nat)(α:az)(H:ab)(h:IP bp s e k m L f d α H):
  aF (aT aE zV α H) λx j H'=>(x=.normal/\∃l,l<d/\IP bp s e k m L f l j H')\/(x≠.normal/\PP 0 bp s e k m L f x j H'):=by
 obtain⟨⟨i,hd,g,rfl⟩,a0,a3⟩:=h;have t:zV=.seq (.seq _ _) _:=rfl;rw[t];have c:=n.set i;have q:(k<m)=True:=ο n.1;have a:=C3 aAt c
 cases hq:pY bp s i with
 |true=>
  rw[hq] at a;obtain⟨b,hb,p⟩:=Ja hq;have aG:=ep hb;have w1:=gK (i+1) (i+1:Nat);have o:=c.store (i+1);rw[f_] at o;simp only[go_sem,seval,ak,a0,a,q,c.cells,w1,o];refine .inl ⟨trivial,d-1,aa,⟨i+1,aa,by rw[<-g,tU hb p],rfl⟩,?_,?_⟩;all_goals simp[go_sem,a0,a3]
 |false=>
  rw[hq] at a;simp only[go_sem,seval,a0,a];have r:e=i:=by rw[<-g];exact OJ aa hq
  subst r;refine .inr ⟨ah,rfl,rfl,hq,?_,?_⟩;all_goals simp[go_sem,a0,a3]
def mM{m}{L:List (Nat×bB)}{k:Nat}{s:List UInt8}{i:Nat}(h:Sc m L k s i)(hi:i<=s.length)(g:s.length<=16384):run aE 176 [.ptr k 0] ⟨m,L⟩=some (.str ((s.drop i).takeWhile bp),⟨m,aH L k (sc s (fp bp s i))⟩):=by
 have a:(k<m)=True:=ο h.1;refine ow (c:=.seq _ (.seq _ (.seq aDe K75))) rfl rfl func176 rfl (by rw[ntmps176];simp) ?_;simp[go_sem,ak,a,h.cells];refine jw (id:=0) ?_;rw[gu];refine aW (lL (IP bp s (fp bp s i) k m L i) (PP 0 bp s (fp bp s i) k m L i) (λd α H f=>aqQ h g d α H f) (s.length-i) _ _ ⟨⟨i,aa,rfl,by rw[h.same]⟩,?_,?_⟩) ?_
 case refine_3=>
  rintro e ae H' ⟨rfl,rfl,_,a0,a3⟩;refine .inl ⟨.inr rfl,?_⟩;have b:K75=.seq _ _:=rfl;rw[b];have sl:=xZ s (Ih bp s hi) (EV bp s i);rw[NF bp s hi] at sl;simp[go_sem,ak,a0,a3,a,(h.set (fp bp s i)).cells,sl,results176]
 all_goals simp[go_sem]
noncomputable def Eo:=f142.c.r.r.b.b
noncomputable def aDf:Code:=.block 0 (.loop Eo)
noncomputable def T':=Eo.b.l.b.b
noncomputable def aDg:Code:=.block 2 (.loop T')
noncomputable def K36:=Eo.b.r
noncomputable def Ua:=Eo.b.r.r.b.b
noncomputable def aDh:Code:=.block 4 (.loop Ua)
def ale{s:List UInt8}{e k m}{L}{f}{i0}(n:Sc m L k s i0)(hn:s.length<=16384)(d)(α)(H)(h:IP kn s e k m L f d α H):
  aF (aT aE T' α H) λx j H'=>(x=.normal/\∃l,l<d/\IP kn s e k m L f l j H')\/(x≠.normal/\PP 2 kn s e k m L f x j H'):=by
 obtain⟨⟨i,hd,g,rfl⟩,a0,a3⟩:=h;have t:T'=.seq (.seq _ _) _:=rfl;rw[t];have c:=n.set i;have q:(k<m)=True:=ο n.1;have a:=C3 aC9 c
 cases hq:pY kn s i with
 |true=>
  rw[hq] at a;obtain⟨b,hb,p⟩:=Ja hq;have aG:=ep hb;have w1:=gK (i+1) (i+1:Nat);have o:=c.store (i+1);rw[f_] at o;simp only[go_sem,seval,ak,a0,a,q,c.cells,w1,o];refine .inl ⟨trivial,d-1,aa,⟨i+1,aa,by rw[<-g,tU hb p],rfl⟩,?_,?_⟩;all_goals simp[go_sem,a0,a3]
 |false=>
  rw[hq] at a;simp only[go_sem,seval,a0,a];have r:e=i:=by rw[<-g];exact OJ aa hq
  subst r;refine .inr ⟨ah,rfl,rfl,hq,?_,?_⟩;all_goals simp[go_sem,a0,a3]
def alf{s:List UInt8}{e k m}{L}{f}{i0}(n:Sc m L k s i0)(hn:s.length<=16384)(d)(α)(H)(h:IP g_ s e k m L f d α H):
  aF (aT aE Ua α H) λx j H'=>(x=.normal/\∃l,l<d/\IP g_ s e k m L f l j H')\/(x≠.normal/\PP 4 g_ s e k m L f x j H'):=by
 obtain⟨⟨i,hd,g,rfl⟩,a0,a3⟩:=h;have t:Ua=.seq (.seq _ _) _:=rfl;rw[t];have c:=n.set i;have q:(k<m)=True:=ο n.1;have a:=C3 aDb c
 cases hq:pY g_ s i with
 |true=>
  rw[hq] at a;obtain⟨b,hb,p⟩:=Ja hq;have aG:=ep hb;have w1:=gK (i+1) (i+1:Nat);have o:=c.store (i+1);rw[f_] at o;simp only[go_sem,seval,ak,a0,a,q,c.cells,w1,o];refine .inl ⟨trivial,d-1,aa,⟨i+1,aa,by rw[<-g,tU hb p],rfl⟩,?_,?_⟩;all_goals simp[go_sem,a0,a3]
 |false=>
  rw[hq] at a;simp only[go_sem,seval,a0,a];have r:e=i:=by rw[<-g];exact OJ aa hq
  subst r;refine .inr ⟨ah,rfl,rfl,hq,?_,?_⟩;all_goals simp[go_sem,a0,a3]
structure SJ(s:List UInt8)(e k m:Nat)(L:List (Nat×bB))(f:Nat)(d:Nat)(α:az)(H:ab):Prop where
 ex:∃i,i+d=s.length/\f<=i/\bj s i=e/\H=⟨m,aH L k (sc s i)⟩
 a0:α 0=.ptr k 0
 a3:α 3=.i f
def aeo(s:List UInt8)(j k m:Nat)(L:List (Nat×bB))(f:Nat)(e:Ex)(α:az)(H:ab):Prop:=
 e=.ret/\H=⟨m,aH L k (sc s j)⟩/\α 2=.str ((s.take j).drop f)
def alg{s:List UInt8}{e k m}{L}{f i0}(l:Sc m L k s i0)(y:s.length<=16384)(d:Nat)(α:az)(H:ab)(h:SJ s e k m L f d α H):
  aF (aT aE Eo α H) λx t H'=>(x=.normal/\∃v,v<d/\SJ s e k m L f v t H')\/(x≠.normal/\aeo s e k m L f x t H'):=by
 obtain⟨⟨i,A,hf,G,rfl⟩,a0,a3⟩:=h;have K:Eo=.block 1 (.seq aDg K36):=rfl;rw[K];refine An ?_;rw[vv];refine jw (id:=2) ?_;rw[gu];refine aW (lL (IP kn s (fp kn s i) k m L f) (PP 2 kn s (fp kn s i) k m L f) (λd α H a=>ale l y d α H a) d _ _ ⟨⟨i,A,rfl,rfl⟩,a0,a3⟩) ?_;rintro x cT H1 ⟨rfl,rfl,c,q,r⟩;refine .inl ⟨.inr rfl,?_⟩;have u:i<=s.length:=aa;have D:=Ih kn s u;have g:=EV kn s i;have n:=agA u;rw[G] at n;generalize fp kn s i=j at c D g n;have C:K36=.seq (.seq _ _) aDh:=rfl;rw[C];have z:=l.set j;have B:(k<m)=True:=ο l.1;have p:=C3 aDa z
 cases a:pY FD s j with
 |false=>
  rw[a] at p
  have I:e=j:=by
   rw[<-n];by_cases E:j<s.length
   ·obtain⟨b,hb⟩:=get_some E;rw[EF hb] at c a;exact U9 hb c (by simpa[FD] using a)
   ·exact VE aa
  subst I;simp only[go_sem,seval,ak,q,r,p,B,z.cells,(xZ s (show f<=e by omega) g),χ];refine .inr ⟨trivial,.inr ⟨ah,rfl,rfl,?_⟩⟩;simp[go_sem]
 |true=>
  rw[a] at p;simp only[go_sem,seval,q,p,ω];obtain⟨b,hb,o⟩:=Ja a;have o:b.toNat=35:=by simpa[FD] using o
  have J:kn b=false:=by rw[EF hb] at c;exact c
  have w:g_ b=true:=by simp[g_,o]
  have qV:=ep hb;refine An ?_;rw[gu];refine aW (lL (IP g_ s (fp g_ s j) k m L f) (PP 4 g_ s (fp g_ s j) k m L f) (λd α H a=>alf l y d α H a) (s.length-j) _ _ ⟨⟨j,aa,rfl,rfl⟩,?_,?_⟩) ?_
  case refine_3=>
   rintro x fS H2 ⟨rfl,rfl,l7,M,F⟩;refine .inl ⟨.inr rfl,.inl ⟨.inl rfl,.inl ⟨trivial,s.length-fp g_ s j,?_,⟨fp g_ s j,?_,?_,?_,rfl⟩,M,F⟩⟩⟩;all_goals have g1:=Ih g_ s (i:=j+1) aa
   all_goals have g2:=EV g_ s (j+1)
   all_goals rw[tU hb w]
   ·omega
   ·omega
   ·omega
   ·rw[<-tU hb w,<-U8 hb J o,n]
  all_goals simp[go_sem,q,r]
def awa{m}{L:List (Nat×bB)}{k:Nat}{s:List UInt8}{i:Nat}(h:Sc m L k s i)(hi:i<=s.length)(f:s.length<=16384):run aE 142 [.ptr k 0] ⟨m,L⟩=some (.str ((s.take (bj s i)).drop i),⟨m,aH L k (sc s (bj s i))⟩):=by
 have a:(k<m)=True:=ο h.1;refine ow (c:=.seq _ (.seq _ aDf)) rfl rfl func142 rfl (by rw[ntmps142];simp) ?_;simp[go_sem,ak,a,h.cells];refine An ?_;rw[gu];refine aW (lL (SJ s (bj s i) k m L i) (aeo s (bj s i) k m L i) (λd α H b=>alg h f d α H b) (s.length-i) _ _ ⟨⟨i,aa,ν _,rfl,by rw[h.same]⟩,?_,?_⟩) ?_
 case refine_3=>
  rintro e ae H' ⟨rfl,rfl,a2⟩;refine .inr ⟨rfl,?_⟩;simp only[go_sem,a2,results142]
 all_goals simp[go_sem]
def S(l:List (List UInt8)):List AV:=l.map AV.str
def aAu(l:List (List UInt8)):(S l).length=l.length:=by simp[S]
def aDi{l}{i:Nat}{x:List UInt8}(h:l[i]? =some x):(S l)[i]? =some (.str x):=by simp[S,h]
def SK:∀l:List (List UInt8),AV.aq.go (S l)=true
 |[]=>rfl
 |x::l=>by show((AV.str x).aq&&AV.aq.go (S l))=true;rw[SK l];rfl
def acn:fk prog 66=some 9:=af
def adq(o)(l:List (List UInt8)):gB prog #[66] [.vec o (S l)]=some (.i l.length):=by simp[gB,acn,aAu]
def SL{l}{i:Nat}{x:List UInt8}(o:Ab.Own)(h:l[i]? =some x):dW prog 66 (.vec o (S l)) (.i i)=some (.rptr [.str x]):=by have:=aDi h;simp[dW,acn,pM,AV.width,AV.cells,this]
def aqR(a b):jM .eql a b=some (.bool (a==b)):=by simp[jM]
attribute [go_sem] adq aqR
def tD:List (List UInt8):=[[117,115,101],[100,101,102],[108,101,116],[105,102],[101,108,115,101],[119,104,105,108,101],[112,114,105,110,116],[114,101,116,117,114,110],[102,110],[105,110,112,117,116],[105,110,116],[115,116,114],[100,121,110]]
def aaM(w):tD.contains w=isKey w:=by
 rw[isKey,aE7];simp[aEs,tD,xp];constructor
 ·rintro(h|h|h|h|h|h|h|h|h|h|h|h|h)<;>simp[h]
 ·rintro(h|h|h|h|h|h|h|h|h|h|h|h|h)<;>simp[h]
noncomputable def R18:=f75.c.r.l
def r18(call)(α)(H):aN aE call aL R18 α H=some (.normal,λi=>if i=3 then .vec .full (S tD) else if i=5 then .vec .full (S tD) else α i,H):=by rfl
def awb{l:List (List UInt8)}{w}(h:∀j,j<l.length->l[j]?≠some w):l.contains w=false:=by
 cases hc:l.contains w with
 |false=>rfl
 |true=>obtain⟨j,a⟩:=aEG (aEs.1 hc);exact(h j (φ.1 a).1 a).elim
def aaN{l:List (List UInt8)}{w}{j:Nat}(h:l[j]? =some w):l.contains w=true:=aEs.2 (Δ h)
noncomputable def xT:=f75.c.r.r.l.r.b.b
noncomputable def aDj:Code:=.block 0 (.loop xT)
noncomputable def K18:=f75.c.r.r.r
structure Ub(w:List UInt8)(d:Nat)(α:az)(H:ab):Prop where
 ex:∃i:Nat,i+d=13/\(∀j,j<i->tD[j]?≠some w)/\α 4=.i i
 a0:α 0=.str w
 a3:α 3=.vec .full (S tD)
def P18(w:List UInt8)(e:Ex)(α:az)(H:ab):Prop:=(e=.exit 0/\tD.contains w=false)\/(e=.ret/\tD.contains w=true/\α 2=.bool true)
def aqS{w}(d:Nat)(α:az)(H:ab)(h:Ub w d α H):
  aF (aT aE xT α H) λx f H'=>(x=.normal/\∃g,g<d/\Ub w g f H')\/(x≠.normal/\P18 w x f H'):=by
 obtain⟨⟨i,hd,hb,a4⟩,a0,a3⟩:=h;have m:xT=.seq (.seq _ _) (.seq (.block _ (.seq _ _)) _):=rfl;rw[m];have a:tD.length=13:=rfl;by_cases hi:i<13
 ·have b:decide ((i:Int)<(tD.length:Int))=true:=π (by rw[a];omega);obtain⟨x,c⟩:∃x,tD[i]? =some x:=⟨_,Ν (by rw[a];exact hi)⟩;have k:=SL .full c;have w1:=gK (i+1) (i+1:Nat)
  cases hq:(x==w) with
  |true=>
   have l:x=w:=by simpa using hq
   subst l;simp only[go_sem,seval,ak,a0,a3,a4,b,k,hq];exact .inr ⟨ah,.inr ⟨rfl,aaN c,by simp[go_sem]⟩⟩
  |false=>
   simp only[go_sem,seval,ak,a0,a3,a4,b,k,hq,w1];refine .inl ⟨trivial,d-1,aa,⟨i+1,aa,λj e=> ?_,?_⟩,?_,?_⟩
   ·by_cases n:j=i
    ·subst n;rw[c];intro o;cases o;simp at hq
    ·exact hb j aa
   all_goals simp[go_sem,a0,a3]
 ·have b:decide ((i:Int)<(tD.length:Int))=false:=ξ (by rw[a];omega);simp only[go_sem,seval,ak,a3,a4,b];exact .inr ⟨ah,.inl ⟨rfl,awb λj e=>hb j (by rw[a] at e;omega)⟩⟩
def aqT(w:List UInt8):aK prog (run aE) 75 [.str w]=some (.bool (isKey w)):=by
 refine eX (c:=.seq _ (.seq R18 (.seq (.seq _ aDj) K18))) rfl rfl func75 rfl (by rw[ntmps75];simp) (bE:=[.str w]) rfl rfl ?_ rfl;simp[go_sem,ak,r18];refine jw (id:=0) ?_;rw[gu];refine aW (lL (Ub w) (P18 w) (λd α H f=>aqS d α H f) 13 _ _ ⟨⟨0,rfl,λj hj=>aa,?_⟩,?_,?_⟩) ?_
 case refine_4=>
  rintro e ae H' (⟨rfl,a⟩|⟨rfl,a,a2⟩)
  ·refine .inl ⟨.inr rfl,?_⟩;have b:K18=.seq _ _:=rfl;rw[b];rw[aaM] at a;simp only[go_sem,seval,results75];rw[a];exact⟨_,rfl,rfl⟩
  ·refine .inr ⟨rfl,?_⟩;rw[aaM] at a;simp only[go_sem,seval,results75,a2];rw[a];exact⟨_,rfl,rfl⟩
 all_goals(simp[go_sem];try rfl)
def xz(l:List (List UInt8))(w:List UInt8):Int:=match l.findIdx? (w==·) with
 |some i=>(i:Int)
 |none=> -1
def ah5{l}{w}{i:Nat}(h:l[i]? =some w)(hb:∀j,j<i->l[j]?≠some w):xz l w=(i:Int):=by
 have:l.findIdx? (w==·)=some i:=by rw[aGd];obtain⟨hi,c⟩:=φ.1 h;refine⟨hi,by rw[c];simp,λj b a=>hb j b ?_⟩;have a:=eq_of_beq a;rw[a];exact Ν _
 rw[xz,this]
def WX{l:List (List UInt8)}{w}(h:∀j,j<l.length->l[j]?≠some w):xz l w= -1:=by
 have:l.findIdx? (w==·)=none:=by
  rw[List.findIdx?_eq_none_iff];intro x b;obtain⟨j,a⟩:=aEG b
  cases hq:(w==x) with
  |false=>rfl
  |true=>have:=eq_of_beq hq;subst this;exact(h j (φ.1 a).1 a).elim
 rw[xz,this]
def aqU(l:List (List UInt8))(w:List UInt8):decide (xz l w≥0)=l.contains w:=by
 cases hc:l.contains w with
 |true=>
  obtain⟨j,b⟩:=aEG (aEs.1 hc);unfold xz;split
  ·exact bH _
  ·rename_i a;rw[List.findIdx?_eq_none_iff] at a;have:=a w (aEs.1 hc);simp at this
 |false=>
  rw[WX]
  ·rfl
  ·intro j b c;rw[aaN c] at hc;cases hc
noncomputable def SM:=f195.c.r.l.r.b.b
noncomputable def aAv:Code:=.block 0 (.loop SM)
noncomputable def aep:=f195.c.r.r
structure SN(o:Ab.Own)(l:List (List UInt8))(w:List UInt8)(d:Nat)(α:az)(H:ab):Prop where
 ex:∃i:Nat,i+d=l.length/\(∀j,j<i->l[j]?≠some w)/\α 8=.i i
 a0:α 0=.vec o (S l)
 a1:α 1=.str w
 a7:α 7=.i l.length
def aeq(l:List (List UInt8))(w:List UInt8)(e:Ex)(α:az)(H:ab):Prop:=(e=.exit 0/\xz l w= -1)\/(e=.ret/\α 4=.i (xz l w))
def alh{o}{l:List (List UInt8)}{w}(hn:l.length<=16384)(d:Nat)(α:az)(H:ab)(h:SN o l w d α H):
  aF (aT aE SM α H) λx c H'=>(x=.normal/\∃e,e<d/\SN o l w e c H')\/(x≠.normal/\aeq l w x c H'):=by
 obtain⟨⟨i,hd,hb,a8⟩,a0,a1,a7⟩:=h;have m:SM=.seq _ (.seq _ (.seq (.block _ (.seq _ (.seq _ _))) _)):=rfl;rw[m];by_cases hi:i<l.length
 ·have a:=bH ((i:Int)<(l.length:Int));obtain⟨x,b⟩:∃x,l[i]? =some x:=⟨_,Ν hi⟩;have f:=SL o b;have w1:=gK (i+1) (i+1:Nat)
  cases hq:(w==x) with
  |true=>
   have g:w=x:=by simpa using hq
   subst g;simp only[go_sem,seval,ak,a0,a1,a7,a8,a,f,hq];exact .inr ⟨ah,.inr ⟨rfl,by simp[go_sem];rw[ah5 b hb]⟩⟩
  |false=>
   simp only[go_sem,seval,ak,a0,a1,a7,a8,a,f,hq,w1];refine .inl ⟨trivial,d-1,aa,⟨i+1,aa,λj k=> ?_,?_⟩,?_,?_,?_⟩
   ·by_cases n:j=i
    ·subst n;rw[b];intro p;cases p;simp at hq
    ·exact hb j aa
   all_goals simp[go_sem,a0,a1,a7]
 ·have a:=bU ((i:Int)<(l.length:Int));simp only[go_sem,seval,ak,a7,a8,a];exact .inr ⟨ah,.inl ⟨rfl,WX λj k=>hb j aa⟩⟩
def aco{o:Ab.Own}{l}(h:AV.aq.go l=true):(AV.vec o.bare l).aq=true:=by cases o<;>simp[AV.aq,Own.bare,h]
def ali(o:Ab.Own)(l:List (List UInt8))(w:List UInt8)(g:l.length<=16384):aK prog (run aE) 195 [.vec o (S l),.str w]=some (.i (xz l w)):=by
 refine eX (c:=.seq _ (.seq (.seq _ aAv) aep)) rfl rfl func195 rfl (by rw[ntmps195];simp) (bE:=[.vec o.bare (S l),.str w]) rfl ?_ ?_ rfl
 ·show((AV.vec o.bare (S l)).aq&&_)=true;rw[aco (SK l)];rfl
 simp[go_sem,ak];refine jw (id:=0) ?_;rw[gu];refine aW (lL (SN o.bare l w) (aeq l w) (λd α H f=>alh g d α H f) l.length _ _ ⟨⟨0,aa,λj hj=>aa,?_⟩,?_,?_,?_⟩) ?_
 case refine_5=>
  rintro e ae H' (⟨rfl,b⟩|⟨rfl,a4⟩)
  ·refine .inl ⟨.inr rfl,?_⟩;have a:aep=.seq _ _:=rfl;rw[a];simp only[go_sem,seval,results195];rw[b];exact⟨_,rfl,rfl⟩
  ·refine .inr ⟨rfl,?_⟩;simp only[go_sem,seval,results195,a4];exact⟨_,rfl,rfl⟩
 all_goals(simp[go_sem];try rfl)
def call230:=lx aE prog 195 rfl rfl
def call142:=lx aE prog 153 rfl rfl
def call143:=lx aE prog 154 rfl rfl
def call144:=lx aE prog 216 rfl rfl
def call145:=lx aE prog 218 rfl rfl
def call121:=lx aE prog 219 rfl rfl
def call208:=lx aE prog 240 rfl rfl
attribute [go_sem] call230 call142 call143 call144 call145 call121 call208
def af7(o)(l:List (List UInt8))(w)(b:l.length<=16384):aK prog (run aE) 153 [.vec o (S l),.str w]=some (.bool (l.contains w)):=by
 refine qy (c:=.seq _ (.seq _ _)) rfl rfl func153 rfl (by rw[ntmps153];simp) (bE:=[.vec o.bare (S l),.str w]) rfl ?_ ?_ rfl rfl
 ·show((AV.vec o.bare (S l)).aq&&_)=true;rw[aco (SK l)];rfl
 ·have a:=ali o.bare l w b;simp[go_sem,ak,a,aqU l w,results153]
def aqV:aK prog (run aE) 154 []=some (.vec .ro (S xp)):=AR 30 (PQ rfl)
def aqW(w):aK prog (run aE) 108 [.str w]=some (.bool (isKey w)):=by refine qy (c:=.seq _ (.seq _ _)) rfl rfl func108 rfl (by rw[ntmps108];simp) (bE:=[.str w]) rfl rfl ?_ rfl rfl;simp only[go_sem,seval,ak,(af7 .ro xp w aA),aqV,results108];rfl
def agW{w:List UInt8}(a:w.length<=1099511627776){u}(h:Lib.parseUintB 63 w=.ok u):aK prog (run aE) 216 [.str w,.i 10,.i 63]=some (.tup [.int .u64 u,.val .nilIface]):=by refine Am rfl (args:=[.str w,.i 10,.i 63]) (v:=.tup [.int .u64 u,.val .nilIface]) (H:=.empty) rfl ?_ rfl;show qU 216 [.str w,.i 10,.i 63] .empty=_;simp[qU,bG,uv,wM,AQ,Ay,CO,a,h]
def agY{w:List UInt8}(a:w.length<=1099511627776)(h:∀u,Lib.parseUintB 63 w≠.ok u):aK prog (run aE) 216 [.str w,.i 10,.i 63]=some (.tup [.any,.iface 336 .any]):=by
 refine Am rfl (args:=[.str w,.i 10,.i 63]) (v:=.tup [.any,.iface 336 .any]) (H:=.empty) rfl ?_ rfl;show qU 216 [.str w,.i 10,.i 63] .empty=_
 cases hp:Lib.parseUintB 63 w with
 |ok u=>exact(h u hp).elim
 |_=>simp[qU,bG,uv,wM,AQ,Ay,CO,a,hp]
def acp:mX .nilIface=.val .nilIface:=(rfl)
def ne_nil:nS prog .neq 307 true (.val .nilIface) (.val .nilIface)=some (.bool false):=af
def awc:nS prog .neq 307 true (.iface 336 .any) (.val .nilIface)=some (.bool true):=af
def alj(w:List UInt8)(d:w.length<=1099511627776):aK prog (run aE) 177 [.str w]=some (.i (if yZ w=true then 0 else 23)):=by
 refine qy (c:=.seq _ (.seq (.seq _ (.seq _ _)) (.seq _ _))) rfl rfl func177 rfl (by rw[ntmps177];simp) (bE:=[.str w]) rfl rfl ?_ rfl rfl
 cases hp:Lib.parseUintB 63 w with
 |ok u=>
  have a:yZ w=true:=by simp[yZ,hp]
  have b:=agW d hp;simp only[go_sem,ak,↓reduceIte,Nat.reduceEqDiff,b,acp,ne_nil,a,ij,yo,aF0,results177]
 |_=>
  have a:yZ w=false:=by simp[yZ,hp]
  have b:=agY d (λu=>by rw[hp];simp);simp only[go_sem,ak,↓reduceIte,Nat.reduceEqDiff,b,acp,awc,a,ij,yo,aF0,results177];rfl
def pN(s p:List UInt8):Bool:=decide (p.length<=s.length)&&(s.take p.length==p)
def aer(l:List UInt8){b}(h2:b<=l.length):kg prog 9 none (some (.i b)) (.str l)=some (.str (l.take b)):=by have h3:(b:Int)<=(l.length:Int):=aa;simp[kg,Gq,nI,j9,h3]
def ah6(s p):aK prog (run aE) 240 [.str s,.str p]=some (.bool (pN s p)):=by
 refine qy (c:=.seq _ (.seq _ _)) rfl rfl func240 rfl (by rw[ntmps240];simp) (bE:=[.str s,.str p]) rfl rfl ?_ rfl rfl;by_cases h:p.length<=s.length
 ·have a:=bH ((s.length:Int)≥(p.length:Int));simp only[go_sem,seval,ak,a,aer s h,results240];simp[pN,h]
 ·have a:=bU ((s.length:Int)≥(p.length:Int));simp only[go_sem,seval,ak,a,results240];simp[pN,h]
def ah7(s p):aK prog (run aE) 219 [.str s,.str p]=some (.bool (pN s p)):=by refine qy (c:=.seq _ (.seq _ _)) rfl rfl func219 rfl (by rw[ntmps219];simp) (bE:=[.str s,.str p]) rfl rfl ?_ rfl rfl;simp[go_sem,ak,ah6 s p,results219]
def pd:List (List UInt8):=[61,61]::oJ.map λb=>[b]
def alk:aK prog (run aE) 218 []=some (.vec .ro (S pd)):=AR 30 (PQ rfl)
def aqX(c)(t)(b):pN (c::t) [b]=(c==b):=by simp[pN]
def Yy(c)(t):∀l:List UInt8,(l.map λb=>[b]).find? (pN (c::t))=if l.contains c=true then some [c] else none
 |[]=>rfl
 |b::l=>by
  rw[aEv,aE0,aqX,Yy c t l]
  cases hb:(c==b) with
  |true=>have:=eq_of_beq hb;subst this;simp
  |false=>
   have a:c≠b:=by simpa using hb
   simp[a]
def ah8(r:List UInt8):pd.find? (pN r)=if jL r=0 then none else some (r.take (jL r)):=by
 cases r with
 |nil=>rfl
 |cons c t=>
  rw[pd,aE0,Yy,jL]
  cases t with
  |nil=>
   have e:pN [c] [61,61]=false:=by simp[pN]
   rw[e];simp only[List.head?_nil,Option.map_none,reduceCtorEq,and_false,ap1];by_cases h:oJ.contains c=true
   ·rw[μ h,μ h];simp
   ·rw[κ h,κ h];simp
  |cons d t=>
   have e:pN (c::d::t) [61,61]=(decide (c.toNat=61)&&decide (d.toNat=61)):=by
    have f:∀x:UInt8,(x==61)=decide (x.toNat=61):=λx=>by rw[aE7,aFl,aEn];exact⟨λh=>by rw[h];rfl,λh=>aFu.1 h⟩
    show(decide (2<=(c::d::t).length)&&([c,d]==[61,61]))=_;rw[<-f,<-f];simp
   rw[e];by_cases a:c.toNat=61/\d.toNat=61
   ·have b:c.toNat=61/\((d::t).head?.map UInt8.toNat)=some 61:=⟨a.1,by simp[a.2]⟩;have i:c=61:=aFu.1 a.1;have g:d=61:=aFu.1 a.2;rw[μ b];subst i g;rfl
   ·have b:¬(c.toNat=61/\((d::t).head?.map UInt8.toNat)=some 61):=by simpa using a
    have hb:(decide (c.toNat=61)&&decide (d.toNat=61))=false:=by simpa using a
    rw[κ b,hb];by_cases h:oJ.contains c=true
    ·rw[μ h,μ h];simp
    ·rw[κ h,κ h];simp
noncomputable def Ud:=f179.c.r.l.r.b.b
noncomputable def aDk:Code:=.block 0 (.loop Ud)
noncomputable def K80:=f179.c.r.r
structure Ue(r:List UInt8)(k:Nat)(H0:ab)(d:Nat)(α:az)(H:ab):Prop where
 ex:∃i:Nat,i+d=14/\(pd.drop i).find? (pN r)=pd.find? (pN r)/\α 7=.i i
 a0:α 0=.ptr k 0
 a5:α 5=.vec .ro (S pd)
 a6:α 6=.i 14
 hH:H=H0
def P80(s:List UInt8)(i k m:Nat)(L:List (Nat×bB))(e:Ex)(α:az)(H:ab):Prop:=
 (e=.exit 0/\pd.find? (pN (s.drop i))=none/\H=⟨m,L⟩)\/(e=.ret/\∃x,pd.find? (pN (s.drop i))=some x/\α 2=.str x/\H=⟨m,aH L k (sc s (i+x.length))⟩)
def aqY{m}{L}{k}{s:List UInt8}{i}(e:Sc m L k s i)(hi:i<=s.length)(hn:s.length<=16384)(d:Nat)(α:az)(H:ab)(h:Ue (s.drop i) k ⟨m,L⟩ d α H):
  aF (aT aE Ud α H) λx n H'=>(x=.normal/\∃o,o<d/\Ue (s.drop i) k ⟨m,L⟩ o n H')\/(x≠.normal/\P80 s i k m L x n H'):=by
 obtain⟨⟨j,hd,hf,a7⟩,a0,a5,a6,rfl⟩:=h;have v:Ud=.seq _ (.seq _ (.seq (.block _ (.seq _ (.seq _ _))) _)):=rfl;rw[v];have g:(k<m)=True:=ο e.1;have r:=e.cells;have a:pd.length=14:=rfl;by_cases u:j<14
 ·have b:=bH ((j:Int)<14);obtain⟨x,f⟩:∃x,pd[j]? =some x:=⟨_,Ν (by rw[a];exact u)⟩;have t:pd.drop j=x::pd.drop (j+1):=by obtain⟨hi,rfl⟩:=φ.1 f;exact Μ hi
  have p:=SL .ro f;have w1:=gK (j+1) (j+1:Nat);have c:=ah7 (s.drop i) x;have q:=K2 s hi;rw[t,aE0] at hf
  cases hq:pN (s.drop i) x with
  |true=>
   rw[hq] at c hf;have hxl:x.length<=2:=by have:∀y∈pd,y.length<=2:=aA;exact this x (Δ f)
   have w:=gK (i+(x.length:Int)) (i+x.length:Nat);simp only[go_sem,seval,ak,a0,a5,a6,a7,b,p,c,q,g,r,w,e.store (i+x.length)];exact .inr ⟨ah,.inr ⟨rfl,x,hf.symm,by simp only[go_sem,seval],rfl⟩⟩
  |false=>
   rw[hq] at c hf;simp only[go_sem,seval,ak,a0,a5,a6,a7,b,p,c,q,g,r,w1];refine .inl ⟨trivial,d-1,aa,⟨j+1,aa,hf,?_⟩,?_,?_,?_,rfl⟩;all_goals simp[go_sem,a0,a5,a6]
 ·have b:=bU ((j:Int)<14);rw[aEk (l:=pd) (by rw[a];omega)] at hf;simp only[go_sem,seval,ak,a6,a7,b];exact .inr ⟨ah,.inl ⟨rfl,hf.symm,rfl⟩⟩
def awd{m}{L:List (Nat×bB)}{k:Nat}{s:List UInt8}{i:Nat}(h:Sc m L k s i)(hi:i<=s.length)(o:s.length<=16384):
  run aE 179 [.ptr k 0] ⟨m,L⟩=some (.str ((s.drop i).take (jL (s.drop i))),⟨m,aH L k (sc s (i+jL (s.drop i)))⟩):=by
 have f:pd.length=14:=rfl;have l1:=adq .ro pd;rw[f] at l1;have hf:=ah8 (s.drop i)
 have g:jL (s.drop i)<=(s.drop i).length:=by
  cases s.drop i with
  |nil=>simp[jL]
  |cons c t=>
   rw[jL];split
   ·rename_i j
    cases t with
    |nil=>simp at j
    |cons d t=>simp
   ·split<;>simp
 refine ow (c:=.seq _ (.seq (.seq _ aDk) K80)) rfl rfl func179 rfl (by rw[ntmps179];simp) ?_;simp[go_sem,ak,alk,l1];refine jw (id:=0) ?_;rw[gu];refine aW (lL (Ue (s.drop i) k ⟨m,L⟩) (P80 s i k m L) (λd α H l=>aqY h hi o d α H l) 14 _ _ ⟨⟨0,aa,rfl,?_⟩,?_,?_,?_,rfl⟩) ?_
 case refine_5=>
  rintro e ae H' (⟨rfl,a,rfl⟩|⟨rfl,x,a,a2,rfl⟩)
  ·refine .inl ⟨.inr rfl,?_⟩;have n:K80=.seq _ _:=rfl;rw[n];rw[hf] at a
   have b:jL (s.drop i)=0:=by
    by_cases b:jL (s.drop i)=0
    ·exact b
    ·rw[κ b] at a;cases a
   simp only[go_sem,seval,results179];rw[b,aFG,h.same];rfl
  ·refine .inr ⟨rfl,?_⟩;rw[hf] at a;have b:jL (s.drop i)≠0:=λb=>by rw[μ b] at a;cases a
   rw[κ b] at a;cases a;simp only[go_sem,seval,results179,a2];rw[aEH,Nat.min_eq_left g]
 all_goals(simp[go_sem];try rfl)
end Go.Proofs.YtmehamiifalmaaaGreatDoor.K
namespace Go.Ab
open Go
def AM{x}{g}{Q P}(h:aF x Q)(hi:∀e α H,Q e α H->aF (g (e,α,H)) P):aF (an x g) P:=by obtain⟨e,α,H,rfl,a⟩:=ke h;exact hi e α H a
end Go.Ab
namespace Go.Proofs.YtmehamiifalmaaaGreatDoor.K
open Go Go.Ab Go.Proofs.Tryz
set_option maxRecDepth 100000
def lE(b:UInt8)(n):((b.toNat:Int)==((n:Nat):Int))=decide (b.toNat=n):=by rw[aE7,aFl,aEn];omega
def xA(b:UInt8)(n):((b.toNat:Int) != ((n:Nat):Int))= !decide (b.toNat=n):=by rw[bne,lE]
noncomputable def BU:=f156.c.r.l.b.b
noncomputable def aDl:Code:=.block 0 (.loop BU)
noncomputable def K10:=f156.c.r.r
noncomputable def El:=BU.r.b.r.r.b.b
noncomputable def aes:Code:=.block 2 (.loop El)
structure SO(s:List UInt8)(e:Nat)(d:Nat)(α:az)(H:ab):Prop where
 ex:∃i:Nat,i+d=s.length/\fp g_ s i=e/\α 1=.i i
 a0:α 0=.str s
def aet(s:List UInt8)(e:Nat)(x:Ex)(α:az)(H:ab):Prop:=x=.exit 2/\α 0=.str s/\α 1=.i e
def alm{s:List UInt8}{e}(hn:s.length<=16384)(d:Nat)(α:az)(H:ab)(h:SO s e d α H):
  aF (aT aE El α H) λx j H'=>(x=.normal/\∃k,k<d/\SO s e k j H')\/(x≠.normal/\aet s e x j H'):=by
 obtain⟨⟨i,hd,a,a1⟩,a0⟩:=h;have m:El=.seq (.seq _ _) _:=rfl;rw[m];by_cases hi:i<s.length
 ·have c:=bH ((i:Int)<(s.length:Int));obtain⟨b,hb⟩:=get_some hi;have l:=iY hb;have f:((b.toNat:Int) != 10)= !decide (b.toNat=10):=xA b 10;have w1:=gK (i+1) (i+1:Nat)
  cases hq:decide (b.toNat=10) with
  |true=>
   rw[hq] at f;have g:g_ b=false:=by simpa[g_] using hq
   rw[Nf hb g] at a;subst a;simp only[go_sem,seval,ak,a0,a1,c,l,f,ω];refine .inr ⟨ah,rfl,?_,?_⟩;all_goals simp[go_sem,a0,a1]
  |false=>
   rw[hq] at f;have g:g_ b=true:=by simpa[g_] using hq
   rw[tU hb g] at a;simp only[go_sem,seval,ak,a0,a1,c,l,f,w1,χ];refine .inl ⟨trivial,d-1,aa,⟨i+1,aa,a,?_⟩,?_⟩;all_goals simp[go_sem,a0]
 ·have c:=bU ((i:Int)<(s.length:Int));rw[ND aa] at a;subst a;simp only[go_sem,seval,ak,a0,a1,c];refine .inr ⟨ah,rfl,?_,?_⟩;all_goals simp[go_sem,a0,a1]
structure Uf(s:List UInt8)(e:Nat)(d:Nat)(α:az)(H:ab):Prop where
 ex:∃i:Nat,i+d=s.length/\bj s i=e/\α 1=.i i
 a0:α 0=.str s
def P10(e:Nat)(x:Ex)(α:az)(H:ab):Prop:=(x=.exit 0/\α 1=.i e)\/(x=.ret/\α 4=.i e)
def aqZ{s:List UInt8}{e}(w:s.length<=16384)(d:Nat)(α:az)(H:ab)(h:Uf s e d α H):
  aF (aT aE BU α H) λx f H'=>(x=.normal/\∃r,r<d/\Uf s e r f H')\/(x≠.normal/\P10 e x f H'):=by
 obtain⟨⟨i,hd,a,a1⟩,a0⟩:=h;have c:BU=.seq (.seq _ _) (.block 1 (.seq (.seq _ _) (.seq (.seq _ _) aes))):=rfl;rw[c];by_cases hi:i<s.length
 ·have g:=bH ((i:Int)<(s.length:Int));obtain⟨b,hb⟩:=get_some hi;have n:=iY hb;have p:((b.toNat:Int)==32)=decide (b.toNat=32):=lE b 32;have c2:((b.toNat:Int)==9)=decide (b.toNat=9):=lE b 9;have m:((b.toNat:Int)==10)=decide (b.toNat=10):=lE b 10;have o:((b.toNat:Int)==13)=decide (b.toNat=13):=lE b 13;have k:((b.toNat:Int) != 35)= !decide (b.toNat=35):=xA b 35;have w1:=gK (i+1) (i+1:Nat);have j:kn b=(decide (b.toNat=32)||decide (b.toNat=9)||decide (b.toNat=10)||decide (b.toNat=13)):=rfl
  generalize q1:decide (b.toNat=32)=p1 at*
  generalize q2:decide (b.toNat=9)=p2 at*
  generalize q3:decide (b.toNat=10)=p3 at*
  generalize q4:decide (b.toNat=13)=p4 at*
  cases c:kn b with
  |true=>
   rw[aff hb c] at a;rw[c] at j;cases p1<;>cases p2<;>cases p3<;>cases p4<;>(try(exact absurd j aA))
   all_goals
    simp only[go_sem,seval,ak,a0,a1,g,n,p,c2,m,o,w1];refine .inl ⟨trivial,d-1,aa,⟨i+1,aa,a,?_⟩,?_⟩
   all_goals simp[go_sem,a0]
  |false=>
   rw[c] at j;cases p1<;>cases p2<;>cases p3<;>cases p4<;>(try(exact absurd j aA))
   cases hq:decide (b.toNat=35) with
   |false=>rw[hq] at k;rw[U9 hb c (by simpa using hq)] at a;subst a;simp only[go_sem,seval,ak,a0,a1,g,n,p,c2,m,o,k,χ];refine .inr ⟨ah,.inr ⟨rfl,?_⟩⟩;simp[go_sem]
   |true=>
    rw[hq] at k;have q:b.toNat=35:=by simpa using hq
    have y:g_ b=true:=by simp[g_,q]
    rw[U8 hb c q] at a;simp only[go_sem,seval,ak,a0,a1,g,n,p,c2,m,o,k,ω];have key:∀dQ:az,dQ 0=.str s->dQ 1=.i i->aF (aT aE aes dQ H) λx f H'=>(x=.normal/\f 0=.str s/\f 1=.i (fp g_ s i:Nat)):=by intro dQ u b1;refine An ?_;rw[gu];refine aW (lL (SO s (fp g_ s i)) (aet s (fp g_ s i)) (λd α H v=>alm w d α H v) (s.length-i) _ _ ⟨⟨i,aa,rfl,b1⟩,u⟩) ?_;rintro x fS H2 ⟨rfl,d0,l⟩;exact .inl ⟨.inr rfl,rfl,d0,l⟩
    refine AM (key _ (by simp[go_sem,a0]) (by simp[go_sem,a1])) ?_;rintro x f H' ⟨rfl,d0,l⟩;simp only[go_sem];have t:=Ih g_ s (i:=i+1) aa;have g2:=EV g_ s (i+1);rw[<-tU hb y] at t g2;exact .inl ⟨trivial,s.length-fp g_ s i,aa,⟨_,aa,a,l⟩,d0⟩
 ·have g:=bU ((i:Int)<(s.length:Int));rw[VE aa] at a;subst a;simp only[go_sem,seval,ak,a0,a1,g];refine .inr ⟨ah,.inl ⟨rfl,?_⟩⟩;simp[go_sem,a1]
def awe(s:List UInt8)(i:Nat)(hi:i<=s.length)(f:s.length<=16384):aK prog (run aE) 156 [.str s,.i i]=some (.i (bj s i:Nat)):=by
 refine eX (c:=.seq _ (.seq aDl K10)) rfl rfl func156 rfl (by rw[ntmps156];simp) (bE:=[.str s,.i i]) rfl rfl ?_ rfl;simp[go_sem,ak];refine jw (id:=0) ?_;rw[gu];refine aW (lL (Uf s (bj s i)) (P10 (bj s i)) (λd α H b=>aqZ f d α H b) (s.length-i) _ _ ⟨⟨i,aa,rfl,?_⟩,?_⟩) ?_
 case refine_3=>
  rintro e ae H' (⟨rfl,a1⟩|⟨rfl,a4⟩)
  ·refine .inl ⟨.inr rfl,?_⟩;have a:K10=.seq _ _:=rfl;rw[a];simp only[go_sem,seval,results156,a1];exact⟨_,rfl,rfl⟩
  ·refine .inr ⟨rfl,?_⟩;simp only[go_sem,seval,results156,a4];exact⟨_,rfl,rfl⟩
 all_goals(simp[go_sem];try rfl)
def lv(l:List UInt8):List AV:=l.map λb=>.int .u8 b.toNat
def HK(l:List UInt8):(lv l).length=l.length:=by simp[lv]
def agZ(l)(c:UInt8):lv l++[.int .u8 c.toNat]=lv (l++[c]):=by simp[lv]
def Yz:∀l:List UInt8,wV (lv l)=some l
 |[]=>rfl
 |b::l=>by have hb:=b.toNat_lt;show(if 0<=(b.toNat:Int)/\(b.toNat:Int)<256 then an (wV (lv l)) λl=>some (UInt8.ofNat ((b.toNat:Int)).toNat::l) else none)=_;rw[xD,Yz l];simp[an]
def bd(p:AV)(o:Ab.Own)(bs:List UInt8):bB:=.k 329 [p,.vec o (lv bs)]
def Bd(m:Nat)(L:List (Nat×bB))(b:Nat)(bs:List UInt8):Prop:=
 b<m/\((bs=[]/\cg L b=some (bd (.val (.pointer none)) .nil []))\/(bs≠[]/\∃j,j<m/\j≠b/\cg L b=some (bd (.ptr b 0) (.own j) bs)/\cg L j=some (.bQ bs.length 5)))
def Jb:fk prog 327=some 5:=af
def MK:bX prog 5=some 1:=af
def by5:jS prog 5=some 1:=af
def RF:dz prog 5=some [.int .u8 0]:=af
def RG:bX prog 327=some 1:=af
def awf:cv prog 327=some false:=af
def aeu:cv prog 5=some false:=af
def aAw(cs)(off):iP prog 327 cs off=cs[off]? :=kE awf cs off
def ah9:gY prog 329=some [(0,326),(1,327)]:=af
def aq0:dz prog 329=some [.val (.pointer none),.vec .nil []]:=af
def aq1(n k):bV prog 329 1 (.ptr n k)=some (.ptr n (k+1)):=by simp[bV,ah9,RG]
def aAx(x)(H):dZ prog 327 1 [(0,.int .u8 x)] H=some (.vec .full [.int .u8 x],H):=by simp[dZ,Jb,MK,RF,mc,fF,lj,eo,AV.erase,AV.width,AV.cells,AV.one,sZ]
def ao(t1 t2)(x y)(H):cG aE.fq prog [t1,t2] [x,y] H=cH (λ_=>false) prog t1 t2 x y H:=(rfl)
def Ib(l):ou prog 327 (lv l)=true:=by cases l<;>simp[ou,Jb,MK,lv,AV.width]
def awg(x:UInt8)(m)(L):cH (λ_=>false) prog 327 327 (.vec .nil []) (.vec .full [.int .u8 x.toNat]) ⟨m,L⟩=some (.vec (.own m) (lv [x]),⟨m+1,(m,.bQ 1 5)::L⟩):=by have a:=Ib [x];have b:=Ib [];simp[lv] at a b;simp[cH,Jb,MK,by5,RF,jK,nH,a,b,ab.push,lv]
def awh(l:List UInt8)(x:UInt8){m j}{L}(b:j<m)(hg:cg L j=some (.bQ l.length 5))(hb:l.length<=16384):cH (λ_=>false) prog 327 327 (.vec (.own j) (lv l)) (.vec .full [.int .u8 x.toNat]) ⟨m,L⟩=some (.vec (.own j) (lv (l++[x])),⟨m,aH L j (.bQ (l.length+1) 5)⟩):=by
 have a:ou prog 327 [.int .u8 x.toNat]=true:=Ib [x];have c:(lv l).length+1<=140737488355328:=by rw[HK];omega
 have h3:(lv l).length+1<=9223372036854775807:=by rw[HK];omega
 simp[cH,Jb,MK,by5,RF,jK,nH,Ib,a,c,h3,agZ l x,ab.get,ab.set,b,hg]
 rw[HK l] at*
 simp
def call228:=xc aE 258 rfl rfl
def call147:=xc aE 238 rfl rfl
def call109:=xc aE 239 rfl rfl
attribute [go_sem] aAw aq1 aAx ao call228 call147 call109
def af8{m b}{L}(hb:b<m)(hg:cg L b=some (bd (.val (.pointer none)) .nil [])):run aE 258 [.ptr b 0] ⟨m,L⟩=some (.tup [],⟨m,aH L b (bd (.ptr b 0) .nil [])⟩):=by rw[wK rfl];show qU 258 _ _=_;simp[qU,bG,uv,ab.get,hb,hg,bd,Fl,ab.set]
def ag0{m b}{L}{o}{bs}(hb:b<m)(hg:cg L b=some (bd (.ptr b 0) o bs)):run aE 258 [.ptr b 0] ⟨m,L⟩=some (.tup [],⟨m,L⟩):=by rw[wK rfl];show qU 258 _ _=_;simp[qU,bG,uv,ab.get,hb,hg,bd,Fl,Jl]
def aaO{m b}{L}{bs:List UInt8}(h:Bd m L b bs)(c:UInt8)(t:bs.length<=16384):∃m' s,run aE 238 [.ptr b 0,.int .u8 c.toNat] ⟨m,L⟩=some (.val .nilIface,⟨m',s⟩)/\Bd m' s b (bs++[c]):=by
 obtain⟨a,h⟩:=h;rcases h with⟨rfl,hg⟩|⟨a_,j,q,k,hg,r⟩
 ·have l:=af8 a hg;have i:(b<m)=True:=ο a;have p:cg (aH L b (bd (.ptr b 0) .nil [])) b=some (bd (.ptr b 0) .nil []):=by rw[aR,μ rfl,hg];rfl
  have n:eF (aH L b (bd (.ptr b 0) .nil [])) b=some [.ptr b 0,.vec .nil []]:=by rw[eF,p];rfl
  have o:=awg c m (aH L b (bd (.ptr b 0) .nil []));have f:∀d,cg d b=some (bd (.ptr b 0) .nil [])->ug prog 327 (.ptr b 1) (.vec (.own m) (lv [c])) ⟨m+1,(m,.bQ 1 5)::d⟩=some (gz,⟨m+1,(m,.bQ 1 5)::aH d b (bd (.ptr b 0) (.own m) [c])⟩):=by intro d g;rw[HQ,xD,Nc,bM];simp[eF,g,an,RG,AV.width,AV.cells,eo,AV.one,bo,show m≠b by omega,bd,Da,eg,tW]
  have e:=f _ p;rw[f_] at e;refine⟨m+1,(m,.bQ 1 5)::aH L b (bd (.ptr b 0) (.own m) [c]),ow (c:=.seq _ (.seq _ (.seq _ (.seq _ _)))) rfl rfl func238 rfl (by rw[ntmps238];simp) ?_,?_⟩
  ·simp[go_sem,ak,l,o,e,i,n,results238];try rfl
  ·refine⟨aa,.inr ⟨ah,m,aa,aa,?_,?_⟩⟩
   ·rw[bo,bM,aR,μ rfl,hg];rfl
   ·rw[bo,μ rfl];rfl
 ·have l:=ag0 a hg;have i:(b<m)=True:=ο a;have n:eF L b=some [.ptr b 0,.vec (.own j) (lv bs)]:=by simp[eF,hg,bd]
  have o:=awh bs c q r t;have g2:cg (aH L j (.bQ (bs.length+1) 5)) b=some (bd (.ptr b 0) (.own j) bs):=by rw[aR,κ k];exact hg
  have e:ug prog 327 (.ptr b 1) (.vec (.own j) (lv (bs++[c]))) ⟨m,aH L j (.bQ (bs.length+1) 5)⟩=some (gz,⟨m,aH (aH L j (.bQ (bs.length+1) 5)) b (bd (.ptr b 0) (.own j) (bs++[c]))⟩):=by rw[HQ,μ a];simp[eF,g2,bd,an,RG,AV.width,AV.cells,eo,AV.one,Da,eg]
  refine⟨m,aH (aH L j (.bQ (bs.length+1) 5)) b (bd (.ptr b 0) (.own j) (bs++[c])),ow (c:=.seq _ (.seq _ (.seq _ (.seq _ _)))) rfl rfl func238 rfl (by rw[ntmps238];simp) ?_,?_⟩
  ·simp[go_sem,ak,l,o,e,i,n,results238];try rfl
  ·refine⟨a,.inr ⟨ah,j,q,k,?_,?_⟩⟩
   ·rw[aR,μ rfl,g2];rfl
   ·rw[aR,κ (λh=>k h.symm),aR,μ rfl,r];simp
def aln{m b}{L}{bs}(h:Bd m L b bs):∃H',run aE 239 [.ptr b 0] ⟨m,L⟩=some (.str bs,H'):=by
 obtain⟨a,h⟩:=h;rw[wK rfl];show ∃H',qU 239 _ _=_;rcases h with⟨rfl,hg⟩|⟨c,j,d,ML,hg,e⟩
 ·exact⟨_,by simp[qU,bG,uv,wM,ab.get,a,hg,bd,lv];rfl⟩
 ·have f:=Yz bs;have h3:bs.length≠0:=λg=>c (Ξ.1 g);exact⟨_,by simp[qU,bG,uv,wM,ab.get,a,hg,bd,d,e,HK bs,h3,f,an];rfl⟩
def ltI(b:UInt8)(n):decide ((b.toNat:Int)<((n:Nat):Int))=decide (b.toNat<n):=by rw[aE7,aEn,aEn];omega
def dF(a b):(((a:Nat):Int)==((b:Nat):Int))=decide (a=b):=by rw[aE7,aFl,aEn];omega
def zz(d:UInt8):Int:=if d.toNat=110 then 0 else if d.toNat=116 then 1 else if d.toNat=34 then 2 else if d.toNat=92 then 3 else-1
noncomputable def aDm:Bool:=(List.range 256).all λn=>match aK prog (eL aE 30) 237 [.str [110,116,34,92],.int .u8 (n:Nat)] with
 |some (.int .i64 x)=>decide (x=zz (UInt8.ofNat n))
 |_=>false
def alo(b:UInt8):aK prog (run aE) 237 [.str [110,116,34,92],.int .u8 b.toNat]=some (.i (zz b)):=by
 have h:aDm=true:=af;have a:=aEi.1 h b.toNat (aER.2 b.toNat_lt);revert a
 cases hc:aK prog (eL aE 30) 237 [.str [110,116,34,92],.int .u8 b.toNat] with
 |none=>intro a;cases a
 |some v=>
  cases v<;>intro a<;>try(cases a;done)
  rename_i k x;cases k<;>try(cases a;done)
  simp[aGO] at a;rw[<-a];exact AR 30 hc
def alp{d}(h:kB d=none):zz d= -1:=by
 unfold kB at h;unfold zz;repeat' split at h
 all_goals first|(cases h;done)|(simp_all)
def alq{d e:UInt8}(h:kB d=some e):decide (zz d<0)=false/\mI prog 9 (.str [10,9,34,92]) (.i (zz d))=some (.int .u8 e.toNat):=by
 unfold kB at h;unfold zz;split at h
 ·cases h;rename_i a;rw[μ a];exact⟨rfl,iY (i:=0) rfl⟩
 ·rename_i a;split at h
  ·cases h;rename_i b;rw[κ a,μ b];exact⟨rfl,iY (i:=1) rfl⟩
  ·rename_i b;split at h
   ·cases h;rename_i h3;rw[κ a,κ b,μ h3];exact⟨rfl,iY (i:=2) rfl⟩
   ·rename_i h3;split at h
    ·cases h;rename_i c;rw[κ a,κ b,κ h3,μ c];exact⟨rfl,iY (i:=3) rfl⟩
    ·cases h
def call106:=lx aE prog 237 rfl rfl
def aAy(m)(L):sW prog 329 ⟨m,L⟩=some (.ptr m 0,⟨m+1,(m,bd (.val (.pointer none)) .nil [])::L⟩):=by simp[sW,aq0,ab.push,bd,lv]
attribute [go_sem] call106 aAy
def rest(s:List UInt8)(i:Nat):List UInt8:=(s.take (s.length-1)).drop i
def NV{s:List UInt8}{i}{c}(hi:i<s.length-1)(h:s[i]? =some c):rest s i=c::rest s (i+1):=by unfold rest;exact j_ (by rw[Τ hi];exact h)
def YA{s:List UInt8}{i}(hi:s.length-1<=i):rest s i=[]:=by unfold rest;exact aEk (by rw[aEH];omega)
noncomputable def Ug:=f217.c.r.r.r.l.r.b.b
noncomputable def aDn:Code:=.block 0 (.loop Ug)
noncomputable def K82:=f217.c.r.r.r.r
structure Uh(s:List UInt8)(d:Nat)(α:az)(H:ab):Prop where
 ex:∃(i m:Nat) (L:List (Nat×bB)) (out:List UInt8),i+d=s.length-1/\out.length<=i/\pre out (hM (rest s i))=hM (rest s 1)/\H=⟨m,L⟩/\Bd m L 0 out/\α 5=.i i
 a0:α 0=.str s
 a4:α 4=.ptr 0 0
def P82(s:List UInt8)(e:Ex)(α:az)(H:ab):Prop:=
 (e=.exit 0/\α 4=.ptr 0 0/\∃(m:Nat) (L:List (Nat×bB)) (out:List UInt8),H=⟨m,L⟩/\Bd m L 0 out/\hM (rest s 1)=some out)\/(e=.ret/\hM (rest s 1)=none/\α 2=.str []/\α 3=.i 22)
def aq2{s:List UInt8}(hn:s.length<=16384)(d:Nat)(α:az)(H:ab)(h:Uh s d α H):
  aF (aN aE (run aE) aL Ug α H) λx A H'=>(x=.normal/\∃D,D<d/\Uh s D A H')\/(x≠.normal/\P82 s x A H'):=by
 obtain⟨⟨i,m,L,out,hd,ho,k,rfl,r,a5⟩,a0,a4⟩:=h;have I:Ug=.seq (.seq _ _) (.seq (.block _ (.block _ (.seq _ _))) _):=rfl;rw[I];have b:s.length≠0->IntKind.i64.wrap ((s.length:Int)-1)=((s.length-1:Nat):Int):=λh=>by rw[aEC _ (by omega)];omega
 by_cases hi:i<s.length-1
 ·have b:=b (by omega);have g:decide ((i:Int)<((s.length-1:Nat):Int))=true:=π (by omega);obtain⟨c,F⟩:=get_some (s:=s) (i:=i) (by omega);have l:=iY F;have f:((c.toNat:Int)==92)=decide (c.toNat=92):=lE c 92;have w1:IntKind.i64.wrap ((i:Int)+1)=((i+1:Nat):Int):=by rw[aEC _ (by omega)];omega
  rw[NV hi F] at k
  cases hq:decide (c.toNat=92) with
  |true=>
   rw[hq] at f;have n:c.toNat=92:=by simpa using hq
   obtain⟨x,o⟩:=get_some (s:=s) (i:=i+1) (by omega);have y:=iY o;have u:=alo x;have J:IntKind.i64.wrap (((i+1:Nat):Int)+1)=((i+2:Nat):Int):=by rw[aEC _ (by omega)];omega
   have bad:(kB x=none\/i+1=s.length-1)->hM (rest s 1)=none:=by
    intro hb;rw[<-k];by_cases j:i+1<s.length-1
    ·rw[NV j o,Xu n (by rcases hb with hb|hb;exact hb;omega)];rfl
    ·rw[YA (by omega),Xs n];rfl
   cases he:kB x with
   |none=>
    have p:decide (zz x<0)=true:=by rw[alp he];rfl
    simp only[go_sem,seval,ak,a0,a5,g,l,y,u,f,b,w1,p];refine .inr ⟨by simp,.inr ⟨rfl,bad (.inl he),?_,?_⟩⟩;all_goals simp[go_sem]
   |some e=>
    obtain⟨p,G⟩:=alq he;have a:(((i+1:Nat):Int)==((s.length-1:Nat):Int))=decide (i+1=s.length-1):=dF _ _
    cases j:decide (i+1=s.length-1) with
    |true=>
     rw[j] at a;simp only[go_sem,seval,ak,a0,a5,g,l,y,u,f,b,w1,p,a];refine .inr ⟨by simp,.inr ⟨rfl,bad (.inr (by simpa using j)),?_,?_⟩⟩;all_goals simp[go_sem]
    |false=>
     rw[j] at a;have j:i+1≠s.length-1:=by simpa using j
     obtain⟨m',t,v,w⟩:=aaO r e (by omega);simp only[go_sem,seval,ak,a0,a4,a5,g,l,y,u,G,f,b,w1,J,p,a,v];refine .inl ⟨trivial,d-2,by omega,⟨i+2,m',t,out++[e],by omega,by simp;omega,?_,rfl,w,?_⟩,?_,?_⟩
     ·rw[<-k,NV (i:=i+1) (by omega) o,Xt n he]
     all_goals simp[go_sem,a0,a4]
  |false=>
   rw[hq] at f;have n:c.toNat≠92:=by simpa using hq
   have c2:decide ((c.toNat:Int)<32)=decide (c.toNat<32):=ltI c 32;have a:((c.toNat:Int)==34)=decide (c.toNat=34):=lE c 34;by_cases B:c.toNat<32\/c.toNat=34
   ·have C:hM (rest s 1)=none:=by rw[<-k,Xv n B];rfl
    by_cases E:c.toNat<32
    ·rw[π E] at c2;simp only[go_sem,seval,ak,a0,a5,g,l,f,c2,b];refine .inr ⟨by simp,.inr ⟨rfl,C,?_,?_⟩⟩;all_goals simp[go_sem]
    ·rw[ξ E] at c2;rw[π (show c.toNat=34 by omega)] at a;simp only[go_sem,seval,ak,a0,a5,g,l,f,c2,a,b];refine .inr ⟨by simp,.inr ⟨rfl,C,?_,?_⟩⟩;all_goals simp[go_sem]
   ·rw[ξ (show ¬c.toNat<32 by omega)] at c2;rw[ξ (show ¬c.toNat=34 by omega)] at a;obtain⟨m',t,v,w⟩:=aaO r c (by omega);simp only[go_sem,seval,ak,a0,a4,a5,g,l,f,c2,a,b,w1,v];refine .inl ⟨trivial,d-1,by omega,⟨i+1,m',t,out++[c],by omega,by simp;omega,?_,rfl,w,?_⟩,?_,?_⟩
    ·rw[<-k,Wc n B]
    all_goals simp[go_sem,a0,a4]
 ·have o:∃z,IntKind.i64.wrap ((s.length:Int)-1)=z/\decide ((i:Int)<z)=false:=by
   by_cases q:s.length=0
   ·exact⟨_,rfl,by rw[q,aEC _ (by omega)];exact ξ (by omega)⟩
   ·exact⟨_,b q,ξ (by omega)⟩
  obtain⟨z,q,g⟩:=o;simp only[go_sem,seval,ak,a0,a5,g,q];refine .inr ⟨by simp,.inl ⟨rfl,?_,m,L,out,rfl,r,?_⟩⟩
  ·simp[go_sem,a4]
  ·rw[<-k,YA (by omega),Xr,pre_some,Η]
def HL{s:List UInt8}(h:¬(s.length<2\/s.head?≠some 34\/s[s.length-1]?≠some 34)):wN s=hM (rest s 1):=by rw[wN,κ h];rfl
def VZ{s:List UInt8}(h:s.length<2\/s.head?≠some 34\/s[s.length-1]?≠some 34):wN s=none:=by rw[wN,μ h]
def pt(s:List UInt8):AV:=.tup [.str ((wN s).getD []),.i (if(wN s).isSome=true then 0 else 22)]
def aaP(s:List UInt8)(hn:s.length<=16384):(s.length<2/\decide ((s.length:Int)<2)=true)\/(∃a z:UInt8,2<=s.length/\decide ((s.length:Int)<2)=false/\s[0]? =some a/\s[s.length-1]? =some z/\IntKind.i64.wrap ((s.length:Int)-1)=((s.length-1:Nat):Int)/\
  ((s.head?≠some 34\/s[s.length-1]?≠some 34)↔(a.toNat≠34\/z.toNat≠34))):=by
 by_cases h:s.length<2
 ·exact .inl ⟨h,π (by omega)⟩
 ·obtain⟨a,c⟩:=get_some (s:=s) (i:=0) (by omega);obtain⟨z,d⟩:=get_some (s:=s) (i:=s.length-1) (by omega);have e:∀x:UInt8,(some x≠some 34)↔x.toNat≠34:=λx=>by rw[ne_eq,Ζ];exact⟨λh b=>h (aFu.1 b),λh b=>h (by rw[b];rfl)⟩
  refine .inr ⟨a,z,by omega,ξ (by omega),c,d,by rw[aEC _ (by omega)];omega,?_⟩;rw[d,aGl,c,e,e]
def aia(s:List UInt8)(t:s.length<=16384):aK prog (run aE) 217 [.str s]=some (pt s):=by
 refine eX (c:=.seq _ (.seq (.seq _ _) (.seq _ (.seq (.seq _ aDn) K82)))) rfl rfl func217 rfl (by rw[ntmps217];simp) (bE:=[.str s]) rfl rfl ?_ rfl;have b:s.length<2\/s.head?≠some 34\/s[s.length-1]?≠some 34->pt s=.tup [.str [],.i 22]:=λh=>by rw[pt,VZ h];rfl
 rcases aaP s t with⟨q,g⟩|⟨a,z,q,g,B,x,w1,k⟩
 ·rw[b (.inl q)];simp only[go_sem,seval,ak,g,results217];exact⟨_,rfl,rfl⟩
 ·have p:mI prog 9 (.str s) (.i 0)=some (.int .u8 a.toNat):=iY B;have r:=iY x;have f:((a.toNat:Int) != 34)= !decide (a.toNat=34):=xA a 34;have c2:((z.toNat:Int) != 34)= !decide (z.toNat=34):=xA z 34;by_cases j:a.toNat=34
  ·rw[π j] at f;by_cases l:z.toNat=34
   ·rw[π l] at c2;have u:¬(s.length<2\/s.head?≠some 34\/s[s.length-1]?≠some 34):=by rw[k];omega
    simp[go_sem,ak,g,p,r,f,c2,w1,ω];refine jw (id:=0) ?_;rw[gu];refine aW (lL (Uh s) (P82 s) (λd α H y=>aq2 t d α H y) (s.length-2) _ _ ⟨⟨1,1,_,[],aa,ah,pre_nil _,rfl,⟨aa,.inl ⟨rfl,rfl⟩⟩,?_⟩,?_,?_⟩) ?_
    case refine_4=>
     rintro e ae H' (⟨rfl,a4,m,L,out,rfl,v,n⟩|⟨rfl,n,a2,a3⟩)
     ·refine .inl ⟨.inr rfl,?_⟩;have w:K82=.seq _ _:=rfl;rw[w];obtain⟨H',A⟩:=aln v;have o:pt s=.tup [.str out,.i 0]:=by rw[pt,HL u,n];rfl
      rw[o];simp only[go_sem,seval,a4,A,results217];exact⟨_,rfl,rfl⟩
     ·refine .inr ⟨rfl,?_⟩;have o:pt s=.tup [.str [],.i 22]:=by rw[pt,HL u,n];rfl
      rw[o];simp only[go_sem,seval,a2,a3,results217];exact⟨_,rfl,rfl⟩
    all_goals(simp[go_sem];try rfl)
   ·rw[ξ l] at c2;rw[b (.inr (k.2 (.inr l)))];simp only[go_sem,seval,ak,g,p,r,f,c2,w1,ω,χ,results217];exact⟨_,rfl,rfl⟩
  ·rw[ξ j] at f;rw[b (.inr (k.2 (.inl j)))];simp only[go_sem,seval,ak,g,p,f,χ,results217];exact⟨_,rfl,rfl⟩
def alr{a:List UInt8}(h:a.length<=16384)(x):jM .add a [x]=some (.str (a++[x])):=by have:a.length+1<=9223372036854775807:=aa;simp[jM,this]
noncomputable def zZ:=f197.c.r.r.r.r.r.l.b.b
noncomputable def aDo:Code:=.block 0 (.loop zZ)
noncomputable def K19:=f197.c.r.r.r.r.r.r
structure Ui(u:Option (List UInt8))(d:Nat)(α:az)(H:ab):Prop where
 ex:∃(r out:List UInt8),r.length=d/\out.length+d<=16384/\pre out (hM r)=u/\α 6=.str r/\α 5=.str out
def P19(u:Option (List UInt8))(e:Ex)(α:az)(H:ab):Prop:=
 (e=.exit 0/\∃out,u=some out/\α 5=.str out)\/(e=.ret/\u=none/\α 2=.str []/\α 3=.i 22)
def aq3{u}(d:Nat)(hn:d<=16384)(α:az)(H:ab)(h:Ui u d α H):
  aF (aT aE zZ α H) λx F H'=>(x=.normal/\∃G,G<d/\Ui u G F H')\/(x≠.normal/\P19 u x F H'):=by
 obtain⟨r,out,E,kJ,p,a6,a5⟩:=h;have v:=λx=>alr (a:=out) aa x;have L:zZ=.seq (.seq _ _) (.block _ (.seq _ (.seq (.seq _ _) (.seq (.seq _ _) (.seq (.seq _ _) (.seq (.seq _ (.block _ (.seq _ _))) _)))))):=rfl;rw[L]
 cases r with
 |nil=>
  have g:decide ((([]:List UInt8).length:Int)>0)=false:=rfl;simp only[go_sem,seval,ak,a6,g];refine .inr ⟨ah,.inl ⟨rfl,out,?_,?_⟩⟩
  ·rw[<-p,Xr,pre_some,Η]
  ·simp only[go_sem,seval,a5]
 |cons c t=>
  simp at E;have g:=bH (((t.length+1:Nat):Int)>0);have l:mI prog 9 (.str (c::t)) (.i 0)=some (.int .u8 c.toNat):=iY (i:=0) rfl;have f:decide ((c.toNat:Int)<32)=decide (c.toNat<32):=ltI c 32;have c2:((c.toNat:Int)==34)=decide (c.toNat=34):=lE c 34;have k:((c.toNat:Int) != 92)= !decide (c.toNat=92):=xA c 92;by_cases J:c.toNat<32\/c.toNat=34
  ·have o:u=none:=by rw[<-p,Xv aa J];rfl
   by_cases I:c.toNat<32
   ·rw[π I] at f;simp only[go_sem,seval,ak,a6,g,l,f];refine .inr ⟨ah,.inr ⟨rfl,o,?_,?_⟩⟩;all_goals simp only[go_sem,seval]
   ·rw[ξ I] at f;rw[π (show c.toNat=34 by omega)] at c2;simp only[go_sem,seval,ak,a6,g,l,f,c2];refine .inr ⟨ah,.inr ⟨rfl,o,?_,?_⟩⟩;all_goals simp only[go_sem,seval]
  ·rw[ξ (show ¬c.toNat<32 by omega)] at f;rw[ξ (show ¬c.toNat=34 by omega)] at c2;by_cases n:c.toNat=92
   ·rw[π n] at k
    cases t with
    |nil=>
     have m:decide ((([c]:List UInt8).length:Int)<2)=true:=rfl;have o:u=none:=by rw[<-p,Xs n];rfl
     simp only[go_sem,seval,ak,a6,g,l,f,c2,k,m,ω];refine .inr ⟨ah,.inr ⟨rfl,o,?_,?_⟩⟩;all_goals simp only[go_sem,seval]
    |cons x t=>
     simp at E;rw[Γ] at g;have m:=bU (((t.length+1+1:Nat):Int)<2);have w:mI prog 9 (.str (c::x::t)) (.i 1)=some (.int .u8 x.toNat):=iY (i:=1) rfl;have q:kg prog 9 (some (.i 2)) none (.str (c::x::t))=some (.str t):=K2 (c::x::t) (a:=2) ah;have k1:((x.toNat:Int)==110)=decide (x.toNat=110):=lE x 110;have k2:((x.toNat:Int)==116)=decide (x.toNat=116):=lE x 116;have s:((x.toNat:Int)==34)=decide (x.toNat=34):=lE x 34;have C:((x.toNat:Int)==92)=decide (x.toNat=92):=lE x 92;have B:∀e,kB x=some e->pre (out++[e]) (hM t)=u:=λe j=>by rw[<-p,Xt n j]
     by_cases y:x.toNat=110
     ·have j:kB x=some 10:=by simp[kB,y]
      rw[π y] at k1;simp only[go_sem,seval,ak,a5,a6,g,l,f,c2,k,m,w,q,k1,v,ω];refine .inl ⟨trivial,t.length,aa,⟨t,out++[10],rfl,aP,B _ j,?_,?_⟩⟩;all_goals simp only[go_sem,seval]
     ·rw[ξ y] at k1;by_cases D:x.toNat=116
      ·have j:kB x=some 9:=by simp[kB,D]
       rw[π D] at k2;simp only[go_sem,seval,ak,a5,a6,g,l,f,c2,k,m,w,q,k1,k2,v,ω];refine .inl ⟨trivial,t.length,aa,⟨t,out++[9],rfl,aP,B _ j,?_,?_⟩⟩;all_goals simp only[go_sem,seval]
      ·rw[ξ D] at k2;by_cases z:x.toNat=34
       ·have j:kB x=some 34:=by simp[kB,z]
        rw[π z] at s;simp only[go_sem,seval,ak,a5,a6,g,l,f,c2,k,m,w,q,k1,k2,s,v,ω];refine .inl ⟨trivial,t.length,aa,⟨t,out++[34],rfl,aP,B _ j,?_,?_⟩⟩;all_goals simp only[go_sem,seval]
       ·rw[ξ z] at s;by_cases A:x.toNat=92
        ·have j:kB x=some 92:=by simp[kB,A]
         rw[π A] at C;simp only[go_sem,seval,ak,a5,a6,g,l,f,c2,k,m,w,q,k1,k2,s,C,v,ω];refine .inl ⟨trivial,t.length,aa,⟨t,out++[92],rfl,aP,B _ j,?_,?_⟩⟩;all_goals simp only[go_sem,seval]
        ·rw[ξ A] at C;have j:kB x=none:=by simp[kB,y,D,z,A]
         have o:u=none:=by rw[<-p,Xu n j];rfl
         simp only[go_sem,seval,ak,a6,g,l,f,c2,k,m,w,k1,k2,s,C,ω];refine .inr ⟨ah,.inr ⟨rfl,o,?_,?_⟩⟩;all_goals simp only[go_sem,seval]
   ·rw[ξ n] at k;have K:kg prog 9 none (some (.i 1)) (.str (c::t))=some (.str [c]):=aer (c::t) (b:=1) ah;have q:kg prog 9 (some (.i 1)) none (.str (c::t))=some (.str t):=K2 (c::t) (a:=1) ah;simp only[go_sem,seval,ak,a5,a6,g,l,f,c2,k,K,q,v,χ];refine .inl ⟨trivial,t.length,aa,⟨t,out++[c],rfl,aP,by rw[<-p,Wc n J],?_,?_⟩⟩;all_goals simp only[go_sem,seval]
def aib(s:List UInt8)(D:s.length<=16384):aK prog (run aE) 197 [.str s]=some (pt s):=by
 refine eX (c:=.seq _ (.seq _ (.seq (.seq _ _) (.seq _ (.seq _ (.seq aDo K19)))))) rfl rfl func197 rfl (by rw[ntmps197];simp) (bE:=[.str s]) rfl rfl ?_ rfl;have f:s.length<2\/s.head?≠some 34\/s[s.length-1]?≠some 34->pt s=.tup [.str [],.i 22]:=λh=>by rw[pt,VZ h];rfl
 rcases aaP s D with⟨k,j⟩|⟨a,z,k,j,E,B,w1,m⟩
 ·rw[f (.inl k)];simp only[go_sem,seval,ak,j,results197];exact⟨_,rfl,rfl⟩
 ·have r:mI prog 9 (.str s) (.i 0)=some (.int .u8 a.toNat):=iY E;have u:=iY B;have g:((a.toNat:Int) != 34)= !decide (a.toNat=34):=xA a 34;have c2:((z.toNat:Int) != 34)= !decide (z.toNat=34):=xA z 34;by_cases l:a.toNat=34
  ·rw[π l] at g;by_cases n:z.toNat=34
   ·rw[π n] at c2;have v:¬(s.length<2\/s.head?≠some 34\/s[s.length-1]?≠some 34):=by rw[m];omega
    have x:kg prog 9 (some (.i 1)) (some (.i (s.length-1:Nat))) (.str s)=some (.str (rest s 1)):=xZ s (a:=1) (b:=s.length-1) aa aa;simp[go_sem,ak,j,r,u,g,c2,w1,x,ω];refine jw (id:=0) ?_;rw[gu];have t:(rest s 1).length<=16384:=by unfold rest;simp;omega
    refine aW (lL (λd α H=>d<=16384/\Ui (hM (rest s 1)) d α H) (P19 (hM (rest s 1))) (λd α H o=>aW (aq3 d o.1 α H o.2) ?_) (rest s 1).length _ _ ⟨t,⟨rest s 1,[],rfl,by simpa using t,pre_nil _,?_,?_⟩⟩) ?_
    case refine_1=>
     rintro e y H' (⟨k,C,w,h3⟩|h)
     ·exact .inl ⟨k,C,w,by have:=o.1;omega,h3⟩
     ·exact .inr h
    case refine_4=>
     rintro e y H' (⟨rfl,out,p,a5⟩|⟨rfl,p,a2,a3⟩)
     ·refine .inl ⟨.inr rfl,?_⟩;have A:K19=.seq _ _:=rfl;rw[A];have q:pt s=.tup [.str out,.i 0]:=by rw[pt,HL v,p];rfl
      rw[q];simp only[go_sem,seval,a5,results197];exact⟨_,rfl,rfl⟩
     ·refine .inr ⟨rfl,?_⟩;have q:pt s=.tup [.str [],.i 22]:=by rw[pt,HL v,p];rfl
      rw[q];simp only[go_sem,seval,a2,a3,results197];exact⟨_,rfl,rfl⟩
    all_goals(simp[go_sem];try rfl)
   ·rw[ξ n] at c2;rw[f (.inr (m.2 (.inr n)))];simp only[go_sem,seval,ak,j,r,u,g,c2,w1,ω,χ,results197];exact⟨_,rfl,rfl⟩
  ·rw[ξ l] at g;rw[f (.inr (m.2 (.inl l)))];simp only[go_sem,seval,ak,j,r,g,χ,results197];exact⟨_,rfl,rfl⟩
def call82:=lx aE prog 217 rfl rfl
attribute [go_sem] call82
noncomputable def Uj:=f178.c.r.r.l.r.b.b
noncomputable def aDp:Code:=.block 0 (.loop Uj)
noncomputable def K79:=f178.c.r.r.r
def K3(s:List UInt8)(i:Nat)(t:List UInt8)(j:Nat)(e:Int):Prop:=
 (jm s (i+1)=none/\e=22)\/(jm s (i+1)=some j/\t=(s.take j).drop i/\e=if(wN t).isSome=true then 0 else 22)
structure Uk(s:List UInt8)(i k m:Nat)(L:List (Nat×bB))(d:Nat)(α:az)(H:ab):Prop where
 ex:∃j,j+d=s.length+1/\i+1<=j/\jm s j=jm s (i+1)/\H=⟨m,aH L k (sc s j)⟩
 a0:α 0=.ptr k 0
 a4:α 4=.i i
def P79(s:List UInt8)(i k m:Nat)(L:List (Nat×bB))(x:Ex)(α:az)(H:ab):Prop:=
 ∃j,H=⟨m,aH L k (sc s j)⟩/\((x=.exit 0/\jm s (i+1)=none)\/(x=.ret/\∃t e,K3 s i t j e/\α 2=.str t/\α 3=.i e))
def aq4{m}{L}{k}{s:List UInt8}{i i0}(w:Sc m L k s i0)(hn:s.length<=16384)(d:Nat)(α:az)(H:ab)(h:Uk s i k m L d α H):
  aF (aT aE Uj α H) λx z H'=>(x=.normal/\∃B,B<d/\Uk s i k m L B z H')\/(x≠.normal/\P79 s i k m L x z H'):=by
 obtain⟨⟨j,hd,uW,n,rfl⟩,a0,a4⟩:=h;have F:Uj=.seq (.seq _ _) (.seq (.block _ (.seq _ (.block _ (.seq _ _)))) _):=rfl;rw[F];have g:(k<m)=True:=ο w.1;have C:=w.set j;have o:=C.cells;by_cases E:j<s.length
 ·have e:=bH ((j:Int)<(s.length:Int));obtain⟨b,hb⟩:=get_some E;have u:=iY hb;have c:((b.toNat:Int)==34)=decide (b.toNat=34):=lE b 34;have c2:((b.toNat:Int)==92)=decide (b.toNat=92):=lE b 92;have r:((b.toNat:Int)==10)=decide (b.toNat=10):=lE b 10;have w1:=gK (j+1) (j+1:Nat);have G:=gK (((j+1:Nat):Int)+1) (j+2:Nat);have t:=C.store (j+1);rw[f_] at t;have y:=w.set (j+1);have A:=y.cells;have f:=y.store (j+2);rw[f_] at f;by_cases p:b.toNat=34
  ·rw[π p] at c;have l:=U_ hb p;rw[n] at l;have D:=aia ((s.take (j+1)).drop i) aP;simp only[go_sem,seval,ak,a0,a4,e,u,c,w1,t,g,o,A,(xZ s (a:=i) (b:=j+1) aa aa),D,pt,ij];refine .inr ⟨ah,j+1,rfl,.inr ⟨rfl,_,_,.inr ⟨l,rfl,rfl⟩,?_,?_⟩⟩;all_goals simp[go_sem]
  ·rw[ξ p] at c;by_cases v:b.toNat=92
   ·rw[π v] at c2;simp only[go_sem,seval,ak,a0,e,u,c,c2,w1,G,t,f,g,o,A];refine .inl ⟨trivial,d-2,aa,⟨j+2,aa,aa,by rw[<-n,Wd hb v],rfl⟩,?_,?_⟩;all_goals simp[go_sem,a0,a4]
   ·rw[ξ v] at c2;by_cases q:b.toNat=10
    ·rw[π q] at r;have l:=Xw hb q;rw[n] at l;simp only[go_sem,seval,ak,a0,e,u,c,c2,r,g,o];refine .inr ⟨ah,j,rfl,.inr ⟨rfl,[],22,.inl ⟨l,rfl⟩,?_,?_⟩⟩;all_goals simp[go_sem]
    ·rw[ξ q] at r;simp only[go_sem,seval,ak,a0,e,u,c,c2,r,w1,t,g,o];refine .inl ⟨trivial,d-1,aa,⟨j+1,aa,aa,by rw[<-n,U' hb p q v],rfl⟩,?_,?_⟩;all_goals simp[go_sem,a0,a4]
 ·have e:=bU ((j:Int)<(s.length:Int));simp only[go_sem,seval,ak,a0,e,g,o];exact .inr ⟨ah,j,rfl,.inl ⟨rfl,by rw[<-n,NG aa]⟩⟩
def aAz{m}{L:List (Nat×bB)}{k:Nat}{s:List UInt8}{i:Nat}(h:Sc m L k s i)(hi:i<s.length)(n:s.length<=16384):
  ∃t j e,run aE 178 [.ptr k 0] ⟨m,L⟩=some (.tup [.str t,.i e],⟨m,aH L k (sc s j)⟩)/\K3 s i t j e:=by
 have f:(k<m)=True:=ο h.1;have w1:=gK (i+1) (i+1:Nat);suffices b:∃r,run aE 178 [.ptr k 0] ⟨m,L⟩=some r/\∃t j e,r=(.tup [.str t,.i e],⟨m,aH L k (sc s j)⟩)/\K3 s i t j e by obtain⟨r,g,t,j,e,rfl,a⟩:=b;exact⟨t,j,e,g,a⟩
 refine fM (c:=.seq _ (.seq _ (.seq (.seq _ aDp) K79))) rfl rfl func178 rfl (by rw[ntmps178];simp) ?_;simp only[go_sem,seval,ak,f,h.cells,w1,h.store (i+1)];refine jw (id:=0) ?_;rw[gu];refine aW (lL (Uk s i k m L) (P79 s i k m L) (λd α H b=>aq4 h n d α H b) (s.length-i) _ _ ⟨⟨i+1,aa,ν _,rfl,rfl⟩,?_,?_⟩) ?_
 case refine_3=>
  rintro x ae H' ⟨j,rfl,⟨rfl,o⟩|⟨rfl,t,e,a,a2,a3⟩⟩
  ·refine .inl ⟨.inr rfl,?_⟩;have l:K79=.seq _ _:=rfl;rw[l];simp only[go_sem,seval,results178];exact⟨_,rfl,[],j,22,rfl,.inl ⟨o,rfl⟩⟩
  ·refine .inr ⟨rfl,?_⟩;simp only[go_sem,seval,results178,a2,a3];exact⟨_,rfl,t,j,e,rfl,a⟩
 all_goals(simp[go_sem];try rfl)
def kZ:bX prog 95=some 4:=af
def aAA:cv prog 95=some true:=af
def FE:dz prog 95=some [.i 0,.i 0,.str [],.str []]:=af
def IB:gY prog 95=some [(0,3),(1,3),(2,9),(3,9)]:=af
def aDq(m)(L):sW prog 95 ⟨m,L⟩=some (.ptr m 0,⟨m+1,(m,.k 95 [.i 0,.i 0,.str [],.str []])::L⟩):=by simp[sW,FE,ab.push]
def awi(n k):bV prog 95 0 (.ptr n k)=some (.ptr n k):=by simp[bV,IB,qx]
def awj(n k):bV prog 95 1 (.ptr n k)=some (.ptr n (k+1)):=by simp[bV,IB,qx]
def awk(n k):bV prog 95 2 (.ptr n k)=some (.ptr n (k+2)):=by simp[bV,IB,pM]
def awl(n k):bV prog 95 3 (.ptr n k)=some (.ptr n (k+3)):=by simp[bV,IB,pM]
def aDr(a b c d):iP prog 95 [a,b,c,d] 0=some (.agg [a,b,c,d]):=by simp[iP,aAA,kZ]
attribute [go_sem] aDq awi awj awk awl aDr
def Sc.push{m}{L}{k}{s}{i}(h:Sc m L k s i)(c):Sc (m+1) ((m,c)::L) k s i:=⟨by have:=h.1;omega,by rw[bo,κ (by have:=h.1;omega)];exact h.2⟩
def NW{m k}(hk:k<m)(c x)(L):aH ((m,c)::L) k x=(m,c)::aH L k x:=by rw[tW,bM]
def call75:=xc aE 176 rfl rfl
def call79:=xc aE 178 rfl rfl
def call80:=xc aE 179 rfl rfl
def call76:=lx aE prog 108 rfl rfl
def call78:=lx aE prog 177 rfl rfl
attribute [go_sem] call75 call79 call80 call76 call78
def awm{m}{L}{k}{s:List UInt8}{i}(h:Sc m L k s i)(hi:i<=s.length)(a:s.length<=16384)(c):run aE 176 [.ptr k 0] ⟨m+1,(m,c)::L⟩=some (.str ((s.drop i).takeWhile bp),⟨m+1,(m,c)::aH L k (sc s (fp bp s i))⟩):=by rw[mM (h.push c) hi a,NW h.1]
def awn{m}{L}{k}{s:List UInt8}{i}(h:Sc m L k s i)(hi:i<=s.length)(a:s.length<=16384)(c):
  run aE 179 [.ptr k 0] ⟨m+1,(m,c)::L⟩=some (.str ((s.drop i).take (jL (s.drop i))),⟨m+1,(m,c)::aH L k (sc s (i+jL (s.drop i)))⟩):=by
 rw[awd (h.push c) hi a,NW h.1]
def aAB{m}{L}{k}{s:List UInt8}{i}(h:Sc m L k s i)(hi:i<s.length)(d:s.length<=16384)(c):
  ∃t j e,run aE 178 [.ptr k 0] ⟨m+1,(m,c)::L⟩=some (.tup [.str t,.i e],⟨m+1,(m,c)::aH L k (sc s j)⟩)/\K3 s i t j e:=by
 obtain⟨t,j,e,a,b⟩:=aAz (h.push c) hi d;rw[NW h.1] at a;exact⟨t,j,e,a,b⟩
def M3:∀t n,kP t=some n->∃z,t[n-1]? =some z/\z.toNat=34
 |[],n,h=>by simp[kP] at h
 |c::t,n,h=>by
  rw[B2] at h;split at h
  ·rename_i f;cases h;exact⟨c,rfl,f⟩
  ·split at h
   ·cases h
   ·split at h
    ·match t,h with
     |[],h=>cases h
     |d::t',h=>simp at h;obtain⟨q,a,rfl⟩:=h;obtain⟨z,e,b⟩:=M3 t' q a;have:=Ce t' q a;refine⟨z,?_,b⟩;rw[show q+2-1=(q-1)+2 by omega];exact e
    ·simp at h;obtain⟨q,a,rfl⟩:=h;obtain⟨z,e,b⟩:=M3 t q a;have:=Ce t q a;refine⟨z,?_,b⟩;rw[show q+1-1=(q-1)+1 by omega];exact e
def Vo{s:List UInt8}{i n}{b:UInt8}(hb:s[i]? =some b)(g:b.toNat=34)(e:kP (s.drop (i+1))=some n):wN ((s.take (i+1+n)).drop i)=hM ((s.drop (i+1)).take (n-1)):=by
 obtain⟨z,j,a⟩:=M3 _ _ e;have d:=Ce _ _ e;have c:b=34:=aFu.1 g;have a:z=34:=aFu.1 a;subst c a;rw[CP,j_ hb,show i+1+n-i=n+1 by omega,aFa];have f:(34::(s.drop (i+1)).take n:List UInt8).length=n+1:=by rw[Γ,aEH,Nat.min_eq_left d.2]
 have h:(34::(s.drop (i+1)).take n:List UInt8)[n]? =some 34:=by rw[show n=(n-1)+1 by omega,aEX,Τ aa];exact j
 rw[wN,f,aGH,κ (by rw[h];simp;omega)];congr 1;rw[show n=(n-1)+1 by omega,aFa,aFb,aEQ,List.take_take];congr 1;omega
def r_(s:List UInt8)(i:Nat)(T:AV)(e:Int)(j:Nat):Prop:=
 match one (s.drop i) with
 | .error x=>e=(x:Int)/\e≠0
 | .ok (kd,n)=>e=0/\j=i+n/\T=.agg [.i kd,.i i,.str [],.str ((s.take (i+n)).drop i)]
def aAC(s:List UInt8)(i k m:Nat)(L:List (Nat×bB))(r:AV×ab):Prop:=
 ∃(tk a:Int) (b d:List UInt8) (e:Int) (c:bB) (j:Nat),r=(.tup [.agg [.i tk,.i a,.str b,.str d],.i e],⟨m+1,(m,c)::aH L k (sc s j)⟩)/\r_ s i (.agg [.i tk,.i a,.str b,.str d]) e j
def awo{m}{L:List (Nat×bB)}{k:Nat}{s:List UInt8}{i:Nat}(h:Sc m L k s i)(hi:i<=s.length)(J:s.length<=16384):∃r,run aE 143 [.ptr k 0] ⟨m,L⟩=some r/\aAC s i k m L r:=by
 have v:(k<m+1)=True:=ο (by have:=h.1;omega);have u:=bf (m<m+1);have w:(m=k)=False:=aGw (by have:=h.1;omega);have o:=h.cells;refine fM (c:=.seq _ (.seq _ (.seq _ _))) af rfl func143 rfl (by rw[ntmps143];simp) ?_;have g:((i:Int)==(s.length:Int))=decide (i=s.length):=dF _ _;by_cases Q:i=s.length
 ·rw[π Q] at g;simp only[go_sem,seval,ak,qx,kZ,v,u,w,o,g,results143];refine⟨_,rfl,_,_,_,_,0,_,i,by rw[h.same],?_⟩;have y:s.drop i=[]:=aEk aa;simp only[r_,y,one,aFG];refine⟨trivial,trivial,?_⟩;rw[CP,aFI];rfl
 ·rw[ξ Q] at g;have P:i<s.length:=aa;obtain⟨b,hb⟩:=get_some P;have y:=j_ hb;have f:=λc=>C3 aDc (h.push c);rw[EF hb] at f;have x:=λc=>C3 aDd (h.push c);rw[EF hb] at x;have B:=λc=>awm h hi J c;have z:=Oc bp s hi;have K:=NF bp s hi;have ic:((s.drop i).takeWhile bp).length<=16384:=by have:=(aFP (l:=s.drop i) bp).length_le;rw[adv] at this;omega
  have A:=aqW ((s.drop i).takeWhile bp);have E:=alj ((s.drop i).takeWhile bp) aa
  cases hL:isLet b with
  |true=>
   have a:=Y2 (t:=s.drop (i+1)) hL;rw[<-y] at a;simp only[hL] at f
   cases hK:isKey ((s.drop i).takeWhile bp) with
   |true=>rw[hK] at A;simp only[go_sem,seval,ak,qx,pM,kZ,v,u,w,o,g,f,B,A,results143];refine⟨_,rfl,_,_,_,_,0,_,_,rfl,?_⟩;rw[μ hK] at a;simp only[r_,a];refine⟨trivial,z,?_⟩;rw[<-z,K];rfl
   |false=>
    rw[hK] at A;rw[κ (by rw[hK];decide)] at a;by_cases O:40<((s.drop i).takeWhile bp).length
    ·have M:=bH ((((s.drop i).takeWhile bp).length:Int)>40);simp only[go_sem,seval,ak,qx,pM,kZ,v,u,w,o,g,f,B,A,M,results143];refine⟨_,rfl,_,_,_,_,26,_,_,rfl,?_⟩;rw[μ O] at a;simp only[r_,a];exact⟨rfl,aA⟩
    ·have M:=bU ((((s.drop i).takeWhile bp).length:Int)>40);simp only[go_sem,seval,ak,qx,pM,kZ,v,u,w,o,g,f,B,A,M,results143];refine⟨_,rfl,_,_,_,_,0,_,_,rfl,?_⟩;rw[κ O] at a;simp only[r_,a];refine⟨trivial,z,?_⟩;rw[<-z,K];rfl
  |false=>
   simp only[hL] at f
   cases hD:jz b with
   |true=>
    have a:=Y3 (t:=s.drop (i+1)) hD;rw[<-y] at a;have I:(s.drop i).takeWhile bp≠[]:=by rw[y,aFo,μ (by simp[bp,hD])];simp
    rw[Xp _ I] at E;simp only[hD] at x
    cases hR:oN 0 ((s.drop i).takeWhile bp) with
    |true=>rw[hR,μ rfl] at E;simp only[go_sem,seval,ak,qx,pM,kZ,v,u,w,o,g,f,x,B,E,results143];refine⟨_,rfl,_,_,_,_,0,_,_,rfl,?_⟩;rw[μ hR] at a;simp only[r_,a];refine⟨trivial,z,?_⟩;rw[<-z,K];rfl
    |false=>rw[hR,κ aA] at E;simp only[go_sem,seval,ak,qx,pM,kZ,v,u,w,o,g,f,x,B,E,results143];refine⟨_,rfl,_,_,_,_,23,_,_,rfl,?_⟩;rw[κ (by rw[hR];decide)] at a;simp only[r_,a];exact⟨rfl,aA⟩
   |false=>
    simp only[hD] at x;have H:=iY hb;have C:((b.toNat:Int)==34)=decide (b.toNat=34):=lE b 34;by_cases D:b.toNat=34
    ·rw[π D] at C;have a:=Y4 (t:=s.drop (i+1)) D;rw[<-y] at a;obtain⟨t,j,e,V,U⟩:=aAB h P J (.k 95 [.i 4,.i i,.str [],.str []]);simp only[go_sem,seval,ak,qx,pM,kZ,v,u,w,o,g,f,x,H,C,V,ij,results143];refine⟨_,rfl,_,_,_,_,e,_,j,rfl,?_⟩;rcases U with⟨d,rfl⟩|⟨d,rfl,F⟩
     ·have:kP (s.drop (i+1))=none:=by
       rw[jm] at d
       cases hq:kP (s.drop (i+1)) with
       |none=>rfl
       |some q=>rw[hq] at d;cases d
      rw[this] at a;simp only[r_,a];exact⟨rfl,aA⟩
     ·rw[jm] at d
      cases hq:kP (s.drop (i+1)) with
      |none=>rw[hq] at d;cases d
      |some q=>
       rw[hq] at d a;simp only[aFJ,Ζ] at d;have S:j=i+(q+1):=aa;have R:=Vo hb D hq;rw[show i+1+q=j by omega] at R;rw[R] at F;simp only at a
       cases hs:(hM ((s.drop (i+1)).take (q-1))).isSome with
       |true=>rw[μ hs] at a F;simp only[r_,a];refine⟨F,S,?_⟩;rw[<-S];rfl
       |false=>rw[κ (by rw[hs];decide)] at a F;simp only[r_,a];rw[F];exact⟨rfl,aA⟩
    ·rw[ξ D] at C;have T:bp b=false:=by simp[bp,hL,hD]
     have a:=Xx (t:=s.drop (i+1)) T D;rw[<-y] at a;have N:=λc=>awn h hi J c
     have hle:jL (s.drop i)<=(s.drop i).length:=by
      cases mY:one (s.drop i) with
      |ok p=>
       have:=(Az (k:=p.1) (n:=p.2) mY).1;rw[a] at mY;by_cases d:jL (s.drop i)=0
       ·omega
       ·rw[κ d] at mY;simp only[Except.ok.injEq] at mY;rw[<-mY] at this;exact this
      |error e=>
       rw[a] at mY;by_cases d:jL (s.drop i)=0
       ·omega
       ·rw[κ d] at mY;cases mY
     by_cases d:jL (s.drop i)=0
     ·have G:((s.drop i).take (jL (s.drop i))==([]:List UInt8))=true:=by rw[d];rfl
      simp only[go_sem,seval,ak,qx,pM,kZ,v,u,w,o,g,f,x,H,C,N,G,results143];refine⟨_,rfl,_,_,_,_,21,_,_,rfl,?_⟩;rw[μ d] at a;simp only[r_,a];exact⟨rfl,aA⟩
     ·have G:((s.drop i).take (jL (s.drop i))==([]:List UInt8))=false:=by
       rw[aEp];intro o;have:=Ι List.length o;rw[aEH] at this;simp only[Χ] at this;omega
      simp only[go_sem,seval,ak,qx,pM,kZ,v,u,w,o,g,f,x,H,C,N,G,results143];refine⟨_,rfl,_,_,_,_,0,_,_,rfl,?_⟩;rw[κ d] at a;simp only[r_,a];refine⟨trivial,trivial,?_⟩;rw[CP,aGb];rfl
def mj(s:List UInt8):Int:=match bad s with
 |some a=>(a:Int)
 |none=> -1
def call69:=lx aE prog 171 rfl rfl
def call15:=lx aE prog 196 rfl rfl
def call31:=lx aE prog 228 rfl rfl
attribute [go_sem] call69 call15 call31
def als(r):aK prog (run aE) 171 [.str r]=some (.tup [.int .i32 ((dec r).1:Nat),.i ((dec r).2:Nat)]):=by refine Am rfl (args:=[.str r]) (v:=.tup [.int .i32 ((dec r).1:Nat),.i ((dec r).2:Nat)]) (H:=.empty) rfl ?_ rfl;show qU 171 [.str r] .empty=_;simp[qU,bG,uv,wM,AQ,Ay]
noncomputable def Ul:=f141.c.r.l.r.b.b
noncomputable def aDu:Code:=.block 0 (.loop Ul)
noncomputable def K35:=f141.c.r.r
structure DL(s:List UInt8)(d:Nat)(α:az)(H:ab):Prop where
 ex:∃i:Nat,i+d=s.length/\ub s i=bad s/\α 3=.i i
 a0:α 0=.str s
def K4(s:List UInt8)(x:Ex)(α:az)(H:ab):Prop:=(x=.exit 0/\mj s= -1)\/(x=.ret/\α 2=.i (mj s))
def aq5{s:List UInt8}(hn:s.length<=16384)(d:Nat)(α:az)(H:ab)(h:DL s d α H):
  aF (aT aE Ul α H) λx o H'=>(x=.normal/\∃p,p<d/\DL s p o H')\/(x≠.normal/\K4 s x o H'):=by
 obtain⟨⟨i,hd,c,a3⟩,a0⟩:=h;have r:Ul=.seq (.seq _ _) (.block _ (.seq _ (.seq (.seq _ _) _))):=rfl;rw[r];by_cases hi:i<s.length
 ·have e:=bH ((i:Int)<(s.length:Int));obtain⟨b,hb⟩:=get_some hi;have n:=K2 s (a:=i) aa;have m:=als (s.drop i);have g:(((dec (s.drop i)).1:Int)==65533)=decide ((dec (s.drop i)).1=65533):=dF _ 65533;have c2:(((dec (s.drop i)).2:Int)==1)=decide ((dec (s.drop i)).2=1):=dF _ 1;have f:=II b (s.drop (i+1));rw[<-j_ hb,adv] at f;have w1:=gK (i+((dec (s.drop i)).2:Int)) (i+(dec (s.drop i)).2:Nat);by_cases j:(dec (s.drop i)).1=65533
  ·rw[π j] at g;by_cases k:(dec (s.drop i)).2=1
   ·rw[π k] at c2;have q:=Vb hi j k;rw[c] at q;simp only[go_sem,seval,ak,a0,a3,e,n,m,g,c2,ij];refine .inr ⟨ah,.inr ⟨rfl,?_⟩⟩;simp[go_sem,mj,q]
   ·rw[ξ k] at c2;rw[MY hi (λl=>k l.2)] at c;simp only[go_sem,seval,ak,a0,a3,e,n,m,g,c2,w1,ij];refine .inl ⟨trivial,s.length-(i+(dec (s.drop i)).2),aa,⟨i+(dec (s.drop i)).2,aa,c,?_⟩,?_⟩;all_goals simp[go_sem,a0]
  ·rw[ξ j] at g;rw[MY hi (λl=>j l.1)] at c;simp only[go_sem,seval,ak,a0,a3,e,n,m,g,w1,ij];refine .inl ⟨trivial,s.length-(i+(dec (s.drop i)).2),aa,⟨i+(dec (s.drop i)).2,aa,c,?_⟩,?_⟩;all_goals simp[go_sem,a0]
 ·have e:=bU ((i:Int)<(s.length:Int));rw[Va aa] at c;simp only[go_sem,seval,ak,a0,a3,e];exact .inr ⟨ah,.inl ⟨rfl,by rw[mj,<-c]⟩⟩
def aAD(s:List UInt8)(f:s.length<=16384):aK prog (run aE) 141 [.str s]=some (.i (mj s)):=by
 refine eX (c:=.seq _ (.seq (.seq _ aDu) K35)) rfl rfl func141 rfl (by rw[ntmps141];simp) (bE:=[.str s]) rfl rfl ?_ rfl;simp[go_sem,ak];refine jw (id:=0) ?_;rw[gu];refine aW (lL (DL s) (K4 s) (λd α H b=>aq5 f d α H b) s.length _ _ ⟨⟨0,aa,(bad_eq s).symm,?_⟩,?_⟩) ?_
 case refine_3=>
  rintro e ae H' (⟨rfl,hb⟩|⟨rfl,a2⟩)
  ·refine .inl ⟨.inr rfl,?_⟩;have a:K35=.seq _ _:=rfl;rw[a,hb];simp only[go_sem,seval,results141];exact⟨_,rfl,rfl⟩
  ·refine .inr ⟨rfl,?_⟩;simp only[go_sem,seval,results141,a2];exact⟨_,rfl,rfl⟩
 all_goals(simp[go_sem];try rfl)
def MM(a b):decide (((a:Nat):Int)<((b:Nat):Int))=decide (a<b):=by rw[aE7,aEn,aEn];omega
def aDv(c:UInt8):rR prog 5 3 (.int .u8 c.toNat)=some (.int .i64 c.toNat):=by
 have a:cv prog 5=some false:=aeu;have b:FZ prog 3=some .i64:=by kernel_rfl
 have hc:=c.toNat_lt;simp only[rR,a,b];rw[aEC _ (by omega)];rfl
attribute [go_sem] aDv
noncomputable def Hw:=f196.c.r.r.r.r.r.r.r.r
noncomputable def Um:=Hw.l.r.b.b
noncomputable def aDw:Code:=.block 0 (.loop Um)
noncomputable def K15:=Hw.r
structure Uo(s:List UInt8)(i n mq least:Nat)(t:List UInt8)(d:Nat)(α:az)(H:ab):Prop where
 ex:∃j acc:Nat,j+d=n/\1<=j/\acc<2^(6*j)/\cont (n-j) acc (t.drop (j-1))=cont (n-1) mq t/\α 11=.i j/\α 9=.i acc
 a0:α 0=.str s
 a1:α 1=.i i
 a8:α 8=.i n
 bD:α 10=.i least
def Ki(α:az):Prop:=α 4=.i 65533/\α 5=.i 1/\α 6=.bool false
def P15(n mq least:Nat)(t:List UInt8)(x:Ex)(α:az)(H:ab):Prop:=
 (x=.exit 0/\∃acc:Nat,acc<2^24/\cont (n-1) mq t=some acc/\α 9=.i acc/\α 8=.i n/\α 10=.i least)\/(x=.ret/\cont (n-1) mq t=none/\Ki α)
def aq6{s:List UInt8}{i n mq least}{b}{t:List UInt8}(q:s.drop i=b::t)(hn:s.length<=16384)(hi:i<s.length)(hlen:n<=t.length+1)(LM:n<=4)(d:Nat)(α:az)(H:ab)(h:Uo s i n mq least t d α H):
  aF (aT aE Um α H) λx k H'=>(x=.normal/\∃l,l<d/\Uo s i n mq least t l k H')\/(x≠.normal/\P15 n mq least t x k H'):=by
 obtain⟨⟨j,acc,hj,hj1,DJ,a,bY,a9⟩,a0,a1,a8,bD⟩:=h;have v:Um=.seq (.seq _ _) (.seq (.block _ (.seq (.seq _ _) _)) _):=rfl;rw[v];have e:decide ((j:Int)<(n:Int))=decide (j<n):=MM j n;have hP:2^(6*(j+1))=2^(6*j)*64:=by rw[aGM,Nat.pow_add]
 have hP4:2^(6*j)<=2^24:=Nat.pow_le_pow_right aa aa;have aEe:(2:Nat)^24=16777216:=aA;by_cases m:j<n
 ·rw[π m] at e;obtain⟨c,p⟩:=get_some (s:=t) (i:=j-1) aa;have g:s[i+j]? =some c:=by rw[<-List.getElem?_drop,q,show j=(j-1)+1 by omega,aEX];exact p
  have o:=iY g;have f:=av6 c;have cD:=c.toNat_lt;have w1:=gK (i+j) (i+j:Nat);have w:=gK (j+1) (j+1:Nat);have u:=gK (acc*64) (acc*64:Nat);have r:=gK (((acc*64:Nat):Int)+(c.toNat:Int)) (acc*64+c.toNat:Nat);rw[show n-j=(n-(j+1))+1 by omega,j_ p,show j-1+1=j by omega] at a
  cases hm:pT c with
  |true=>
   rw[hm] at f;rw[aiR hm] at a;have jU:128<=c.toNat/\c.toNat<192:=by simpa[pT] using hm
   have y:=gK (((acc*64+c.toNat:Nat):Int)-128) (acc*64+(c.toNat-128):Nat);simp only[go_sem,seval,ak,a0,a1,a8,a9,bY,e,o,f,w1,w,u,r,y,ω];refine .inl ⟨trivial,d-1,aa,⟨j+1,acc*64+(c.toNat-128),aa,aa,aa,a,?_,?_⟩,?_,?_,?_,?_⟩;all_goals simp[go_sem,a0,a1,a8,bD]
  |false=>
   rw[hm] at f;rw[amc hm] at a;simp only[go_sem,seval,ak,a0,a1,a8,bY,e,o,f,w1,χ];refine .inr ⟨ah,.inr ⟨rfl,a.symm,?_,?_,?_⟩⟩;all_goals simp[go_sem]
 ·rw[ξ m] at e;have:j=n:=aa;subst this;rw[aFI] at a;simp only[go_sem,seval,ak,a8,bY,e];refine .inr ⟨ah,.inl ⟨rfl,acc,aa,a.symm,?_,?_,?_⟩⟩;all_goals simp[go_sem,a8,a9,bD]
def Qx{s:List UInt8}{i n mq least:Nat}{b:UInt8}{t:List UInt8}(j:s.drop i=b::t)(u:s.length<=16384)(hi:i<s.length)(c:n<=t.length+1)(ql:2<=n)(v:n<=4)(DJ:mq<64)(α:az)(H:ab)
  (a0:α 0=.str s) (a1:α 1=.i i) (a8:α 8=.i n) (a9:α 9=.i mq) (bD:α 10=.i least):
  aF (aT aE Hw α H) λx a H'=>x=.ret/\match gC n mq least t with
   |none=>Ki a
   |some r=>a 4=.i r.1/\a 5=.i r.2/\a 6=.bool true:=by
 have m:Hw=.seq (.seq _ aDw) K15:=rfl;rw[m];simp only[go_sem,seval];refine jw (id:=0) ?_;rw[gu];have h:¬t.length+1<n:=aa;refine aW (lL (Uo s i n mq least t) (P15 n mq least t) (λd α H l=>aq6 j u hi c v d α H l) (n-1) _ _ ⟨⟨1,mq,aa,ν _,aa,rfl,?_,?_⟩,?_,?_,?_,?_⟩) ?_
 case refine_7=>
  rintro x a H' (⟨rfl,acc,hb,f,w,b8,y⟩|⟨rfl,f,q⟩)
  ·refine .inl ⟨.inr rfl,?_⟩;have p:K15=.seq (.seq _ (.cond _ (.seq _ _) _)) (.seq _ _):=rfl;rw[p];have k1:decide ((acc:Int)<(least:Int))=decide (acc<least):=MM _ _;have k2:decide ((acc:Int)>1114111)=decide (1114111<acc):=MM 1114111 acc;have k:decide ((acc:Int)≥55296)=decide (55296<=acc):=by rw[aE7,aEn,aEn];omega
   have o:decide ((acc:Int)<57344)=decide (acc<57344):=MM acc 57344;have g:zn acc least= !(decide (acc<least)||decide (1114111<acc)||(decide (55296<=acc)&&decide (acc<57344))):=rfl;have e:gC n mq least t=if zn acc least=true then some (acc,n) else none:=by unfold gC;rw[κ h,f]
   rw[e]
   generalize decide (acc<least)=p1 at*
   generalize decide (1114111<acc)=p2 at*
   generalize decide (55296<=acc)=p3 at*
   generalize decide (acc<57344)=p4 at*
   cases p1<;>cases p2<;>cases p3<;>cases p4<;>simp at g
   all_goals
    rw[g];simp only[go_sem,seval,ak,b8,w,y,k1,k2,k,o,Ki,υ]
  ·refine .inr ⟨rfl,rfl,?_⟩;have e:gC n mq least t=none:=by unfold gC;rw[κ h,f]
   rw[e];exact q
 all_goals(simp only[go_sem,seval,a0,a1,a8,a9,bD];try rfl)
def vF(r:List UInt8):AV:=if(dec r).1=65533/\(dec r).2=1 then .tup [.i 65533,.i 1,.bool false] else .tup [.i ((dec r).1:Nat),.i ((dec r).2:Nat),.bool true]
def Cv{r}(h:dec r=(65533,1)):vF r=.tup [.i 65533,.i 1,.bool false]:=by rw[vF,μ (by rw[h];exact⟨rfl,rfl⟩)]
def WY{r}{v n}(h:dec r=(v,n))(a:¬(v=65533/\n=1)):vF r=.tup [.i v,.i n,.bool true]:=by rw[vF,κ (by rw[h];exact a),h]
def RH{r}{n acc least}{t}(a:dec r=ly (gC n acc least t))(ql:2<=n){α}{H}(hm:match gC n acc least t with
   |none=>Ki α
   |some r=>α 4=.i r.1/\α 5=.i r.2/\α 6=.bool true):
  ∃v,pU (finish prog f196.results.toList (.ret,α,H))=some v/\v.erase=vF r:=by
 cases hd:gC n acc least t with
 |none=>rw[hd] at hm a;obtain⟨c,h5,b⟩:=hm;rw[Cv a];simp only[go_sem,results196,c,h5,b];exact⟨_,rfl,rfl⟩
 |some p=>rw[hd] at hm a;obtain⟨c,h5,b⟩:=hm;have hp:=Wg hd;have a:dec r=(p.1,p.2):=a;rw[WY a aa];simp only[go_sem,results196,c,h5,b];exact⟨_,rfl,rfl⟩
def alu(r):(vF r).aq=true:=by unfold vF;split<;>rfl
def awp{s:List UInt8}{i:Nat}{b:UInt8}(hb:s[i]? =some b)(q:s.length<=16384):aK prog (run aE) 196 [.str s,.i i]=some (vF (s.drop i)):=by
 refine eX (c:=.seq _ (.seq _ (.seq (.seq _ _) (.seq _ (.seq (.seq _ _) (.seq (.seq _ _) (.seq (.seq _ _) (.seq (.seq _ _) Hw)))))))) rfl rfl func196 rfl (by rw[ntmps196];simp) (bE:=[.str s,.i i]) rfl rfl ?_ (alu _);have hi:=ep hb;have h:=j_ hb;have k:=iY hb;have ht:(s.drop (i+1)).length=s.length-(i+1):=adv;have w1:=gK ((s.length:Int)-i) (s.length-i:Nat);have y:((0:Int)==0)=true:=rfl;have r:((2:Int)==0)=false:=rfl;have w:((3:Int)==0)=false:=rfl;have z4:((4:Int)==0)=false:=rfl;by_cases k1:b.toNat<128
 ·have g:=bH ((b.toNat:Int)<128);rw[WY (v:=b.toNat) (n:=1) (by rw[h,Y6 k1]) aa];simp only[go_sem,seval,ak,k,g,results196];exact⟨_,rfl,rfl⟩
 ·have g:=bU ((b.toNat:Int)<128);by_cases k2:b.toNat<192
  ·have j:=bU ((b.toNat:Int)≥192);have f:=bU ((b.toNat:Int)≥224);have d:=bU ((b.toNat:Int)≥240);rw[Cv (by rw[h,OY aa (.inl k2)])];simp only[go_sem,seval,ak,k,g,j,f,d,y,results196];exact⟨_,rfl,rfl⟩
  ·have j:=bH ((b.toNat:Int)≥192);by_cases k3:b.toNat<224
   ·have l:=bH ((b.toNat:Int)<224);have f:=bU ((b.toNat:Int)≥224);have d:=bU ((b.toNat:Int)≥240);have m:=gK ((b.toNat:Int)-192) (b.toNat-192:Nat);have a:=Y7 (b:=b) aa (s.drop (i+1));rw[<-h] at a;by_cases t:s.length-i<2
    ·have e:=bH (((s.length-i:Nat):Int)<2);have:gC 2 (b.toNat-192) 128 (s.drop (i+1))=none:=by rw[gC,xD]
     rw[this] at a;rw[Cv a];simp only[go_sem,seval,ak,k,g,j,l,f,d,w1,m,r,e,results196];exact⟨_,rfl,rfl⟩
    ·have e:=bU (((s.length-i:Nat):Int)<2);simp[go_sem,ak,k,g,j,l,f,d,w1,m,r,e];refine aW (Qx (n:=2) (mq:=b.toNat-192) (least:=128) h q hi aa aa aa aa _ _ ?_ ?_ ?_ ?_ ?_) ?_
     case refine_6=>
      rintro x u H' ⟨rfl,hm⟩;exact RH a aa hm
     all_goals(simp[go_sem];try rfl)
   ·have l:=bU ((b.toNat:Int)<224);have f:=bH ((b.toNat:Int)≥224);by_cases k4:b.toNat<240
    ·have o:=bH ((b.toNat:Int)<240);have d:=bU ((b.toNat:Int)≥240);have m:=gK ((b.toNat:Int)-224) (b.toNat-224:Nat);have a:=Wf (b:=b) aa (s.drop (i+1));rw[<-h] at a;by_cases t:s.length-i<3
     ·have e:=bH (((s.length-i:Nat):Int)<3);have:gC 3 (b.toNat-224) 2048 (s.drop (i+1))=none:=by rw[gC,xD]
      rw[this] at a;rw[Cv a];simp only[go_sem,seval,ak,k,g,j,l,f,d,o,w1,m,w,e,results196];exact⟨_,rfl,rfl⟩
     ·have e:=bU (((s.length-i:Nat):Int)<3);simp[go_sem,ak,k,g,j,l,f,d,o,w1,m,w,e];refine aW (Qx (n:=3) (mq:=b.toNat-224) (least:=2048) h q hi aa aa aa aa _ _ ?_ ?_ ?_ ?_ ?_) ?_
      case refine_6=>
       rintro x u H' ⟨rfl,hm⟩;exact RH a aa hm
      all_goals(simp[go_sem];try rfl)
    ·have o:=bU ((b.toNat:Int)<240);have d:=bH ((b.toNat:Int)≥240);by_cases k5:b.toNat<248
     ·have p:=bH ((b.toNat:Int)<248);have m:=gK ((b.toNat:Int)-240) (b.toNat-240:Nat);have a:=Xz (b:=b) aa (s.drop (i+1));rw[<-h] at a;by_cases t:s.length-i<4
      ·have e:=bH (((s.length-i:Nat):Int)<4);have:gC 4 (b.toNat-240) 65536 (s.drop (i+1))=none:=by rw[gC,xD]
       rw[this] at a;rw[Cv a];simp only[go_sem,seval,ak,k,g,j,l,f,d,o,p,w1,m,z4,e,results196];exact⟨_,rfl,rfl⟩
      ·have e:=bU (((s.length-i:Nat):Int)<4);simp[go_sem,ak,k,g,j,l,f,d,o,p,w1,m,z4,e];refine aW (Qx (n:=4) (mq:=b.toNat-240) (least:=65536) h q hi aa aa aa aa _ _ ?_ ?_ ?_ ?_ ?_) ?_
       case refine_6=>
        rintro x u H' ⟨rfl,hm⟩;exact RH a aa hm
       all_goals(simp[go_sem];try rfl)
     ·have p:=bU ((b.toNat:Int)<248);rw[Cv (by rw[h,OY aa (.inr aa)])];simp only[go_sem,seval,ak,k,g,j,l,f,d,o,p,y,results196];exact⟨_,rfl,rfl⟩
noncomputable def B9:=f155.c.r.l.r.b.b
noncomputable def LB9:Code:=.block 0 (.loop B9)
noncomputable def K9:=f155.c.r.r
def awq{s:List UInt8}(m:s.length<=16384)(d)(α:az)(H:ab)(h:DL s d α H):
  aF (aT aE B9 α H) λx g H'=>(x=.normal/\∃j,j<d/\DL s j g H')\/(x≠.normal/\K4 s x g H'):=by
 obtain⟨⟨i,hd,a,a3⟩,a0⟩:=h;have l:B9=.seq (.seq _ _) (.block _ (.seq _ (.seq (.seq _ _) _))):=rfl;rw[l];by_cases hi:i<s.length
 ·have e:=bH ((i:Int)<(s.length:Int));obtain⟨b,hb⟩:=get_some hi;have f:=awp hb m;have c:=II b (s.drop (i+1));rw[<-j_ hb,adv] at c;have w1:=gK (i+((dec (s.drop i)).2:Int)) (i+(dec (s.drop i)).2:Nat);by_cases q:(dec (s.drop i)).1=65533/\(dec (s.drop i)).2=1
  ·rw[vF,μ q] at f;have k:=Vb hi q.1 q.2;rw[a] at k;simp only[go_sem,seval,ak,a0,a3,e,f,ij,χ];refine .inr ⟨ah,.inr ⟨rfl,?_⟩⟩;simp[go_sem,mj,k]
  ·rw[vF,κ q] at f;rw[MY hi q] at a;simp only[go_sem,seval,ak,a0,a3,e,f,w1,ij,ω];refine .inl ⟨trivial,s.length-(i+(dec (s.drop i)).2),aa,⟨i+(dec (s.drop i)).2,aa,a,?_⟩,?_⟩;all_goals simp[go_sem,a0]
 ·have e:=bU ((i:Int)<(s.length:Int));rw[Va aa] at a;simp only[go_sem,seval,ak,a0,a3,e];exact .inr ⟨ah,.inl ⟨rfl,by rw[mj,<-a]⟩⟩
def aDx(s:List UInt8)(f:s.length<=16384):aK prog (run aE) 155 [.str s]=some (.i (mj s)):=by
 refine eX (c:=.seq _ (.seq (.seq _ LB9) K9)) rfl rfl func155 rfl (by rw[ntmps155];simp) (bE:=[.str s]) rfl rfl ?_ rfl;simp[go_sem,ak];refine jw (id:=0) ?_;rw[gu];refine aW (lL (DL s) (K4 s) (λd α H b=>awq f d α H b) s.length _ _ ⟨⟨0,aa,(bad_eq s).symm,?_⟩,?_⟩) ?_
 case refine_3=>
  rintro e ae H' (⟨rfl,hb⟩|⟨rfl,a2⟩)
  ·refine .inl ⟨.inr rfl,?_⟩;have a:K9=.seq _ _:=rfl;rw[a,hb];simp only[go_sem,seval,results155];exact⟨_,rfl,rfl⟩
  ·refine .inr ⟨rfl,?_⟩;simp only[go_sem,seval,results155,a2];exact⟨_,rfl,rfl⟩
 all_goals(simp[go_sem];try rfl)
def call16:=lx aE prog 77 rfl rfl
def call17:=lx aE prog 76 rfl rfl
def call18:=lx aE prog 75 rfl rfl
def call19:=lx aE prog 197 rfl rfl
attribute [go_sem] call16 call17 call18 call19
def vH(s:List UInt8)(i:Nat)(x:Ex)(α:az)(H:ab):Prop:=x=.ret/\match one (s.drop i) with
 | .error e=>α 4=.i 0/\α 5=.i 0/\α 6=.i e
 | .ok (k,n)=>α 4=.i k/\α 5=.i (i+n:Nat)/\α 6=.i 0
def CI{s:List UInt8}{i e}{x:Ex}{α:az}{H:ab}(c:one (s.drop i)=.error e)(d:x=.ret)(b:α 4=.i 0)(h5:α 5=.i 0)(a:α 6=.i e):vH s i x α H:=by refine⟨d,?_⟩;rw[c];exact⟨b,h5,a⟩
def C4{s:List UInt8}{i k n}{x:Ex}{α:az}{H:ab}(c:one (s.drop i)=.ok (k,n))(d:x=.ret)(b:α 4=.i k)(h5:α 5=.i (i+n:Nat))(a:α 6=.i 0):vH s i x α H:=by refine⟨d,?_⟩;rw[c];exact⟨b,h5,a⟩
noncomputable def Hx:=f157.c.r.r.l.r.t
noncomputable def T11:=f157.c.r.r.r
noncomputable def Ur:=Hx.l.b.b
noncomputable def aDy:Code:=.block 0 (.loop Ur)
noncomputable def K5:=Hx.r
structure SR(s:List UInt8)(i e:Nat)(d:Nat)(α:az)(H:ab):Prop where
 ex:∃j:Nat,j+d=s.length/\fp bp s j=e/\α 7=.i j
 a0:α 0=.str s
 a1:α 1=.i i
def aev(s:List UInt8)(i e:Nat)(x:Ex)(α:az)(H:ab):Prop:=x=.exit 0/\α 0=.str s/\α 1=.i i/\α 7=.i e
def alv{s:List UInt8}{i e}(hn:s.length<=16384)(d:Nat)(α:az)(H:ab)(h:SR s i e d α H):
  aF (aT aE Ur α H) λx l H'=>(x=.normal/\∃m,m<d/\SR s i e m l H')\/(x≠.normal/\aev s i e x l H'):=by
 obtain⟨⟨j,hd,a,a7⟩,a0,a1⟩:=h;have o:Ur=.seq (.seq _ _) (.block _ _):=rfl;rw[o];by_cases n:j<s.length
 ·have c:=bH ((j:Int)<(s.length:Int));obtain⟨b,hb⟩:=get_some n;have k:=iY hb;have f:=RD b;have g:=RE b;have w1:=gK (j+1) (j+1:Nat)
  cases hL:isLet b with
  |true=>
   rw[hL] at f;rw[tU hb (by simp[bp,hL])] at a;simp only[go_sem,seval,ak,a0,a7,c,k,f,w1];refine .inl ⟨trivial,d-1,aa,⟨j+1,aa,a,?_⟩,?_,?_⟩;all_goals simp[go_sem,a0,a1]
  |false=>
   rw[hL] at f
   cases hD:jz b with
   |true=>
    rw[hD] at g;rw[tU hb (by simp[bp,hD])] at a;simp only[go_sem,seval,ak,a0,a7,c,k,f,g,w1];refine .inl ⟨trivial,d-1,aa,⟨j+1,aa,a,?_⟩,?_,?_⟩;all_goals simp[go_sem,a0,a1]
   |false=>
    rw[hD] at g;rw[Nf hb (by simp[bp,hL,hD])] at a;subst a;simp only[go_sem,seval,ak,a0,a7,c,k,f,g];refine .inr ⟨ah,rfl,?_,?_,?_⟩;all_goals simp[go_sem,a0,a1,a7]
 ·have c:=bU ((j:Int)<(s.length:Int));rw[ND aa] at a;subst a;simp only[go_sem,seval,ak,a0,a7,c];refine .inr ⟨ah,rfl,?_,?_,?_⟩;all_goals simp[go_sem,a0,a1,a7]
noncomputable def Us:=K5.r.r.r.r.l.r.b.b
noncomputable def aDz:Code:=.block 2 (.loop Us)
noncomputable def aew:=K5.r.r.r.r.r
structure SS(w:List UInt8)(e:Nat)(d:Nat)(α:az)(H:ab):Prop where
 ex:∃j n:Nat,j+d=w.length/\n<=9223372036854775807/\oN n (w.drop j)=oN 0 w/\α 10=.i j/\α 9=.int .u64 n
 a8:α 8=.str w
 a7:α 7=.i e
def aex(w:List UInt8)(e:Nat)(x:Ex)(α:az)(H:ab):Prop:=(x=.exit 2/\oN 0 w=true/\α 7=.i e)\/(x=.ret/\oN 0 w=false/\α 4=.i 0/\α 5=.i 0/\α 6=.i 23)
def u64_in(n:Nat)(h:n<18446744073709551616):IntKind.u64.wrap (n:Int)=(n:Int):=by rw[aGu];omega
def aAE(n:Nat)(h:n<256):rR prog 5 182 (.int .u8 n)=some (.int .u64 n):=by have a:cv prog 5=some false:=aeu;have b:FZ prog 182=some .u64:=af;simp only[rR,a,b];rw[u64_in _ aa];rfl
def alw{w:List UInt8}{e}(hn:w.length<=16384)(d:Nat)(α:az)(H:ab)(h:SS w e d α H):
  aF (aT aE Us α H) λx r H'=>(x=.normal/\∃s,s<d/\SS w e s r H')\/(x≠.normal/\aex w e x r H'):=by
 obtain⟨⟨j,n,hd,hnM,a,bD,a9⟩,a8,a7⟩:=h;have A:Us=.seq (.seq _ _) (.seq (.block _ (.seq (.seq _ _) (.seq _ (.seq (.seq _ _) _)))) _):=rfl;rw[A];by_cases y:j<w.length
 ·have g:=bH ((j:Int)<(w.length:Int));obtain⟨c,u⟩:=get_some y;have m:=iY u;have f:=RE c;have w1:=gK (j+1) (j+1:Nat);rw[j_ u] at a
  cases hD:jz c with
  |false=>
   rw[hD] at f;rw[aiO hD] at a;simp only[go_sem,seval,ak,a8,bD,g,m,f,χ];refine .inr ⟨ah,.inr ⟨rfl,a.symm,?_,?_,?_⟩⟩;all_goals simp[go_sem]
  |true=>
   rw[hD] at f;have DX:48<=c.toNat/\c.toNat<=57:=by simpa[jz] using hD
   have t:IntKind.u8.wrap ((c.toNat:Int)-48)=((c.toNat-48:Nat):Int):=by rw[IntKind.wrap_u8];omega
   have q:=aAE (c.toNat-48) aa;have p:IntKind.u64.wrap (9223372036854775807-((c.toNat-48:Nat):Int))=((9223372036854775807-(c.toNat-48):Nat):Int):=by rw[aGu];omega
   have b:((10:Int)=0)=False:=ah;have o:IntKind.u64.wrap (((9223372036854775807-(c.toNat-48):Nat):Int).tdiv 10)=(((9223372036854775807-(c.toNat-48))/10:Nat):Int):=by rw[show(((9223372036854775807-(c.toNat-48):Nat):Int).tdiv 10)=(((9223372036854775807-(c.toNat-48))/10:Nat):Int) from rfl,u64_in _ aa]
   by_cases k:(9223372036854775807-(c.toNat-48))/10<n
   ·have i:=bH ((n:Int)>(((9223372036854775807-(c.toNat-48))/10:Nat):Int));rw[aiP hD k] at a;simp only[go_sem,seval,ak,a8,a9,bD,g,m,f,t,q,p,b,o,i,ω];refine .inr ⟨ah,.inr ⟨rfl,a.symm,?_,?_,?_⟩⟩;all_goals simp[go_sem]
   ·have i:=bU ((n:Int)>(((9223372036854775807-(c.toNat-48))/10:Nat):Int));obtain⟨z,l⟩:=ahv hD (show n<=_ by omega) (w.drop (j+1));rw[z] at a;have B:IntKind.u64.wrap ((n:Int)*10)=((n*10:Nat):Int):=by rw[aGu];omega
    have v:IntKind.u64.wrap (((n*10:Nat):Int)+((c.toNat-48:Nat):Int))=((n*10+(c.toNat-48):Nat):Int):=by rw[aGu];omega
    simp only[go_sem,seval,ak,a8,a9,bD,g,m,f,w1,t,q,p,b,o,i,B,v,ω];refine .inl ⟨trivial,d-1,aa,⟨j+1,n*10+(c.toNat-48),aa,l,a,?_,?_⟩,?_,?_⟩;all_goals simp[go_sem,a7,a8]
 ·have g:=bU ((j:Int)<(w.length:Int));rw[aEk aa,aiN] at a;simp only[go_sem,seval,ak,a8,bD,g];refine .inr ⟨ah,.inl ⟨rfl,a.symm,?_⟩⟩;all_goals simp[go_sem,a7]
def adr{s:List UInt8}{i:Nat}{b:UInt8}(hb:s[i]? =some b)(m:bp b=true)(A:s.length<=16384)(α:az)(H:ab)(a0:α 0=.str s)(a1:α 1=.i i)(a7:α 7=.i (i+1:Nat)):
  aF (aN aE (run aE) aL Hx α H) (vH s i):=by
 have hi:=ep hb;have k:=j_ hb;have w:Hx=.seq aDy K5:=rfl;rw[w,vv];refine jw (id:=0) ?_;rw[gu];refine aW (lL (SR s i (fp bp s i)) (aev s i (fp bp s i)) (λd α H n=>alv A d α H n) (s.length-(i+1)) _ _ ⟨⟨i+1,aa,(tU hb m).symm,a7⟩,a0,a1⟩) ?_;rintro x ae H' ⟨rfl,j,b1,b7⟩;refine .inl ⟨.inr rfl,?_⟩;have e:K5=.seq _ (.seq (.seq _ _) (.seq (.seq _ _) (.seq _ (.seq (.seq _ aDz) aew)))):=rfl;rw[e];have r:=Oc bp s (Nat.le_of_lt hi);have ic:((s.drop i).takeWhile bp).length<=s.length-i:=by have:=(aFP (l:=s.drop i) bp).length_le;rw[adv] at this;omega
 have g:=xZ s (a:=i) (b:=fp bp s i) aa (EV _ _ _);rw[NF bp s (Nat.le_of_lt hi)] at g;have q:=iY hb;have h:=RD b;have f:=aqT ((s.drop i).takeWhile bp)
 cases hL:isLet b with
 |true=>
  rw[hL] at h;have c:=Y2 (t:=s.drop (i+1)) hL;rw[<-k] at c
  cases e:isKey ((s.drop i).takeWhile bp) with
  |true=>
   rw[e] at f;rw[μ e] at c;simp only[go_sem,ak,↓reduceIte,Nat.reduceEqDiff,j,b1,b7,g,f];refine C4 c rfl ?_ ?_ ?_;all_goals simp only[go_sem,↓reduceIte,Nat.reduceEqDiff]
   ·rfl
   ·rw[r]
  |false=>
   rw[e] at f;rw[κ (by rw[e];decide)] at c;by_cases v:40<((s.drop i).takeWhile bp).length
   ·have p:=bH ((((s.drop i).takeWhile bp).length:Int)>40);rw[μ v] at c;simp only[go_sem,ak,↓reduceIte,Nat.reduceEqDiff,j,b1,b7,g,f,q,h,p];refine CI c rfl ?_ ?_ ?_;all_goals simp only[go_sem,↓reduceIte,Nat.reduceEqDiff]
    rfl
   ·have p:=bU ((((s.drop i).takeWhile bp).length:Int)>40);rw[κ v] at c;simp only[go_sem,ak,↓reduceIte,Nat.reduceEqDiff,j,b1,b7,g,f,q,h,p];refine C4 c rfl ?_ ?_ ?_;all_goals simp only[go_sem,↓reduceIte,Nat.reduceEqDiff]
    ·rfl
    ·rw[r]
 |false=>
  rw[hL] at h;have u:jz b=true:=by simpa[bp,hL] using m
  have c:=Y3 (t:=s.drop (i+1)) u;rw[<-k] at c;have e:isKey ((s.drop i).takeWhile bp)=false:=by rw[k,aFo,μ m];exact Y1 _ u
  rw[e] at f;simp only[go_sem,ak,↓reduceIte,Nat.reduceEqDiff,j,b1,b7,g,f,q,h];refine jw (id:=2) ?_;rw[gu];refine aW (lL (SS ((s.drop i).takeWhile bp) (fp bp s i)) (aex ((s.drop i).takeWhile bp) (fp bp s i)) (λd α H n=>alw aa d α H n) ((s.drop i).takeWhile bp).length _ _ ⟨⟨0,0,aa,aa,rfl,?_,?_⟩,?_,?_⟩) ?_
  case refine_5=>
   rintro x fS H2 (⟨rfl,o,y⟩|⟨rfl,o,C,z,B⟩)
   ·refine .inl ⟨.inr rfl,?_⟩;have e:aew=.seq _ _:=rfl;rw[e];rw[μ o] at c;simp only[go_sem,↓reduceIte,Nat.reduceEqDiff,y];refine C4 c rfl ?_ ?_ ?_;all_goals simp only[go_sem,↓reduceIte,Nat.reduceEqDiff]
    ·rfl
    ·rw[r]
   ·refine .inr ⟨rfl,?_⟩;rw[κ (by rw[o];decide)] at c;exact CI c rfl C z B
  all_goals(simp only[go_sem,↓reduceIte,Nat.reduceEqDiff,b7];try rfl)
noncomputable def Hy:=T11.l.r.t
noncomputable def Aj:=T11.r
noncomputable def Ut:=Hy.l.b.b
noncomputable def aDA:Code:=.block 4 (.loop Ut)
noncomputable def aey:=Hy.r
structure SU(s:List UInt8)(i:Nat)(d:Nat)(α:az)(H:ab):Prop where
 ex:∃j:Nat,j+d=s.length+1/\i+1<=j/\jm s j=jm s (i+1)/\α 7=.i j
 a0:α 0=.str s
 a1:α 1=.i i
def aez(s:List UInt8)(i:Nat)(x:Ex)(α:az)(H:ab):Prop:=x=.exit 4/\α 0=.str s/\α 1=.i i/\∃j:Nat,α 7=.i j/\j<=s.length+1/\i+1<=j/\jm s j=jm s (i+1)/\∀b,s[j]? =some b->b.toNat=34\/b.toNat=10
def alx{s:List UInt8}{i}(hn:s.length<=16384)(d:Nat)(α:az)(H:ab)(h:SU s i d α H):
  aF (aT aE Ut α H) λx q H'=>(x=.normal/\∃r,r<d/\SU s i r q H')\/(x≠.normal/\aez s i x q H'):=by
 obtain⟨⟨j,hd,o,f,a7⟩,a0,a1⟩:=h;have u:Ut=.seq (.seq _ _) (.block _ (.seq (.seq _ _) _)):=rfl;rw[u];by_cases p:j<s.length
 ·have c:=bH ((j:Int)<(s.length:Int));obtain⟨b,hb⟩:=get_some p;have l:=iY hb;have e:((b.toNat:Int) != 34)= !decide (b.toNat=34):=xA b 34;have c2:((b.toNat:Int) != 10)= !decide (b.toNat=10):=xA b 10;have g:((b.toNat:Int)==92)=decide (b.toNat=92):=lE b 92;have w1:=gK (j+1) (j+1:Nat);have v:=gK (((j+1:Nat):Int)+1) (j+2:Nat);by_cases k:b.toNat=34
  ·rw[π k] at e;simp only[go_sem,seval,ak,a0,a7,c,l,e,ω];refine .inr ⟨ah,rfl,?_,?_,j,?_,aa,o,f,λt a=> ?_⟩;case refine_4=>rw[hb] at a;cases a;exact .inl k
   all_goals simp[go_sem,a0,a1,a7]
  ·rw[ξ k] at e;by_cases n:b.toNat=10
   ·rw[π n] at c2;simp only[go_sem,seval,ak,a0,a7,c,l,e,c2,ω,χ];refine .inr ⟨ah,rfl,?_,?_,j,?_,aa,o,f,λt a=> ?_⟩;case refine_4=>rw[hb] at a;cases a;exact .inr n
    all_goals simp[go_sem,a0,a1,a7]
   ·rw[ξ n] at c2;by_cases m:b.toNat=92
    ·rw[π m] at g;simp only[go_sem,seval,ak,a0,a7,c,l,e,c2,g,w1,v,χ];refine .inl ⟨trivial,d-2,aa,⟨j+2,aa,aa,by rw[<-f,Wd hb m],?_⟩,?_,?_⟩;all_goals simp[go_sem,a0,a1]
    ·rw[ξ m] at g;simp only[go_sem,seval,ak,a0,a7,c,l,e,c2,g,w1,χ];refine .inl ⟨trivial,d-1,aa,⟨j+1,aa,aa,by rw[<-f,U' hb k n m],?_⟩,?_,?_⟩;all_goals simp[go_sem,a0,a1]
 ·have c:=bU ((j:Int)<(s.length:Int));simp only[go_sem,seval,ak,a0,a7,c];refine .inr ⟨ah,rfl,?_,?_,j,?_,aa,o,f,λt a=>(p (ep a)).elim⟩;all_goals simp[go_sem,a0,a1,a7]
def aAF{s:List UInt8}{i:Nat}{b:UInt8}(hb:s[i]? =some b)(A:b.toNat=34)(F:s.length<=16384)(α:az)(H:ab)(a0:α 0=.str s)(a1:α 1=.i i)(a7:α 7=.i (i+1:Nat)):
  aF (aN aE (run aE) aL Hy α H) (vH s i):=by
 have hi:=ep hb;have C:Hy=.seq aDA aey:=rfl;rw[C,vv];refine jw (id:=4) ?_;rw[gu];refine aW (lL (SU s i) (aez s i) (λd α H E=>alx F d α H E) (s.length-i) _ _ ⟨⟨i+1,aa,ν _,rfl,a7⟩,a0,a1⟩) ?_;rintro x ae H' ⟨rfl,m,b1,j,b7,qV,uW,u,G⟩;refine .inl ⟨.inr rfl,?_⟩;have D:aey=.seq (.seq _ _) (.seq _ (.seq (.seq _ _) (.seq _ _))):=rfl;rw[D];have e:=Y4 (t:=s.drop (i+1)) A;rw[<-(j_ hb)] at e;by_cases I:j<s.length
 ·have l:=bU ((j:Int)≥(s.length:Int));obtain⟨z,n⟩:=get_some I;have w:=iY n;have f:((z.toNat:Int)==10)=decide (z.toNat=10):=lE z 10;by_cases o:z.toNat=10
  ·rw[π o] at f;have c:=Xw n o;rw[u,jm] at c
   have c:kP (s.drop (i+1))=none:=by
    cases hq:kP (s.drop (i+1)) with
    |none=>rfl
    |some q=>rw[hq] at c;cases c
   rw[c] at e;simp only[go_sem,ak,↓reduceIte,Nat.reduceEqDiff,m,b7,l,w,f];refine CI e rfl ?_ ?_ ?_;all_goals simp only[go_sem,↓reduceIte,Nat.reduceEqDiff]
   rfl
  ·rw[ξ o] at f;have r:z.toNat=34:=by rcases G z n with h|h;exact h;exact(o h).elim
   have g:=U_ n r;rw[u,jm] at g
   cases hq:kP (s.drop (i+1)) with
   |none=>rw[hq] at g;cases g
   |some q=>
    rw[hq] at g e;simp at g;have p:j+1=i+(q+1):=aa;have B:=Vo hb A hq;rw[show i+1+q=j+1 by omega] at B;have w1:=gK (j+1) (j+1:Nat);have y:=xZ s (a:=i) (b:=j+1) aa aa;have k:=aib ((s.take (j+1)).drop i) aP;rw[pt,B] at k;simp only at e
    cases zA:(hM ((s.drop (i+1)).take (q-1))).isSome with
    |true=>
     rw[zA,μ rfl] at k;rw[μ zA] at e;have v:((0:Int) != 0)=false:=rfl;simp only[go_sem,ak,↓reduceIte,Nat.reduceEqDiff,m,b1,b7,l,w,f,w1,y,k,v,ij];refine C4 e rfl ?_ ?_ ?_;all_goals simp only[go_sem,↓reduceIte,Nat.reduceEqDiff]
     ·rfl
     ·rw[p]
    |false=>
     rw[zA,κ aA] at k;rw[κ (by rw[zA];decide)] at e;have v:((22:Int) != 0)=true:=rfl;simp only[go_sem,ak,↓reduceIte,Nat.reduceEqDiff,m,b1,b7,l,w,f,w1,y,k,v,ij];refine CI e rfl ?_ ?_ ?_;all_goals simp only[go_sem,↓reduceIte,Nat.reduceEqDiff]
     rfl
 ·have l:=bH ((j:Int)≥(s.length:Int));have c:=NG (s:=s) (i:=j) aa;rw[u,jm] at c
  have c:kP (s.drop (i+1))=none:=by
   cases hq:kP (s.drop (i+1)) with
   |none=>rfl
   |some q=>rw[hq] at c;cases c
  rw[c] at e;simp only[go_sem,ak,↓reduceIte,Nat.reduceEqDiff,m,b7,l];refine CI e rfl ?_ ?_ ?_;all_goals simp only[go_sem,↓reduceIte,Nat.reduceEqDiff]
  rfl
noncomputable def Uu:=Aj.r.r.l.r.b.b
noncomputable def SV:Code:=.block 6 (.loop Uu)
noncomputable def K6:=Aj.r.r.r
structure SX(s:List UInt8)(i:Nat)(b:UInt8)(d:Nat)(α:az)(H:ab):Prop where
 ex:∃j:Nat,j+d=13/\((oJ.drop j).contains b=oJ.contains b)/\α 15=.i j
 a0:α 0=.str s
 a1:α 1=.i i
 a7:α 7=.i (i+1:Nat)
 eJ:α 14=.str oJ
def aeA(i:Nat)(b:UInt8)(x:Ex)(α:az)(H:ab):Prop:=(x=.exit 6/\oJ.contains b=false)\/(x=.ret/\oJ.contains b=true/\α 4=.i 5/\α 5=.i (i+1:Nat)/\α 6=.i 0)
def aly{s}{i}{b}(hb:s[i]? =some b)(d:Nat)(α:az)(H:ab)(h:SX s i b d α H):
  aF (aT aE Uu α H) λx m H'=>(x=.normal/\∃o,o<d/\SX s i b o m H')\/(x≠.normal/\aeA i b x m H'):=by
 obtain⟨⟨j,hd,c,k⟩,a0,a1,a7,eJ⟩:=h;have v:Uu=.seq (.seq _ _) (.seq (.block _ (.seq _ _)) _):=rfl;rw[v];have a:oJ.length=13:=rfl;by_cases u:j<13
 ·have e:decide ((j:Int)<(oJ.length:Int))=true:=π (by rw[a];omega);obtain⟨z,n⟩:=get_some (s:=oJ) (i:=j) (by rw[a];exact u);have p:=iY n;have r:=iY hb;have f:((z.toNat:Int)==(b.toNat:Int))=decide (z.toNat=b.toNat):=dF _ _;have w1:=gK (j+1) (j+1:Nat);rw[j_ n] at c;by_cases q:z.toNat=b.toNat
  ·rw[π q] at f;have g:z=b:=aFu.1 q;have w:oJ.contains b=true:=by rw[<-c,g];simp
   simp only[go_sem,seval,ak,a0,a1,a7,eJ,k,e,p,r,f];refine .inr ⟨ah,.inr ⟨rfl,w,?_,?_,?_⟩⟩;all_goals simp[go_sem]
  ·rw[ξ q] at f;have g:¬b=z:=λh=>q (by rw[h])
   have t:(oJ.drop (j+1)).contains b=oJ.contains b:=by
    rw[<-c,List.contains_cons];have:(b==z)=false:=by simpa using g
    rw[this,aFr]
   simp only[go_sem,seval,ak,a0,a1,eJ,k,e,p,r,f,w1];refine .inl ⟨trivial,d-1,aa,⟨j+1,aa,t,?_⟩,?_,?_,?_,?_⟩;all_goals simp[go_sem,a0,a1,a7,eJ]
 ·have e:decide ((j:Int)<(oJ.length:Int))=false:=ξ (by rw[a];omega);rw[aEk (l:=oJ) (by rw[a];omega)] at c;simp only[go_sem,seval,ak,eJ,k,e];exact .inr ⟨ah,.inl ⟨rfl,c.symm⟩⟩
def aAG{s:List UInt8}{i:Nat}{b:UInt8}(hb:s[i]? =some b)(C:bp b=false)(E:b.toNat≠34)(hn:s.length<=16384)(α:az)(H:ab)(a0:α 0=.str s)(a1:α 1=.i i)(a7:α 7=.i (i+1:Nat)):
  aF (aN aE (run aE) aL Aj α H) (vH s i):=by
 have hi:=ep hb;have y:=j_ hb;have g:=Xx (t:=s.drop (i+1)) C E;have hU:Aj=.seq (.seq _ _) (.seq _ (.seq (.seq _ SV) K6)):=rfl;rw[hU];have v:=iY hb;have j:((b.toNat:Int)==61)=decide (b.toNat=61):=lE b 61;have w1:=gK (((i+1:Nat):Int)+1) (i+2:Nat);by_cases m:b.toNat=61/\((s.drop (i+1)).head?.map UInt8.toNat)=some 61
 ·have f:∃z,s[i+1]? =some z/\z.toNat=61:=by
   have o:=m.2;rw[aGl,aEz,aFG] at o;simp at o;exact o
  obtain⟨z,f,p⟩:=f;have u:=iY f;have A:=ep f;have l:=bH (((i+1:Nat):Int)<(s.length:Int));have c2:((z.toNat:Int)==61)=decide (z.toNat=61):=lE z 61;rw[π m.1] at j;rw[π p] at c2;rw[jL,μ m,κ aA,<-y] at g;simp only[go_sem,ak,↓reduceIte,Nat.reduceEqDiff,a0,a1,a7,l,v,u,j,c2,w1];refine C4 g rfl ?_ ?_ ?_;all_goals simp only[go_sem,↓reduceIte,Nat.reduceEqDiff]
  rfl
 ·rw[jL,κ m,<-y] at g
  have key:∀a:az,∀H1,a 0=.str s->a 1=.i i->a 7=.i (i+1:Nat)->aF (aN aE (run aE) aL (match Aj with| .seq _ k=>k|_=>.skip) a H1) (vH s i):=by
   intro a H1 c b1 b7;have J:(match Aj with| .seq _ k=>k|_=>.skip)=.seq _ (.seq (.seq _ SV) K6):=rfl
   rw[J];simp only[go_sem];refine jw (id:=6) ?_;rw[gu];refine aW (lL (SX s i b) (aeA i b) (λd α H D=>aly hb d α H D) 13 _ _ ⟨⟨0,aa,rfl,?_⟩,?_,?_,?_,?_⟩) ?_
   case refine_6=>
    rintro x fS H2 (⟨rfl,w⟩|⟨rfl,w,I,F,G⟩)
    ·refine .inl ⟨.inr rfl,?_⟩;have B:K6=.seq _ _:=rfl;rw[B];rw[w] at g;simp only[go_sem];refine CI (e:=21) g rfl ?_ ?_ ?_;all_goals simp only[go_sem,↓reduceIte,Nat.reduceEqDiff]
     rfl
    ·refine .inr ⟨rfl,?_⟩;rw[w] at g;exact C4 (k:=5) (n:=1) g rfl I F G
   all_goals(simp only[go_sem,↓reduceIte,Nat.reduceEqDiff,c,b1,b7];try rfl)
  have r:(match Aj with| .seq _ k=>k|_=>.skip)=.seq (.region 36 _ _) (.seq (.seq _ SV) K6):=rfl
  rw[r] at key;by_cases A:i+1<s.length
  ·have l:=bH (((i+1:Nat):Int)<(s.length:Int));obtain⟨z,f⟩:=get_some A;have u:=iY f;have c2:((z.toNat:Int)==61)=decide (z.toNat=61):=lE z 61;by_cases q:b.toNat=61
   ·rw[π q] at j;have K:¬z.toNat=61:=λh=>m ⟨q,by rw[aGl,aEz,aFG,f,aFJ,h]⟩;rw[ξ K] at c2;rw[vv];refine AM (Q:=λx a H1=>x=.normal/\a 0=.str s/\a 1=.i i/\a 7=.i (i+1:Nat)) ?_ ?_
    ·simp only[go_sem,ak,↓reduceIte,Nat.reduceEqDiff,a0,a1,a7,l,v,u,j,c2]
    ·rintro x a H1 ⟨rfl,c,b1,b7⟩;exact key a H1 c b1 b7
   ·rw[ξ q] at j;rw[vv];refine AM (Q:=λx a H1=>x=.normal/\a 0=.str s/\a 1=.i i/\a 7=.i (i+1:Nat)) ?_ ?_
    ·simp only[go_sem,ak,↓reduceIte,Nat.reduceEqDiff,a0,a1,a7,l,v,j]
    ·rintro x a H1 ⟨rfl,c,b1,b7⟩;exact key a H1 c b1 b7
  ·have l:=bU (((i+1:Nat):Int)<(s.length:Int));rw[vv];refine AM (Q:=λx a H1=>x=.normal/\a 0=.str s/\a 1=.i i/\a 7=.i (i+1:Nat)) ?_ ?_
   ·simp only[go_sem,ak,↓reduceIte,Nat.reduceEqDiff,a0,a1,a7,l]
   ·rintro x a H1 ⟨rfl,c,b1,b7⟩;exact key a H1 c b1 b7
def DM(s:List UInt8)(i:Nat):AV:=match one (s.drop i) with
 | .error e=>.tup [.i 0,.i 0,.i e]
 | .ok (k,n)=>.tup [.i k,.i (i+n:Nat),.i 0]
def aq7(s)(i):(DM s i).aq=true:=by unfold DM;split<;>rfl
def aAH{s}{i}{x}{α}{H}(h:vH s i x α H):∃v,pU (finish prog f157.results.toList (x,α,H))=some v/\v.erase=DM s i:=by
 obtain⟨rfl,h⟩:=h;unfold DM
 cases ho:one (s.drop i) with
 |error e=>rw[ho] at h;obtain⟨b,h5,a⟩:=h;simp only[go_sem,results157,b,h5,a];exact⟨_,rfl,rfl⟩
 |ok p=>obtain⟨k,n⟩:=p;rw[ho] at h;obtain⟨b,h5,a⟩:=h;simp only[go_sem,results157,b,h5,a];exact⟨_,rfl,rfl⟩
def PD{s}{i}{x}{α}{H}{k}(h:vH s i x α H):aF (andThen (x,α,H) k) (vH s i):=by have:=h.1;subst this;exact h
def aAI{s:List UInt8}{i:Nat}{b:UInt8}(hb:s[i]? =some b)(j:s.length<=16384):aK prog (run aE) 157 [.str s,.i i]=some (DM s i):=by
 refine eX (c:=.seq _ (.seq _ (.seq (.seq _ (.cond _ Hx _)) (.seq (.seq _ (.cond _ Hy _)) Aj)))) rfl rfl func157 rfl (by rw[ntmps157];simp) (bE:=[.str s,.i i]) rfl rfl ?_ (aq7 _ _);have hi:=ep hb;have f:=iY hb;have a:=RD b;have d:=RE b;have g:((b.toNat:Int)==34)=decide (b.toNat=34):=lE b 34;have w1:=gK (i+1) (i+1:Nat);refine aW (P:=vH s i) ?_ (λx α H h=>aAH h)
 cases hL:isLet b with
 |true=>
  rw[hL] at a;simp[go_sem,ak,f,a,w1];refine AM (adr hb (by simp[bp,hL]) j _ _ ?_ ?_ ?_) (λx α H h=>PD h);all_goals(simp[go_sem];try rfl)
 |false=>
  rw[hL] at a
  cases hD:jz b with
  |true=>
   rw[hD] at d;simp[go_sem,ak,f,a,d,w1];refine AM (adr hb (by simp[bp,hD]) j _ _ ?_ ?_ ?_) (λx α H h=>PD h);all_goals(simp[go_sem];try rfl)
  |false=>
   rw[hD] at d;by_cases e:b.toNat=34
   ·rw[π e] at g;simp[go_sem,ak,f,a,d,w1,g];refine AM (aAF hb e j _ _ ?_ ?_ ?_) (λx α H h=>PD h);all_goals(simp[go_sem];try rfl)
   ·rw[ξ e] at g;simp[go_sem,ak,f,a,d,w1,g];refine aAG hb (by simp[bp,hL,hD]) e j _ _ ?_ ?_ ?_;all_goals(simp[go_sem];try rfl)
def FF:fk prog 68=some 95:=af
def aeB:jS prog 95=some 48:=af
def aAJ(o)(l:List Tok):gB prog #[68] [.vec o (V l)]=some (.i l.length):=by simp[gB,FF,FM]
def aDC(k a)(l t)(H):dZ prog 68 1 [(0,.agg [.i k,.i a,.str l,.str t])] H=some (.vec .full [.agg [.i k,.i a,.str l,.str t]],H):=by simp[dZ,FF,kZ,FE,mc,fF,lj,eo,AV.erase,AV.width,AV.cells,AV.one,sZ,CN]
def OK(l):ou prog 68 (V l)=true:=by cases l<;>simp[ou,FF,kZ,V,mP,AV.width]
attribute [go_sem] aAJ aDC
def mi(m:Nat)(L:List (Nat×bB))(o:Ab.Own)(out:List Tok):Prop:=
 (o=.nil/\out=[])\/(out≠[]/\∃j,o=.own j/\j<m/\cg L j=some (.bQ out.length 95))
def OL{m}{L}{o:Ab.Own}{out:List Tok}(h:mi m L o out)(hn:out.length<=16384)(x):∃i m' b,cH (λ_=>false) prog 68 68 (.vec o (V out)) (.vec .full [mP x]) ⟨m,L⟩=some (.vec i (V (out++[x])),⟨m',b⟩)/\mi m' b i (out++[x])/\m<=m'/\
  ∀id te cs,id<m->cg L id=some (.c te cs)->cg b id=some (.c te cs):=by
 have e:ou prog 68 [mP x]=true:=OK [x];rcases h with⟨rfl,rfl⟩|⟨a_,j,rfl,d,hg⟩
 ·refine⟨.own m,m+1,(m,.bQ 1 95)::L,?_,.inr ⟨ah,m,rfl,aa,by simp[bo]⟩,aa,λid te cs hid a=>by rw[bo,bM];exact a⟩;have f:=OK [];simp only[V,aFy,Ο,aEv] at f⊢;simp[cH,FF,kZ,aeB,FE,jK,nH,e,f,ab.push]
 ·refine⟨.own j,m,aH L j (.bQ (out.length+1) 95),?_,.inr ⟨ah,j,rfl,d,by rw[aR,μ rfl,hg];simp⟩,ν _,λid te cs hid a=> ?_⟩
  ·simp only[cH,FF,kZ,aeB,FE,jK,nH,e,OK out,FM out,ab.get,ab.set,d,hg,axx out x,Γ,Χ,aEF];simp[show(out.length+1)*48<=140737488355328 by omega,show out.length+1<=9223372036854775807 by omega]
  ·rw[aR];by_cases g:j=id
   ·subst g;rw[hg] at a;cases a
   ·rw[κ g];exact a
def sf(a b):(((a:Nat):Int) != ((b:Nat):Int))= !decide (a=b):=by rw[bne,dF]
def awr{r}{e}(h:one r=.error e):e≠0:=by
 cases r with
 |nil=>simp[one] at h
 |cons c t=>
  simp[one] at h;repeat' split at h
  all_goals first|(cases h;done)|(simp at h;subst h;decide)
def Bu(x:Except (Nat×Nat) (List Tok))(e:Ex)(α:az)(H:ab):Prop:=e=.ret/\match x with
 | .error (e,a)=>α 2=.vec .nil []/\α 3=.i e/\α 4=.i a
 | .ok l=>(∃j,α 2=.vec (.own j) (V l))/\α 3=.i 0/\α 4=.i 0
def call9:=lx aE prog 155 rfl rfl
def call10:=lx aE prog 156 rfl rfl
def call11:=lx aE prog 157 rfl rfl
def alz:jl prog 95=some [(0,1),(1,1),(2,1),(3,1)]:=af
def aDD(a)(l):sU prog 95 [(1,.i a),(2,.str l)]=some (.agg [.i 0,.i a,.str l,.str []]):=by simp[sU,FE,alz,aQ,AV.width,AV.cells,eg]
attribute [go_sem] call9 call10 call11 aDD
noncomputable def Uw:=f110.c.r.r.r.r.r.r
noncomputable def B4:=Uw.b.b
structure I4(s:List UInt8)(R:Except (Nat×Nat) (List Tok))(d:Nat)(α:az)(H:ab):Prop where
 ex:∃(i m:Nat) (L:List (Nat×bB)) (o:Ab.Own) (out:List Tok),H=⟨m,L⟩/\i+d=s.length/\mi m L o out/\out.length<=4000/\se s i out=R/\α 7=.i i/\α 6=.vec o (V out)
 a0:α 0=.str s
def aaQ{m}{L}{o}{out}(h:mi m L o out)(a:out≠[]):∃j,o=.own j:=by
 rcases h with⟨_,rfl⟩|⟨_,j,rfl,_⟩
 ·exact(a rfl).elim
 ·exact⟨j,rfl⟩
def aws{s:List UInt8}{R:Except (Nat×Nat) (List Tok)}(V:s.length<=16384)(d)(α)(H)(h:I4 s R d α H):
  aF (aT aE B4 α H) λx P H'=>(x=.normal/\∃T,T<d/\I4 s R T P H')\/(x≠.normal/\Bu R x P H'):=by
 obtain⟨⟨i,m,L,o,out,rfl,hd,X,kJ,c,a7,a6⟩,a0⟩:=h;have hB:B4=.block _ (.seq _ (.seq _ (.seq _ (.seq _ (.seq (.seq _ (.cond _ (.seq _ (.seq (.seq _ _) (.seq _ _))) _)) (.seq (.seq _ _) (.seq _ (.seq _ (.seq _ (.seq _ _)))))))))):=rfl;rw[hB];have hi:i<=s.length:=aa;have A:=awe s i hi V;have jT:=EM s hi;have K:=EL s i;rw[OX s i out hi] at c;have v:=xZ s jT K;have u:=bf (m<m+1);by_cases S:bj s i<s.length
 ·have t:=bH ((bj s i:Int)<(s.length:Int));obtain⟨b,hb⟩:=get_some S;have r:=aAI hb V;rw[DM] at r
  cases p:one (s.drop (bj s i)) with
  |error e=>
   rw[p] at r c;have c1:((e:Int) != 0)=true:=by have:=sf e 0;rw[ξ (awr p)] at this;exact this
   simp only[go_sem,seval,ak,kZ,a0,a7,A,v,u,t,r,c1,ij];refine .inr ⟨ah,rfl,?_⟩;rw[<-c];refine⟨?_,?_,?_⟩;all_goals simp[go_sem]
  |ok q=>
   obtain⟨kd,n⟩:=q;rw[p] at r c;have f:=Az p;have Q:s.drop (bj s i)≠[]:=by rw[j_ hb];simp
   have w:kd≠0:=λZ=>Q (f.2.1.1 Z);have xJ:=f.2.2.1 Q;have Y:=f.1;rw[adv] at Y;have W:((0:Int) != 0)=false:=rfl;by_cases g:4000<=out.length
   ·have l:=bH ((out.length:Int)≥4000);simp[μ g] at c;simp only[go_sem,seval,ak,qx,kZ,a0,a6,a7,A,v,u,t,r,W,l,ij];refine .inr ⟨ah,rfl,?_⟩;rw[<-c];refine⟨?_,?_,?_⟩;all_goals(simp[go_sem];try rfl)
   ·have l:=bU ((out.length:Int)≥4000);simp[κ g,κ w] at c;have N:=xZ s (a:=bj s i) (b:=bj s i+n) aa aa
    obtain⟨U,m',B,z,C,M,I⟩:=OL (m:=m+1) (L:=(m,.k 95 [.i kd,.i (bj s i:Int),.str ((s.take (bj s i)).drop i),.str ((s.take (bj s i+n)).drop (bj s i))])::L) (o:=o) (out:=out) (by
     rcases X with h|⟨E,j,D,h3,g⟩
     ·exact .inl h
     ·exact .inr ⟨E,j,D,aa,by rw[bo,bM];exact g⟩) aa (ti s i kd n)
    have F:mP (ti s i kd n)=.agg [.i kd,.i (bj s i:Int),.str ((s.take (bj s i)).drop i),.str ((s.take (bj s i+n)).drop (bj s i))]:=rfl;rw[F] at z;have O:eF B m=some [.i kd,.i (bj s i:Int),.str ((s.take (bj s i)).drop i),.str ((s.take (bj s i+n)).drop (bj s i))]:=by rw[eF,I m _ _ aa (by rw[bo,μ rfl])]
    have G:=bf (m<m');have J:((kd:Int)==0)=false:=by have:=dF kd 0;rw[ξ w] at this;exact this
    have aDE:∀x y H,cG aE.fq prog [68,68] [x,y] H=cH (λ_=>false) prog 68 68 x y H:=λ_ _ _=>rfl;simp only[go_sem,seval,ak,qx,pM,kZ,a0,a6,a7,A,v,N,u,t,r,W,l,ij,z,G,O,J];refine .inl ⟨trivial,s.length-(bj s i+n),aa,⟨bj s i+n,m',B,U,out++[ti s i kd n],rfl,aa,C,aP,c,?_,?_⟩,?_⟩;all_goals simp[go_sem,a0]
 ·have S:bj s i=s.length:=aa;have t:=bU ((bj s i:Int)<(s.length:Int));have p:one (s.drop (bj s i))=.ok (0,0):=by rw[aEk aa];rfl
  rw[p] at c;by_cases g:4000<=out.length
  ·have l:=bH ((out.length:Int)≥4000);simp[μ g] at c;simp only[go_sem,seval,ak,kZ,a0,a6,a7,A,v,u,t,l];refine .inr ⟨ah,rfl,?_⟩;rw[<-c];refine⟨?_,?_,?_⟩;all_goals(simp[go_sem];try rfl)
  ·have l:=bU ((out.length:Int)≥4000);simp[κ g] at c;have N:=xZ s (a:=bj s i) (b:=bj s i) (ν _) aa
   obtain⟨U,m',B,z,C,M,I⟩:=OL (m:=m+1) (L:=(m,.k 95 [.i 0,.i (bj s i:Int),.str ((s.take (bj s i)).drop i),.str ((s.take (bj s i)).drop (bj s i))])::L) (o:=o) (out:=out) (by
    rcases X with h|⟨E,j,D,h3,g⟩
    ·exact .inl h
    ·exact .inr ⟨E,j,D,aa,by rw[bo,bM];exact g⟩) aa (ti s i 0 0)
   have F:mP (ti s i 0 0)=.agg [.i 0,.i (bj s i:Int),.str ((s.take (bj s i)).drop i),.str ((s.take (bj s i)).drop (bj s i))]:=rfl;rw[F] at z;have O:eF B m=some [.i 0,.i (bj s i:Int),.str ((s.take (bj s i)).drop i),.str ((s.take (bj s i)).drop (bj s i))]:=by rw[eF,I m _ _ aa (by rw[bo,μ rfl])]
   have G:=bf (m<m');have J:((0:Int)==0)=true:=rfl;simp only[go_sem,seval,ak,pM,kZ,a0,a6,a7,A,v,N,u,t,l,z,G,O,J];obtain⟨j,rfl⟩:=aaQ C ah;refine .inr ⟨ah,rfl,?_⟩;rw[<-c];refine⟨⟨j,?_⟩,?_,?_⟩;all_goals(simp[go_sem];try rfl)
def aaR{s}{a}(h:bad s=some a):decide (mj s≥0)=true/\mj s=(a:Int):=by
 have:mj s=(a:Int):=by rw[mj,h]
 exact⟨by rw[this];exact bH _,this⟩
def aaS{s}(h:bad s=none):decide (mj s≥0)=false:=by rw[mj,h];rfl
def acq{fn:Func}(hf:fn.results.toList=[.tmp 2,.tmp 3,.tmp 4]){R:Except (Nat×Nat) (List Tok)}{x}{α}{H}(h:Bu R x α H):∃v,pU (finish prog fn.results.toList (x,α,H))=some v/\v.erase=nV R:=by
 obtain⟨rfl,h⟩:=h
 cases R with
 |error q=>obtain⟨e,a⟩:=q;obtain⟨b,h3,c⟩:=h;simp only[go_sem,hf,b,h3,c];exact⟨_,rfl,rfl⟩
 |ok l=>obtain⟨⟨j,b⟩,h3,c⟩:=h;simp only[go_sem,hf,b,h3,c];exact⟨_,rfl,rfl⟩
def aDF(s):aK prog (run aE) 110 [.str s]=some (nV (lex s)):=by
 refine eX (c:=.seq _ (.seq (.seq _ _) (.seq _ (.seq (.seq _ _) (.seq _ (.seq _ Uw)))))) rfl rfl func110 rfl (by rw[ntmps110];simp) (bE:=[.str s]) rfl rfl ?_ (IL _);refine aW (P:=Bu (lex s)) ?_ (λx α H h=>acq (by simp[results110]) h);rw[PV];by_cases b:16384<s.length
 ·have e:=bH ((s.length:Int)>16384);rw[μ b];simp[go_sem,ak,e];refine⟨rfl,?_,?_,?_⟩;all_goals(simp[go_sem];try rfl)
 ·have e:=bU ((s.length:Int)>16384);rw[κ b];have b:s.length<=16384:=aa;have g:=aDx s b
  cases hb:bad s with
  |some a=>
   obtain⟨f,k⟩:=aaR hb;rw[k] at g f;simp[go_sem,ak,e,g,f];refine⟨rfl,?_,?_,?_⟩;all_goals(simp[go_sem];try rfl)
  |none=>
   have f:=aaS hb;simp[go_sem,ak,e,g,f];have j:Uw=.block 0 (.loop B4):=rfl;rw[j];refine An ?_;rw[gu];refine aW (lL (I4 s (se s 0 [])) (Bu (se s 0 [])) (λd α H i=>aws b d α H i) s.length _ _ ⟨⟨0,0,[],.nil,[],rfl,aa,.inl ⟨rfl,rfl⟩,ah,rfl,?_,?_⟩,?_⟩) ?_
   case refine_4=>
    rintro x ae H' h;exact .inr ⟨h.1,by have:=h.1;subst this;exact h⟩
   all_goals(simp[go_sem];try rfl)
def call35:=lx aE prog 141 rfl rfl
def call36:=xc aE 142 rfl rfl
def call37:=xc aE 143 rfl rfl
def alA:jl prog 235=some [(0,1),(1,1)]:=af
def awt:dz prog 235=some [.str [],.i 0]:=af
def aDG(s):sU prog 235 [(0,.str s)]=some (.agg [.str s,.i 0]):=by simp[sU,awt,alA,aQ,AV.width,AV.cells,eg]
attribute [go_sem] call35 call36 call37 aDG
noncomputable def SY:=f100.c.r.r.r.r.r
noncomputable def vb:=SY.b.b
structure Uy(s:List UInt8)(R:Except (Nat×Nat) (List Tok))(d:Nat)(α:az)(H:ab):Prop where
 ex:∃(i m:Nat) (L:List (Nat×bB)) (o:Ab.Own) (out:List Tok),H=⟨m,L⟩/\i+d=s.length/\Sc m L 0 s i/\mi m L o out/\out.length<=4000/\se s i out=R/\α 7=.vec o (V out)
 a6:α 6=.ptr 0 0
def aic{k a b a'}{l t c t'}(h:AV.agg [.i k,.i a,.str l,.str t]=.agg [.i b,.i a',.str c,.str t']):k=b/\a=a'/\l=c/\t=t':=by simp at h;exact h
def aq8{s:List UInt8}{R:Except (Nat×Nat) (List Tok)}(Q:s.length<=16384)(d)(α)(H)(h:Uy s R d α H):
  aF (aT aE vb α H) λx K H'=>(x=.normal/\∃P,P<d/\Uy s R P K H')\/(x≠.normal/\Bu R x K H'):=by
 obtain⟨⟨i,m,L,o,out,rfl,hd,f,MN,kJ,b,a7⟩,a6⟩:=h;have hB:vb=.block _ (.seq _ (.seq _ (.seq _ (.seq (.seq _ _) (.seq (.seq _ _) (.seq _ (.seq _ (.seq _ _)))))))):=rfl;rw[hB];have hi:i<=s.length:=aa;have jT:=EM s hi;have B:=awa f hi Q;rw[OX s i out hi] at b;have J:=f.set (bj s i);have u:(0<m)=True:=ο f.1;have z:=J.cells;obtain⟨r,l,tk,ta,tl,tt,e,c,j,rfl,t⟩:=awo J (EL s i) Q;rw[f_] at l;rw[r_] at t;have v:=bf (m+1<m+1+1)
 cases ho:one (s.drop (bj s i)) with
 |error e'=>
  rw[ho] at t b;obtain⟨rfl,U⟩:=t;have Z:((e':Int) != 0)=true:=by simpa using U
  simp only[go_sem,seval,ak,kZ,v,a6,B,u,z,l,ij,Z];refine .inr ⟨ah,rfl,?_⟩;rw[<-b];refine⟨?_,?_,?_⟩;all_goals(simp[go_sem];try rfl)
 |ok q=>
  obtain⟨kd,n⟩:=q;rw[ho] at t b;obtain⟨rfl,rfl,W⟩:=t;obtain⟨rfl,rfl,rfl,rfl⟩:=aic W;have G:((0:Int) != 0)=false:=rfl;have a:=Az ho;have V:=a.1;rw[adv] at V;by_cases w:4000<=out.length
  ·have A:=bH ((out.length:Int)≥4000);simp[μ w] at b;simp only[go_sem,seval,ak,kZ,v,a6,a7,B,u,z,l,ij,G,A];refine .inr ⟨ah,rfl,?_⟩;rw[<-b];refine⟨?_,?_,?_⟩;all_goals(simp[go_sem];try rfl)
  ·have A:=bU ((out.length:Int)≥4000);simp[κ w] at b
   have sx:∀p,p<m->cg L p=some (.bQ out.length 95)->cg (aH L 0 (sc s (bj s i+n))) p=some (.bQ out.length 95):=by
    intro p hj hg;rw[aR];by_cases M:0=p
    ·subst M;rw[f.2] at hg;cases hg
    ·rw[κ M];exact hg
   obtain⟨o',m',C,F,I,aeC,O⟩:=OL (m:=m+1+1) (L:=(m+1,.k 95 [.i kd,.i (bj s i:Int),.str ((s.take (bj s i)).drop i),.str ((s.take (bj s i+n)).drop (bj s i))])::(m,c)::aH L 0 (sc s (bj s i+n))) (o:=o) (out:=out) (by
    rcases MN with h|⟨X,j,T,h3,w⟩
    ·exact .inl h
    ·exact .inr ⟨X,j,T,aa,by rw[bo,bM,bo,bM];exact sx j h3 w⟩) aa (ti s i kd n)
   have Y:mP (ti s i kd n)=.agg [.i kd,.i (bj s i:Int),.str ((s.take (bj s i)).drop i),.str ((s.take (bj s i+n)).drop (bj s i))]:=rfl;rw[Y] at F;have S:eF C (m+1)=some [.i kd,.i (bj s i:Int),.str ((s.take (bj s i)).drop i),.str ((s.take (bj s i+n)).drop (bj s i))]:=by rw[eF,O (m+1) _ _ aa (by rw[bo,μ rfl])]
   have D:Sc m' C 0 s (bj s i+n):=⟨by have:=f.1;omega,O 0 _ _ aa (by rw[bo,bM,bo,κ (by have:=f.1;omega)];exact(f.set (bj s i+n)).2)⟩;have N:=bf (m+1<m');have aDE:∀x y H,cG aE.fq prog [68,68] [x,y] H=cH (λ_=>false) prog 68 68 x y H:=λ_ _ _=>rfl;by_cases g:kd=0
   ·have E:((kd:Int)==0)=true:=by rw[g];rfl
    simp[μ g] at b;simp only[go_sem,seval,ak,pM,kZ,a6,a7,B,u,z,l,ij,G,A,v,F,N,S,E];obtain⟨j,rfl⟩:=aaQ I ah;refine .inr ⟨ah,rfl,?_⟩;rw[<-b];refine⟨⟨j,?_⟩,?_,?_⟩;all_goals(simp[go_sem];try rfl)
   ·have E:((kd:Int)==0)=false:=by
     have:=dF kd 0;rw[ξ g] at this;exact this
    simp[κ g] at b;have a_:s.drop (bj s i)≠[]:=λhh=>g (a.2.1.2 hh);have xJ:=a.2.2.1 a_;simp only[go_sem,seval,ak,pM,kZ,a6,a7,B,u,z,l,ij,G,A,v,F,N,S,E];refine .inl ⟨trivial,s.length-(bj s i+n),aa,⟨bj s i+n,m',C,o',out++[ti s i kd n],rfl,aa,D,I,aP,b,?_⟩,?_⟩;all_goals simp[go_sem,a6]
def aAK(s):aK prog (run aE) 100 [.str s]=some (nV (lex s)):=by
 refine eX (c:=.seq _ (.seq (.seq _ _) (.seq (.seq _ (.seq _ _)) (.seq _ (.seq _ SY))))) rfl rfl func100 rfl (by rw[ntmps100];simp) (bE:=[.str s]) rfl rfl ?_ (IL _);refine aW (P:=Bu (lex s)) ?_ (λx α H h=>acq (by simp[results100]) h);rw[PV];by_cases b:16384<s.length
 ·have e:=bH ((s.length:Int)>16384);rw[μ b];simp[go_sem,ak,e];refine⟨rfl,?_,?_,?_⟩;all_goals(simp[go_sem];try rfl)
 ·have e:=bU ((s.length:Int)>16384);rw[κ b];have b:s.length<=16384:=aa;have g:=aAD s b
  cases hb:bad s with
  |some a=>
   obtain⟨f,k⟩:=aaR hb;rw[k] at g f;simp[go_sem,ak,e,g,f];refine⟨rfl,?_,?_,?_⟩;all_goals(simp[go_sem];try rfl)
  |none=>
   have f:=aaS hb;simp[go_sem,ak,e,g,f];have j:SY=.block 0 (.loop vb):=rfl;rw[j];refine An ?_;rw[gu];refine aW (lL (Uy s (se s 0 [])) (Bu (se s 0 [])) (λd α H i=>aq8 b d α H i) s.length _ _ ⟨⟨0,1,_,.nil,[],rfl,aa,⟨aa,rfl⟩,.inl ⟨rfl,rfl⟩,ah,rfl,?_⟩,?_⟩) ?_
   case refine_3=>
    rintro x ae H' h;exact .inr ⟨h.1,by have:=h.1;subst this;exact h⟩
   all_goals(simp[go_sem];try rfl)
def af9:dK prog (wM 239 329):=agy (A_ 239 _ func239 af af) af agT af6
def mixed:prog.follows .mixedOrders=true:=af
def JR:ir aE where
 mixed:=mixed
 kW:=λf hf=>Xm (aEi.1 aqP f (aEs.1 hf))
 ext:=mJ ald (mJ af9 (mJ ah2 (mJ agV ah3)))
def aq9:dK prog Km:=by
 intro f args H v H' h;unfold Km at h;split at h
 ·rename_i l;split at h
  ·rename_i hf;cases h;simp only[aFm,aFl] at hf;rcases hf with rfl|rfl
   ·exact⟨A_ 110 _ func110 af af,MP JR (aDF l) H⟩
   ·exact⟨A_ 100 _ func100 af af,MP JR (aAK l) H⟩
  ·cases h
 ·cases h
end Go.Proofs.YtmehamiifalmaaaGreatDoor.K
