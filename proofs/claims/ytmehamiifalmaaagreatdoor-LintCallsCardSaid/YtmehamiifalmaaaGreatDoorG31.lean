/- LintCalls: part 32 of its proof. -/
import Derived.Test.YtmehamiifalmaaaGreatDoorG5
import Derived.Test.YtmehamiifalmaaaGreatDoorG8
import Derived.IntWalk
import Derived.Test.YtmehamiifalmaaaGreatDoorG29
import Derived.Test.YtmehamiifalmaaaGreatDoorG30
set_option linter.all false
namespace Go.Proofs.YtmehamiifalmaaaGreatDoor.K
open Go Go.Ab Go.Proofs.Tryz
def Jv:List FuncId:=[110,155,156,157,196,77,76,75,197,228,100,141,142,143,172,173,174,175,107,176,108,109,177,178,179,217,237,219,240,215,153,154,218,238,195]
def Ie:List FuncId:=[110,155,156,157,196,77,76,75,197,228,100,141,171,173,174,175,107,108,109,177,217,237,219,240,215,153,154,216,218,257,195]
def qJ:ck:=bQ (tQ 258 329) (bQ (wt 239 329) (bQ (Ai 257) (bQ (zT 171) (Cm 216 336))))
noncomputable def aQ:Env:={P:=prog,G:=λf=>Jv.contains f,cl:=λf=>Ie.contains f,eX:=λ_=>false,dyn:=λi=>i==1,df:=λ_=>false,ext:=qJ}
def ap8:Jv.all (okF aQ)=true:=af
def ak:aQ.P=prog:=(rfl)
def aBN:aQ.dyn 1=true:=(rfl)
def aBO:aQ.dyn 4=false:=(rfl)
def aBP:aQ.dyn 5=false:=(rfl)
def aBQ:aQ.dyn 3=false:=(rfl)
def aBR:aQ.dyn 8=false:=(rfl)
def ay5:aQ.dyn 15=false:=(rfl)
def ay6:aQ.dyn 16=false:=(rfl)
def ay7:aQ.dyn 40=false:=(rfl)
def aBS(l):aQ.any l=false:=(rfl)
attribute [go_sem] aBS aBN aBQ aBO aBP aBR ay5 ay6 ay7
noncomputable def ay8(f:FuncId)(p:UInt8->Bool):Bool:=(List.range 256).all λn=>match aI prog (eI aQ 30) f [.int .u8 (n:Nat)] with
 |some (.bool x)=>x==p (UInt8.ofNat n)
 |_=>false
def wB{f}{p:UInt8->Bool}(h:ay8 f p=true)(b:UInt8):aI prog (run aQ) f [.int .u8 b.toNat]=some (.bool (p b)):=by
 have a:=aDn.1 h b.toNat (aDU.2 b.toNat_lt);revert a
 cases hc:aI prog (eI aQ 30) f [.int .u8 b.toNat] with
 |none=>intro a;cases a
 |some v=>
  cases v<;>intro a<;>try(cases a;done)
  rename_i x;simp[aFG] at a;rw[<-a];exact Aj 30 hc
def E9(b:UInt8):Bool:=decide (b.toNat=35)
def Q8(b:UInt8):aI prog (run aQ) 77 [.int .u8 b.toNat]=some (.bool (isLet b)):=wB af b
def Q9(b:UInt8):aI prog (run aQ) 76 [.int .u8 b.toNat]=some (.bool (jK b)):=wB af b
def avk(b:UInt8):aI prog (run aQ) 228 [.int .u8 b.toNat]=some (.bool (pP b)):=wB af b
def aBT(b:UInt8):aI prog (run aQ) 173 [.int .u8 b.toNat]=some (.bool (kj b)):=wB af b
def avl(b:UInt8):aI prog (run aQ) 174 [.int .u8 b.toNat]=some (.bool (E9 b)):=wB af b
def aBU(b:UInt8):aI prog (run aQ) 175 [.int .u8 b.toNat]=some (.bool (ic b)):=wB af b
def ay9(b:UInt8):aI prog (run aQ) 107 [.int .u8 b.toNat]=some (.bool (isLet b)):=wB af b
def aza(b:UInt8):aI prog (run aQ) 109 [.int .u8 b.toNat]=some (.bool (jK b)):=wB af b
def azb(b:UInt8):aI prog (run aQ) 215 [.int .u8 b.toNat]=some (.bool (bj b)):=wB af b
set_option maxRecDepth 100000
def FP:yi prog 9=true:=af
def aBV:cu prog 9=some false:=af
def aBW:cu prog 3=some false:=af
def pJ:bF prog 9=some 1:=af
def qt:bF prog 3=some 1:=af
def X1:hC prog 235=some [(0,9),(1,3)]:=af
def aBX:yE prog #[9]=false:=af
def aBY(l:List UInt8):gD prog #[9] [.str l]=some (.i l.length):=by simp[gD,FP]
def jf{s}{i:Nat}{b:UInt8}(h:s[i]? =some b):ni prog 9 (.str s) (.i i)=some (.int .u8 b.toNat):=by simp[ni,FP,h]
def xI(l:List UInt8){a b}(h1:a<=b)(h2:b<=l.length):jT prog 9 (some (.i a)) (some (.i b)) (.str l)=some (.str ((l.take b).drop a)):=by have d:(b:Int)<=(l.length:Int):=aa;have c:(a:Int)<=(b:Int):=aa;simp[jT,FP,nN,j_,d,c]
def Kc(l:List UInt8){a}(h2:a<=l.length):jT prog 9 (some (.i a)) none (.str l)=some (.str (l.drop a)):=by have b:(a:Int)<=(l.length:Int):=aa;simp[jT,FP,nN,j_,b]
def ld9(cs)(off):iM prog 9 cs off=cs[off]? :=kW aBV cs off
def ld3(cs)(off):iM prog 3 cs off=cs[off]? :=kW aBW cs off
def avm(n k):cr prog 235 0 (.ptr n k)=some (.ptr n k):=by simp[cr,X1,pJ]
def avn(n k):cr prog 235 1 (.ptr n k)=some (.ptr n (k+1)):=by simp[cr,X1,qt]
def Pa(n k):BJ (.ptr n k)=some (.ptr n k):=(rfl)
def Pc(b):xj .not (.bool b)=some (.bool (!b)):=by cases b<;>exact(rfl)
attribute [go_sem] aBY ld9 ld3 avm avn Pa Pc
def sc(s:List UInt8)(i:Nat):bH:=.z [.str s,.i i]
def Sc(m:Nat)(L:List (Nat×bH))(k:Nat)(s:List UInt8)(i:Nat):Prop:=k<m/\cq L k=some (sc s i)
def Sc.cells{m}{L}{k}{s}{i}(h:Sc m L k s i):e_ L k=some [.str s,.i i]:=by simp[e_,h.2,sc]
def Sc.set{m}{L}{k}{s}{i}(h:Sc m L k s i)(j):Sc m (aH L k (sc s j)) k s j:=⟨h.1,by rw[bg,ν rfl,h.2];rfl⟩
def Sc.store{m}{L}{k}{s}{i}(h:Sc m L k s i)(j:Nat):tG prog 3 (.ptr k 1) (.i j) ⟨m,L⟩=some (hM,⟨m,aH L k (sc s j)⟩):=by rw[G6,ν h.1,h.cells];simp[an,qt,AV.width,AV.cells,eE,AV.one,h.2,sc,CH,eD]
def Sc.same{m}{L}{k}{s}{i}(h:Sc m L k s i):aH L k (sc s i)=L:=qu L k _ h.2
def yt(g:FuncId)(p:UInt8->Bool):Prop:=Ie.contains g=true/\∀b:UInt8,aI prog (run aQ) g [.int .u8 b.toNat]=some (.bool (p b))
def pS(p:UInt8->Bool)(s:List UInt8)(i:Nat):Bool:=match s[i]? with
 |some b=>p b
 |none=>false
def aht{g}{p:UInt8->Bool}(a:yt g p)(b:UInt8)(H):dX aQ (run aQ) (.fn (.func g) [] []) [.int .u8 b.toNat] H=some (.bool (p b),H):=by rw[sf a.1,show aQ.P=prog from rfl,a.2 b];rfl
def CA{g}{p:UInt8->Bool}(n:yt g p){m}{L}{k}{s:List UInt8}{i:Nat}(h:Sc m L k s i):run aQ 172 [.ptr k 0,.fn (.func g) [] []] ⟨m,L⟩=some (.bool (pS p s i),⟨m,L⟩):=by
 have f:(k<m)=True:=υ h.1;have j:=h.cells;refine qY (c:=.seq _ (.seq _ _)) rfl rfl func172 rfl (by rw[ntmps172];simp) ?_;have e:=aas (E:=aQ) (l:=#[.tmp 12]) (dV:=#[9]) aBX;by_cases hi:i<s.length
 ·obtain⟨b,hb⟩:=get_some hi;have a:=bJ ((i:Int)<(s.length:Int));have d:pS p s i=p b:=by simp[pS,hb]
  simp only[go_sem,seval,ak,f,j,a,e,jf hb,aht n b,d,results172]
 ·have a:=bP ((i:Int)<(s.length:Int));have d:pS p s i=false:=by simp[pS,aDq (aD2 hi)]
  simp only[go_sem,seval,ak,f,j,a,e,d,results172]
def call70:=wJ aQ 172 rfl rfl
attribute [go_sem] call70
def aBZ:yt 173 kj:=⟨af,aBT⟩
def aB0:yt 174 E9:=⟨af,avl⟩
def aB1:yt 175 ic:=⟨af,aBU⟩
def aB2:yt 107 isLet:=⟨af,ay9⟩
def aB3:yt 109 jK:=⟨af,aza⟩
def azc:yt 215 bj:=⟨af,azb⟩
def D7{p}{s}{i}{b}(h:s[i]? =some b):pS p s i=p b:=by simp[pS,h]
def Ij{p}{s}{i}(h:pS p s i=true):∃b,s[i]? =some b/\p b=true:=by
 unfold pS at h;split at h
 ·rename_i b hb;exact⟨b,hb,h⟩
 ·cases h
def NU{p}{s:List UInt8}{i}(hi:i<=s.length)(h:pS p s i=false):fl p s i=i:=by
 by_cases a:i<s.length
 ·obtain⟨b,hb⟩:=get_some a;rw[D7 hb] at h;exact MB hb h
 ·exact MW aa
structure IP(p:UInt8->Bool)(s:List UInt8)(e k m:Nat)(L:List (Nat×bH))(f:Int)(d:Nat)(α:az)(H:ab):Prop where
 ex:∃i,i+d=s.length/\fl p s i=e/\H=⟨m,aH L k (sc s i)⟩
 a0:α 0=.ptr k 0
 a3:α 3=.i f
def PP(id:Nat)(p:UInt8->Bool)(s:List UInt8)(j k m:Nat)(L:List (Nat×bH))(f:Int)(e:Ex)(α:az)(H:ab):Prop:=
 e=.exit id/\H=⟨m,aH L k (sc s j)⟩/\pS p s j=false/\α 0=.ptr k 0/\α 3=.i f
noncomputable def zw:=f176.c.r.r.l.b.b
noncomputable def aB4:Code:=.block 0 (.loop zw)
noncomputable def K75:=f176.c.r.r.r
def ap9{s:List UInt8}{e k m}{L}{f}{i0}(n:Sc m L k s i0)(hn:s.length<=16384)(d:Nat)(α:az)(H:ab)(h:IP bj s e k m L f d α H):
  aD (aO aQ zw α H) λx j H'=>(x=.normal/\∃l,l<d/\IP bj s e k m L f l j H')\/(x≠.normal/\PP 0 bj s e k m L f x j H'):=by
 obtain⟨⟨i,hd,g,rfl⟩,a0,a3⟩:=h;have t:zw=.seq (.seq _ _) _:=rfl;rw[t];have c:=n.set i;have q:(k<m)=True:=υ n.1;have a:=CA azc c
 cases hq:pS bj s i with
 |true=>
  rw[hq] at a;obtain⟨b,hb,p⟩:=Ij hq;have aE:=eg hb;have w1:=f_ (i+1) (i+1:Nat);have o:=c.store (i+1);rw[gh] at o;simp only[go_sem,seval,ak,a0,a,q,c.cells,w1,o];refine .inl ⟨trivial,d-1,aa,⟨i+1,aa,by rw[<-g,th hb p],rfl⟩,?_,?_⟩;all_goals simp[go_sem,a0,a3]
 |false=>
  rw[hq] at a;simp only[go_sem,seval,a0,a];have r:e=i:=by rw[<-g];exact NU aa hq
  subst r;refine .inr ⟨ai,rfl,rfl,hq,?_,?_⟩;all_goals simp[go_sem,a0,a3]
def nr{m}{L:List (Nat×bH)}{k:Nat}{s:List UInt8}{i:Nat}(h:Sc m L k s i)(hi:i<=s.length)(g:s.length<=16384):run aQ 176 [.ptr k 0] ⟨m,L⟩=some (.str ((s.drop i).takeWhile bj),⟨m,aH L k (sc s (fl bj s i))⟩):=by
 have a:(k<m)=True:=υ h.1;refine qY (c:=.seq _ (.seq _ (.seq aB4 K75))) rfl rfl func176 rfl (by rw[ntmps176];simp) ?_;simp[go_sem,ak,a,h.cells];refine jE (id:=0) ?_;rw[gB];refine aT (lW (IP bj s (fl bj s i) k m L i) (PP 0 bj s (fl bj s i) k m L i) (λd α H f=>ap9 h g d α H f) (s.length-i) _ _ ⟨⟨i,aa,rfl,by rw[h.same]⟩,?_,?_⟩) ?_
 case refine_3=>
  rintro e ae H' ⟨rfl,rfl,_,a0,a3⟩;refine .inl ⟨.inr rfl,?_⟩;have b:K75=.seq _ _:=rfl;rw[b];have sl:=xI s (Hq bj s hi) (El bj s i);rw[MX bj s hi] at sl;simp[go_sem,ak,a0,a3,a,(h.set (fl bj s i)).cells,sl,results176]
 all_goals simp[go_sem]
noncomputable def DW:=f142.c.r.r.b.b
noncomputable def aB5:Code:=.block 0 (.loop DW)
noncomputable def TP:=DW.b.l.b.b
noncomputable def aB6:Code:=.block 2 (.loop TP)
noncomputable def K36:=DW.b.r
noncomputable def TQ:=DW.b.r.r.b.b
noncomputable def aB7:Code:=.block 4 (.loop TQ)
def akz{s:List UInt8}{e k m}{L}{f}{i0}(n:Sc m L k s i0)(hn:s.length<=16384)(d)(α)(H)(h:IP kj s e k m L f d α H):
  aD (aO aQ TP α H) λx j H'=>(x=.normal/\∃l,l<d/\IP kj s e k m L f l j H')\/(x≠.normal/\PP 2 kj s e k m L f x j H'):=by
 obtain⟨⟨i,hd,g,rfl⟩,a0,a3⟩:=h;have t:TP=.seq (.seq _ _) _:=rfl;rw[t];have c:=n.set i;have q:(k<m)=True:=υ n.1;have a:=CA aBZ c
 cases hq:pS kj s i with
 |true=>
  rw[hq] at a;obtain⟨b,hb,p⟩:=Ij hq;have aE:=eg hb;have w1:=f_ (i+1) (i+1:Nat);have o:=c.store (i+1);rw[gh] at o;simp only[go_sem,seval,ak,a0,a,q,c.cells,w1,o];refine .inl ⟨trivial,d-1,aa,⟨i+1,aa,by rw[<-g,th hb p],rfl⟩,?_,?_⟩;all_goals simp[go_sem,a0,a3]
 |false=>
  rw[hq] at a;simp only[go_sem,seval,a0,a];have r:e=i:=by rw[<-g];exact NU aa hq
  subst r;refine .inr ⟨ai,rfl,rfl,hq,?_,?_⟩;all_goals simp[go_sem,a0,a3]
def akA{s:List UInt8}{e k m}{L}{f}{i0}(n:Sc m L k s i0)(hn:s.length<=16384)(d)(α)(H)(h:IP ic s e k m L f d α H):
  aD (aO aQ TQ α H) λx j H'=>(x=.normal/\∃l,l<d/\IP ic s e k m L f l j H')\/(x≠.normal/\PP 4 ic s e k m L f x j H'):=by
 obtain⟨⟨i,hd,g,rfl⟩,a0,a3⟩:=h;have t:TQ=.seq (.seq _ _) _:=rfl;rw[t];have c:=n.set i;have q:(k<m)=True:=υ n.1;have a:=CA aB1 c
 cases hq:pS ic s i with
 |true=>
  rw[hq] at a;obtain⟨b,hb,p⟩:=Ij hq;have aE:=eg hb;have w1:=f_ (i+1) (i+1:Nat);have o:=c.store (i+1);rw[gh] at o;simp only[go_sem,seval,ak,a0,a,q,c.cells,w1,o];refine .inl ⟨trivial,d-1,aa,⟨i+1,aa,by rw[<-g,th hb p],rfl⟩,?_,?_⟩;all_goals simp[go_sem,a0,a3]
 |false=>
  rw[hq] at a;simp only[go_sem,seval,a0,a];have r:e=i:=by rw[<-g];exact NU aa hq
  subst r;refine .inr ⟨ai,rfl,rfl,hq,?_,?_⟩;all_goals simp[go_sem,a0,a3]
structure Sk(s:List UInt8)(e k m:Nat)(L:List (Nat×bH))(f:Nat)(d:Nat)(α:az)(H:ab):Prop where
 ex:∃i,i+d=s.length/\f<=i/\bh s i=e/\H=⟨m,aH L k (sc s i)⟩
 a0:α 0=.ptr k 0
 a3:α 3=.i f
def adL(s:List UInt8)(j k m:Nat)(L:List (Nat×bH))(f:Nat)(e:Ex)(α:az)(H:ab):Prop:=
 e=.ret/\H=⟨m,aH L k (sc s j)⟩/\α 2=.str ((s.take j).drop f)
def akB{s:List UInt8}{e k m}{L}{f i0}(l:Sc m L k s i0)(w:s.length<=16384)(d:Nat)(α:az)(H:ab)(h:Sk s e k m L f d α H):
  aD (aO aQ DW α H) λx u H'=>(x=.normal/\∃v,v<d/\Sk s e k m L f v u H')\/(x≠.normal/\adL s e k m L f x u H'):=by
 obtain⟨⟨i,A,hf,I,rfl⟩,a0,a3⟩:=h;have K:DW=.block 1 (.seq aB6 K36):=rfl;rw[K];refine zJ ?_;rw[uT];refine jE (id:=2) ?_;rw[gB];refine aT (lW (IP kj s (fl kj s i) k m L f) (PP 2 kj s (fl kj s i) k m L f) (λd α H a=>akz l w d α H a) d _ _ ⟨⟨i,A,rfl,rfl⟩,a0,a3⟩) ?_;rintro x aM H1 ⟨rfl,rfl,c,q,t⟩;refine .inl ⟨.inr rfl,?_⟩;have r:i<=s.length:=aa;have J:=Hq kj s r;have g:=El kj s i;have o:=afX r;rw[I] at o;generalize fl kj s i=j at c J g o;have D:K36=.seq (.seq _ _) aB7:=rfl;rw[D];have y:=l.set j;have C:(k<m)=True:=υ l.1;have p:=CA aB0 y
 cases a:pS E9 s j with
 |false=>
  rw[a] at p
  have G:e=j:=by
   rw[<-o];by_cases E:j<s.length
   ·obtain⟨b,hb⟩:=get_some E;rw[D7 hb] at c a;exact UL hb c (by simpa[E9] using a)
   ·exact Vh aa
  subst G;simp only[go_sem,seval,ak,q,t,p,C,y.cells,(xI s (show f<=e by omega) g),Α];refine .inr ⟨trivial,.inr ⟨ai,rfl,rfl,?_⟩⟩;simp[go_sem]
 |true=>
  rw[a] at p;simp only[go_sem,seval,q,p,ω];obtain⟨b,hb,n⟩:=Ij a;have n:b.toNat=35:=by simpa[E9] using n
  have B:kj b=false:=by rw[D7 hb] at c;exact c
  have z:ic b=true:=by simp[ic,n]
  have qK:=eg hb;refine zJ ?_;rw[gB];refine aT (lW (IP ic s (fl ic s j) k m L f) (PP 4 ic s (fl ic s j) k m L f) (λd α H a=>akA l w d α H a) (s.length-j) _ _ ⟨⟨j,aa,rfl,rfl⟩,?_,?_⟩) ?_
  case refine_3=>
   rintro x gH H2 ⟨rfl,rfl,kP,M,F⟩;refine .inl ⟨.inr rfl,.inl ⟨.inl rfl,.inl ⟨trivial,s.length-fl ic s j,?_,⟨fl ic s j,?_,?_,?_,rfl⟩,M,F⟩⟩⟩;all_goals have g1:=Hq ic s (i:=j+1) aa
   all_goals have g2:=El ic s (j+1)
   all_goals rw[th hb z]
   ·omega
   ·omega
   ·omega
   ·rw[<-th hb z,<-UK hb B n,o]
  all_goals simp[go_sem,q,t]
def avo{m}{L:List (Nat×bH)}{k:Nat}{s:List UInt8}{i:Nat}(h:Sc m L k s i)(hi:i<=s.length)(f:s.length<=16384):run aQ 142 [.ptr k 0] ⟨m,L⟩=some (.str ((s.take (bh s i)).drop i),⟨m,aH L k (sc s (bh s i))⟩):=by
 have a:(k<m)=True:=υ h.1;refine qY (c:=.seq _ (.seq _ aB5)) rfl rfl func142 rfl (by rw[ntmps142];simp) ?_;simp[go_sem,ak,a,h.cells];refine zJ ?_;rw[gB];refine aT (lW (Sk s (bh s i) k m L i) (adL s (bh s i) k m L i) (λd α H b=>akB h f d α H b) (s.length-i) _ _ ⟨⟨i,aa,μ _,rfl,by rw[h.same]⟩,?_,?_⟩) ?_
 case refine_3=>
  rintro e ae H' ⟨rfl,rfl,a2⟩;refine .inr ⟨rfl,?_⟩;simp only[go_sem,a2,results142]
 all_goals simp[go_sem]
def S(l:List (List UInt8)):List AV:=l.map AV.str
def azd(l:List (List UInt8)):(S l).length=l.length:=by simp[S]
def aB8{l}{i:Nat}{x:List UInt8}(h:l[i]? =some x):(S l)[i]? =some (.str x):=by simp[S,h]
def Sl:∀l:List (List UInt8),AV.aq.go (S l)=true
 |[]=>rfl
 |x::l=>by show((AV.str x).aq&&AV.aq.go (S l))=true;rw[Sl l];rfl
def abE:eW prog 66=some 9:=af
def acP(o)(l:List (List UInt8)):gD prog #[66] [.vec o (S l)]=some (.i l.length):=by simp[gD,abE,azd]
def Sm{l}{i:Nat}{x:List UInt8}(o:Ab.Own)(h:l[i]? =some x):dC prog 66 (.vec o (S l)) (.i i)=some (.rptr [.str x]):=by have:=aB8 h;simp[dC,abE,pJ,AV.width,AV.cells,this]
def aqa(a b):jS .eql a b=some (.bool (a==b)):=by simp[jS]
attribute [go_sem] acP aqa
def sQ:List (List UInt8):=[[117,115,101],[100,101,102],[108,101,116],[105,102],[101,108,115,101],[119,104,105,108,101],[112,114,105,110,116],[114,101,116,117,114,110],[102,110],[105,110,112,117,116],[105,110,116],[115,116,114],[100,121,110]]
def Z'(w):sQ.contains w=isKey w:=by
 rw[isKey,aD0];simp[Θ,sQ,wT];constructor
 ·rintro(h|h|h|h|h|h|h|h|h|h|h|h|h)<;>simp[h]
 ·rintro(h|h|h|h|h|h|h|h|h|h|h|h|h)<;>simp[h]
noncomputable def R18:=f75.c.r.l
def r18(call)(α)(H):aP aQ call aJ R18 α H=some (.normal,λi=>if i=3 then .vec .full (S sQ) else if i=5 then .vec .full (S sQ) else α i,H):=by rfl
def avp{l:List (List UInt8)}{w}(h:∀j,j<l.length->l[j]?≠some w):l.contains w=false:=by
 cases hc:l.contains w with
 |false=>rfl
 |true=>obtain⟨j,a⟩:=aDD (Θ.1 hc);exact(h j (ο.1 a).1 a).elim
def aaa{l:List (List UInt8)}{w}{j:Nat}(h:l[j]? =some w):l.contains w=true:=Θ.2 (Β h)
noncomputable def xA:=f75.c.r.r.l.r.b.b
noncomputable def aB9:Code:=.block 0 (.loop xA)
noncomputable def K18:=f75.c.r.r.r
structure TR(w:List UInt8)(d:Nat)(α:az)(H:ab):Prop where
 ex:∃i:Nat,i+d=13/\(∀j,j<i->sQ[j]?≠some w)/\α 4=.i i
 a0:α 0=.str w
 a3:α 3=.vec .full (S sQ)
def P18(w:List UInt8)(e:Ex)(α:az)(H:ab):Prop:=(e=.exit 0/\sQ.contains w=false)\/(e=.ret/\sQ.contains w=true/\α 2=.bool true)
def aqb{w}(d:Nat)(α:az)(H:ab)(h:TR w d α H):
  aD (aO aQ xA α H) λx f H'=>(x=.normal/\∃g,g<d/\TR w g f H')\/(x≠.normal/\P18 w x f H'):=by
 obtain⟨⟨i,hd,hb,a4⟩,a0,a3⟩:=h;have m:xA=.seq (.seq _ _) (.seq (.block _ (.seq _ _)) _):=rfl;rw[m];have a:sQ.length=13:=rfl;by_cases hi:i<13
 ·have b:decide ((i:Int)<(sQ.length:Int))=true:=π (by rw[a];omega);obtain⟨x,c⟩:∃x,sQ[i]? =some x:=⟨_,Φ (by rw[a];exact hi)⟩;have k:=Sm .full c;have w1:=f_ (i+1) (i+1:Nat)
  cases hq:(x==w) with
  |true=>
   have o:x=w:=by simpa using hq
   subst o;simp only[go_sem,seval,ak,a0,a3,a4,b,k,hq];exact .inr ⟨ai,.inr ⟨rfl,aaa c,by simp[go_sem]⟩⟩
  |false=>
   simp only[go_sem,seval,ak,a0,a3,a4,b,k,hq,w1];refine .inl ⟨trivial,d-1,aa,⟨i+1,aa,λj e=> ?_,?_⟩,?_,?_⟩
   ·by_cases l:j=i
    ·subst l;rw[c];intro n;cases n;simp at hq
    ·exact hb j aa
   all_goals simp[go_sem,a0,a3]
 ·have b:decide ((i:Int)<(sQ.length:Int))=false:=ξ (by rw[a];omega);simp only[go_sem,seval,ak,a3,a4,b];exact .inr ⟨ai,.inl ⟨rfl,avp λj e=>hb j (by rw[a] at e;omega)⟩⟩
def aqc(w:List UInt8):aI prog (run aQ) 75 [.str w]=some (.bool (isKey w)):=by
 refine fk (c:=.seq _ (.seq R18 (.seq (.seq _ aB9) K18))) rfl rfl func75 rfl (by rw[ntmps75];simp) (bW:=[.str w]) rfl rfl ?_ rfl;simp[go_sem,ak,r18];refine jE (id:=0) ?_;rw[gB];refine aT (lW (TR w) (P18 w) (λd α H f=>aqb d α H f) 13 _ _ ⟨⟨0,rfl,λj hj=>aa,?_⟩,?_,?_⟩) ?_
 case refine_4=>
  rintro e ae H' (⟨rfl,a⟩|⟨rfl,a,a2⟩)
  ·refine .inl ⟨.inr rfl,?_⟩;have b:K18=.seq _ _:=rfl;rw[b];rw[Z'] at a;simp only[go_sem,seval,results75];rw[a];exact⟨_,rfl,rfl⟩
  ·refine .inr ⟨rfl,?_⟩;rw[Z'] at a;simp only[go_sem,seval,results75,a2];rw[a];exact⟨_,rfl,rfl⟩
 all_goals(simp[go_sem];try rfl)
def xd(l:List (List UInt8))(w:List UInt8):Int:=match l.findIdx? (w==·) with
 |some i=>(i:Int)
 |none=> -1
def ahu{l}{w}{i:Nat}(h:l[i]? =some w)(hb:∀j,j<i->l[j]?≠some w):xd l w=(i:Int):=by
 have:l.findIdx? (w==·)=some i:=by rw[List.findIdx?_eq_some_iff_getElem];obtain⟨hi,c⟩:=ο.1 h;refine⟨hi,by rw[c];simp,λj b a=>hb j b ?_⟩;have a:=eq_of_beq a;rw[a];exact Φ _
 rw[xd,this]
def Wq{l:List (List UInt8)}{w}(h:∀j,j<l.length->l[j]?≠some w):xd l w= -1:=by
 have:l.findIdx? (w==·)=none:=by
  rw[List.findIdx?_eq_none_iff];intro x b;obtain⟨j,a⟩:=aDD b
  cases hq:(w==x) with
  |false=>rfl
  |true=>have:=eq_of_beq hq;subst this;exact(h j (ο.1 a).1 a).elim
 rw[xd,this]
def aqd(l:List (List UInt8))(w:List UInt8):decide (xd l w≥0)=l.contains w:=by
 cases hc:l.contains w with
 |true=>
  obtain⟨j,b⟩:=aDD (Θ.1 hc);unfold xd;split
  ·exact bJ _
  ·rename_i a;rw[List.findIdx?_eq_none_iff] at a;have:=a w (Θ.1 hc);simp at this
 |false=>
  rw[Wq]
  ·rfl
  ·intro j b c;rw[aaa c] at hc;cases hc
noncomputable def Sn:=f195.c.r.l.r.b.b
noncomputable def aze:Code:=.block 0 (.loop Sn)
noncomputable def adM:=f195.c.r.r
structure Sq(o:Ab.Own)(l:List (List UInt8))(w:List UInt8)(d:Nat)(α:az)(H:ab):Prop where
 ex:∃i:Nat,i+d=l.length/\(∀j,j<i->l[j]?≠some w)/\α 8=.i i
 a0:α 0=.vec o (S l)
 a1:α 1=.str w
 a7:α 7=.i l.length
def adN(l:List (List UInt8))(w:List UInt8)(e:Ex)(α:az)(H:ab):Prop:=(e=.exit 0/\xd l w= -1)\/(e=.ret/\α 4=.i (xd l w))
def akC{o}{l:List (List UInt8)}{w}(hn:l.length<=16384)(d:Nat)(α:az)(H:ab)(h:Sq o l w d α H):
  aD (aO aQ Sn α H) λx c H'=>(x=.normal/\∃e,e<d/\Sq o l w e c H')\/(x≠.normal/\adN l w x c H'):=by
 obtain⟨⟨i,hd,hb,a8⟩,a0,a1,a7⟩:=h;have m:Sn=.seq _ (.seq _ (.seq (.block _ (.seq _ (.seq _ _))) _)):=rfl;rw[m];by_cases hi:i<l.length
 ·have a:=bJ ((i:Int)<(l.length:Int));obtain⟨x,b⟩:∃x,l[i]? =some x:=⟨_,Φ hi⟩;have f:=Sm o b;have w1:=f_ (i+1) (i+1:Nat)
  cases hq:(w==x) with
  |true=>
   have p:w=x:=by simpa using hq
   subst p;simp only[go_sem,seval,ak,a0,a1,a7,a8,a,f,hq];exact .inr ⟨ai,.inr ⟨rfl,by simp[go_sem];rw[ahu b hb]⟩⟩
  |false=>
   simp only[go_sem,seval,ak,a0,a1,a7,a8,a,f,hq,w1];refine .inl ⟨trivial,d-1,aa,⟨i+1,aa,λj k=> ?_,?_⟩,?_,?_,?_⟩
   ·by_cases g:j=i
    ·subst g;rw[b];intro n;cases n;simp at hq
    ·exact hb j aa
   all_goals simp[go_sem,a0,a1,a7]
 ·have a:=bP ((i:Int)<(l.length:Int));simp only[go_sem,seval,ak,a7,a8,a];exact .inr ⟨ai,.inl ⟨rfl,Wq λj k=>hb j aa⟩⟩
def abF{o:Ab.Own}{l}(h:AV.aq.go l=true):(AV.vec o.bare l).aq=true:=by cases o<;>simp[AV.aq,Own.bare,h]
def akD(o:Ab.Own)(l:List (List UInt8))(w:List UInt8)(g:l.length<=16384):aI prog (run aQ) 195 [.vec o (S l),.str w]=some (.i (xd l w)):=by
 refine fk (c:=.seq _ (.seq (.seq _ aze) adM)) rfl rfl func195 rfl (by rw[ntmps195];simp) (bW:=[.vec o.bare (S l),.str w]) rfl ?_ ?_ rfl
 ·show((AV.vec o.bare (S l)).aq&&_)=true;rw[abF (Sl l)];rfl
 simp[go_sem,ak];refine jE (id:=0) ?_;rw[gB];refine aT (lW (Sq o.bare l w) (adN l w) (λd α H f=>akC g d α H f) l.length _ _ ⟨⟨0,aa,λj hj=>aa,?_⟩,?_,?_,?_⟩) ?_
 case refine_5=>
  rintro e ae H' (⟨rfl,b⟩|⟨rfl,a4⟩)
  ·refine .inl ⟨.inr rfl,?_⟩;have a:adM=.seq _ _:=rfl;rw[a];simp only[go_sem,seval,results195];rw[b];exact⟨_,rfl,rfl⟩
  ·refine .inr ⟨rfl,?_⟩;simp only[go_sem,seval,results195,a4];exact⟨_,rfl,rfl⟩
 all_goals(simp[go_sem];try rfl)
def call230:=lJ aQ prog 195 rfl rfl
def call142:=lJ aQ prog 153 rfl rfl
def call143:=lJ aQ prog 154 rfl rfl
def call144:=lJ aQ prog 216 rfl rfl
def call145:=lJ aQ prog 218 rfl rfl
def call121:=lJ aQ prog 219 rfl rfl
def call208:=lJ aQ prog 240 rfl rfl
attribute [go_sem] call230 call142 call143 call144 call145 call121 call208
def afr(o)(l:List (List UInt8))(w)(b:l.length<=16384):aI prog (run aQ) 153 [.vec o (S l),.str w]=some (.bool (l.contains w)):=by
 refine tc (c:=.seq _ (.seq _ _)) rfl rfl func153 rfl (by rw[ntmps153];simp) (bW:=[.vec o.bare (S l),.str w]) rfl ?_ ?_ rfl rfl
 ·show((AV.vec o.bare (S l)).aq&&_)=true;rw[abF (Sl l)];rfl
 ·have a:=akD o.bare l w b;simp[go_sem,ak,a,aqd l w,results153]
def aqe:aI prog (run aQ) 154 []=some (.vec .ro (S wT)):=Aj 30 (O8 rfl)
def aqf(w):aI prog (run aQ) 108 [.str w]=some (.bool (isKey w)):=by refine tc (c:=.seq _ (.seq _ _)) rfl rfl func108 rfl (by rw[ntmps108];simp) (bW:=[.str w]) rfl rfl ?_ rfl rfl;simp only[go_sem,seval,ak,(afr .ro wT w aA),aqe,results108];rfl
def agm{w:List UInt8}(a:w.length<=1099511627776){u}(h:Lib.parseUintB 63 w=.ok u):aI prog (run aQ) 216 [.str w,.i 10,.i 63]=some (.tup [.int .u64 u,.val .nilIface]):=by refine xK rfl (args:=[.str w,.i 10,.i 63]) (v:=.tup [.int .u64 u,.val .nilIface]) (H:=.empty) rfl ?_ rfl;show qJ 216 [.str w,.i 10,.i 63] .empty=_;simp[qJ,bQ,tQ,wt,Ai,zT,Cm,a,h]
def agn{w:List UInt8}(a:w.length<=1099511627776)(h:∀u,Lib.parseUintB 63 w≠.ok u):aI prog (run aQ) 216 [.str w,.i 10,.i 63]=some (.tup [.any,.iface 336 .any]):=by
 refine xK rfl (args:=[.str w,.i 10,.i 63]) (v:=.tup [.any,.iface 336 .any]) (H:=.empty) rfl ?_ rfl;show qJ 216 [.str w,.i 10,.i 63] .empty=_
 cases hp:Lib.parseUintB 63 w with
 |ok u=>exact(h u hp).elim
 |_=>simp[qJ,bQ,tQ,wt,Ai,zT,Cm,a,hp]
def abG:od .nilIface=.val .nilIface:=(rfl)
def ne_nil:lN prog .neq 307 true (.val .nilIface) (.val .nilIface)=some (.bool false):=af
def avq:lN prog .neq 307 true (.iface 336 .any) (.val .nilIface)=some (.bool true):=af
def akE(w:List UInt8)(d:w.length<=1099511627776):aI prog (run aQ) 177 [.str w]=some (.i (if yy w=true then 0 else 23)):=by
 refine tc (c:=.seq _ (.seq (.seq _ (.seq _ _)) (.seq _ _))) rfl rfl func177 rfl (by rw[ntmps177];simp) (bW:=[.str w]) rfl rfl ?_ rfl rfl
 cases hp:Lib.parseUintB 63 w with
 |ok u=>
  have a:yy w=true:=by simp[yy,hp]
  have b:=agm d hp;simp only[go_sem,ak,↓reduceIte,Nat.reduceEqDiff,b,abG,ne_nil,a,iz,xR,aFe,results177]
 |_=>
  have a:yy w=false:=by simp[yy,hp]
  have b:=agn d (λu=>by rw[hp];simp);simp only[go_sem,ak,↓reduceIte,Nat.reduceEqDiff,b,abG,avq,a,iz,xR,aFe,results177];rfl
def pK(s p:List UInt8):Bool:=decide (p.length<=s.length)&&(s.take p.length==p)
def adO(l:List UInt8){b}(h2:b<=l.length):jT prog 9 none (some (.i b)) (.str l)=some (.str (l.take b)):=by have a:(b:Int)<=(l.length:Int):=aa;simp[jT,FP,nN,j_,a]
def ahv(s p):aI prog (run aQ) 240 [.str s,.str p]=some (.bool (pK s p)):=by
 refine tc (c:=.seq _ (.seq _ _)) rfl rfl func240 rfl (by rw[ntmps240];simp) (bW:=[.str s,.str p]) rfl rfl ?_ rfl rfl;by_cases h:p.length<=s.length
 ·have a:=bJ ((s.length:Int)≥(p.length:Int));simp only[go_sem,seval,ak,a,adO s h,results240];simp[pK,h]
 ·have a:=bP ((s.length:Int)≥(p.length:Int));simp only[go_sem,seval,ak,a,results240];simp[pK,h]
def ahw(s p):aI prog (run aQ) 219 [.str s,.str p]=some (.bool (pK s p)):=by refine tc (c:=.seq _ (.seq _ _)) rfl rfl func219 rfl (by rw[ntmps219];simp) (bW:=[.str s,.str p]) rfl rfl ?_ rfl rfl;simp[go_sem,ak,ahv s p,results219]
def po:List (List UInt8):=[61,61]::oG.map λb=>[b]
def akF:aI prog (run aQ) 218 []=some (.vec .ro (S po)):=Aj 30 (O8 rfl)
def aqg(c)(t)(b):pK (c::t) [b]=(c==b):=by simp[pK]
def X2(c)(t):∀l:List UInt8,(l.map λb=>[b]).find? (pK (c::t))=if l.contains c=true then some [c] else none
 |[]=>rfl
 |b::l=>by
  rw[aDm,aD1,aqg,X2 c t l]
  cases hb:(c==b) with
  |true=>have:=eq_of_beq hb;subst this;simp
  |false=>
   have a:c≠b:=by simpa using hb
   simp[a]
def ahx(r:List UInt8):po.find? (pK r)=if jR r=0 then none else some (r.take (jR r)):=by
 cases r with
 |nil=>rfl
 |cons c t=>
  rw[po,aD1,X2,jR]
  cases t with
  |nil=>
   have e:pK [c] [61,61]=false:=by simp[pK]
   rw[e];simp only[List.head?_nil,Option.map_none,reduceCtorEq,and_false,aDf];by_cases h:oG.contains c=true
   ·rw[ν h,ν h];simp
   ·rw[κ h,κ h];simp
  |cons d t=>
   have e:pK (c::d::t) [61,61]=(decide (c.toNat=61)&&decide (d.toNat=61)):=by
    have f:∀x:UInt8,(x==61)=decide (x.toNat=61):=λx=>by rw[aD0,aEh,aDs];exact⟨λh=>by rw[h];rfl,λh=>aEx.1 h⟩
    show(decide (2<=(c::d::t).length)&&([c,d]==[61,61]))=_;rw[<-f,<-f];simp
   rw[e];by_cases a:c.toNat=61/\d.toNat=61
   ·have b:c.toNat=61/\((d::t).head?.map UInt8.toNat)=some 61:=⟨a.1,by simp[a.2]⟩;have i:c=61:=aEx.1 a.1;have g:d=61:=aEx.1 a.2;rw[ν b];subst i g;rfl
   ·have b:¬(c.toNat=61/\((d::t).head?.map UInt8.toNat)=some 61):=by simpa using a
    have hb:(decide (c.toNat=61)&&decide (d.toNat=61))=false:=by simpa using a
    rw[κ b,hb];by_cases h:oG.contains c=true
    ·rw[ν h,ν h];simp
    ·rw[κ h,κ h];simp
noncomputable def TT:=f179.c.r.l.r.b.b
noncomputable def aCa:Code:=.block 0 (.loop TT)
noncomputable def K80:=f179.c.r.r
structure TU(r:List UInt8)(k:Nat)(H0:ab)(d:Nat)(α:az)(H:ab):Prop where
 ex:∃i:Nat,i+d=14/\(po.drop i).find? (pK r)=po.find? (pK r)/\α 7=.i i
 a0:α 0=.ptr k 0
 a5:α 5=.vec .ro (S po)
 a6:α 6=.i 14
 hH:H=H0
def P80(s:List UInt8)(i k m:Nat)(L:List (Nat×bH))(e:Ex)(α:az)(H:ab):Prop:=
 (e=.exit 0/\po.find? (pK (s.drop i))=none/\H=⟨m,L⟩)\/(e=.ret/\∃x,po.find? (pK (s.drop i))=some x/\α 2=.str x/\H=⟨m,aH L k (sc s (i+x.length))⟩)
def aqh{m}{L}{k}{s:List UInt8}{i}(f:Sc m L k s i)(hi:i<=s.length)(hn:s.length<=16384)(d:Nat)(α:az)(H:ab)(h:TU (s.drop i) k ⟨m,L⟩ d α H):
  aD (aO aQ TT α H) λx o H'=>(x=.normal/\∃p,p<d/\TU (s.drop i) k ⟨m,L⟩ p o H')\/(x≠.normal/\P80 s i k m L x o H'):=by
 obtain⟨⟨j,hd,b,a7⟩,a0,a5,a6,rfl⟩:=h;have v:TT=.seq _ (.seq _ (.seq (.block _ (.seq _ (.seq _ _))) _)):=rfl;rw[v];have n:(k<m)=True:=υ f.1;have t:=f.cells;have a:po.length=14:=rfl;by_cases u:j<14
 ·have c:=bJ ((j:Int)<14);obtain⟨x,g⟩:∃x,po[j]? =some x:=⟨_,Φ (by rw[a];exact u)⟩;have z:po.drop j=x::po.drop (j+1):=by obtain⟨hi,rfl⟩:=ο.1 g;exact Ο hi
  have q:=Sm .ro g;have w1:=f_ (j+1) (j+1:Nat);have e:=ahw (s.drop i) x;have r:=Kc s hi;rw[z,aD1] at b
  cases hq:pK (s.drop i) x with
  |true=>
   rw[hq] at e b;have hxl:x.length<=2:=by have:∀y∈po,y.length<=2:=aA;exact this x (Β g)
   have w:=f_ (i+(x.length:Int)) (i+x.length:Nat);simp only[go_sem,seval,ak,a0,a5,a6,a7,c,q,e,r,n,t,w,f.store (i+x.length)];exact .inr ⟨ai,.inr ⟨rfl,x,b.symm,by simp only[go_sem,seval],rfl⟩⟩
  |false=>
   rw[hq] at e b;simp only[go_sem,seval,ak,a0,a5,a6,a7,c,q,e,r,n,t,w1];refine .inl ⟨trivial,d-1,aa,⟨j+1,aa,b,?_⟩,?_,?_,?_,rfl⟩;all_goals simp[go_sem,a0,a5,a6]
 ·have c:=bP ((j:Int)<14);rw[aDk (l:=po) (by rw[a];omega)] at b;simp only[go_sem,seval,ak,a6,a7,c];exact .inr ⟨ai,.inl ⟨rfl,b.symm,rfl⟩⟩
def avr{m}{L:List (Nat×bH)}{k:Nat}{s:List UInt8}{i:Nat}(h:Sc m L k s i)(hi:i<=s.length)(p:s.length<=16384):
  run aQ 179 [.ptr k 0] ⟨m,L⟩=some (.str ((s.drop i).take (jR (s.drop i))),⟨m,aH L k (sc s (i+jR (s.drop i)))⟩):=by
 have f:po.length=14:=rfl;have l1:=acP .ro po;rw[f] at l1;have j:=ahx (s.drop i)
 have g:jR (s.drop i)<=(s.drop i).length:=by
  cases s.drop i with
  |nil=>simp[jR]
  |cons c t=>
   rw[jR];split
   ·rename_i l
    cases t with
    |nil=>simp at l
    |cons d t=>simp
   ·split<;>simp
 refine qY (c:=.seq _ (.seq (.seq _ aCa) K80)) rfl rfl func179 rfl (by rw[ntmps179];simp) ?_;simp[go_sem,ak,akF,l1];refine jE (id:=0) ?_;rw[gB];refine aT (lW (TU (s.drop i) k ⟨m,L⟩) (P80 s i k m L) (λd α H n=>aqh h hi p d α H n) 14 _ _ ⟨⟨0,aa,rfl,?_⟩,?_,?_,?_,rfl⟩) ?_
 case refine_5=>
  rintro e ae H' (⟨rfl,a,rfl⟩|⟨rfl,x,a,a2,rfl⟩)
  ·refine .inl ⟨.inr rfl,?_⟩;have o:K80=.seq _ _:=rfl;rw[o];rw[j] at a
   have b:jR (s.drop i)=0:=by
    by_cases b:jR (s.drop i)=0
    ·exact b
    ·rw[κ b] at a;cases a
   simp only[go_sem,seval,results179];rw[b,aEp,h.same];rfl
  ·refine .inr ⟨rfl,?_⟩;rw[j] at a;have b:jR (s.drop i)≠0:=λb=>by rw[ν b] at a;cases a
   rw[κ b] at a;cases a;simp only[go_sem,seval,results179,a2];rw[aDx,Nat.min_eq_left g]
 all_goals(simp[go_sem];try rfl)
end Go.Proofs.YtmehamiifalmaaaGreatDoor.K
namespace Go.Ab
open Go
def Ae{x}{g}{Q P}(h:aD x Q)(hi:∀e α H,Q e α H->aD (g (e,α,H)) P):aD (an x g) P:=by obtain⟨e,α,H,rfl,a⟩:=kf h;exact hi e α H a
end Go.Ab
namespace Go.Proofs.YtmehamiifalmaaaGreatDoor.K
open Go Go.Ab Go.Proofs.Tryz
set_option maxRecDepth 100000
def lQ(b:UInt8)(n):((b.toNat:Int)==((n:Nat):Int))=decide (b.toNat=n):=by rw[aD0,aEh,aDs];omega
def xe(b:UInt8)(n):((b.toNat:Int) != ((n:Nat):Int))= !decide (b.toNat=n):=by rw[bne,lQ]
noncomputable def LV:=f156.c.r.l.b.b
noncomputable def aCb:Code:=.block 0 (.loop LV)
noncomputable def K10:=f156.c.r.r
noncomputable def TV:=LV.r.b.r.r.b.b
noncomputable def adP:Code:=.block 2 (.loop TV)
structure Sr(s:List UInt8)(e:Nat)(d:Nat)(α:az)(H:ab):Prop where
 ex:∃i:Nat,i+d=s.length/\fl ic s i=e/\α 1=.i i
 a0:α 0=.str s
def adQ(s:List UInt8)(e:Nat)(x:Ex)(α:az)(H:ab):Prop:=x=.exit 2/\α 0=.str s/\α 1=.i e
def akG{s:List UInt8}{e}(hn:s.length<=16384)(d:Nat)(α:az)(H:ab)(h:Sr s e d α H):
  aD (aO aQ TV α H) λx j H'=>(x=.normal/\∃k,k<d/\Sr s e k j H')\/(x≠.normal/\adQ s e x j H'):=by
 obtain⟨⟨i,hd,a,a1⟩,a0⟩:=h;have m:TV=.seq (.seq _ _) _:=rfl;rw[m];by_cases hi:i<s.length
 ·have c:=bJ ((i:Int)<(s.length:Int));obtain⟨b,hb⟩:=get_some hi;have l:=jf hb;have f:((b.toNat:Int) != 10)= !decide (b.toNat=10):=xe b 10;have w1:=f_ (i+1) (i+1:Nat)
  cases hq:decide (b.toNat=10) with
  |true=>
   rw[hq] at f;have g:ic b=false:=by simpa[ic] using hq
   rw[MB hb g] at a;subst a;simp only[go_sem,seval,ak,a0,a1,c,l,f,ω];refine .inr ⟨ai,rfl,?_,?_⟩;all_goals simp[go_sem,a0,a1]
  |false=>
   rw[hq] at f;have g:ic b=true:=by simpa[ic] using hq
   rw[th hb g] at a;simp only[go_sem,seval,ak,a0,a1,c,l,f,w1,Α];refine .inl ⟨trivial,d-1,aa,⟨i+1,aa,a,?_⟩,?_⟩;all_goals simp[go_sem,a0]
 ·have c:=bP ((i:Int)<(s.length:Int));rw[MW aa] at a;subst a;simp only[go_sem,seval,ak,a0,a1,c];refine .inr ⟨ai,rfl,?_,?_⟩;all_goals simp[go_sem,a0,a1]
structure TW(s:List UInt8)(e:Nat)(d:Nat)(α:az)(H:ab):Prop where
 ex:∃i:Nat,i+d=s.length/\bh s i=e/\α 1=.i i
 a0:α 0=.str s
def P10(e:Nat)(x:Ex)(α:az)(H:ab):Prop:=(x=.exit 0/\α 1=.i e)\/(x=.ret/\α 4=.i e)
def aqi{s:List UInt8}{e}(w:s.length<=16384)(d:Nat)(α:az)(H:ab)(h:TW s e d α H):
  aD (aO aQ LV α H) λx f H'=>(x=.normal/\∃r,r<d/\TW s e r f H')\/(x≠.normal/\P10 e x f H'):=by
 obtain⟨⟨i,hd,a,a1⟩,a0⟩:=h;have c:LV=.seq (.seq _ _) (.block 1 (.seq (.seq _ _) (.seq (.seq _ _) adP))):=rfl;rw[c];by_cases hi:i<s.length
 ·have g:=bJ ((i:Int)<(s.length:Int));obtain⟨b,hb⟩:=get_some hi;have n:=jf hb;have o:((b.toNat:Int)==32)=decide (b.toNat=32):=lQ b 32;have c2:((b.toNat:Int)==9)=decide (b.toNat=9):=lQ b 9;have m:((b.toNat:Int)==10)=decide (b.toNat=10):=lQ b 10;have p:((b.toNat:Int)==13)=decide (b.toNat=13):=lQ b 13;have j:((b.toNat:Int) != 35)= !decide (b.toNat=35):=xe b 35;have w1:=f_ (i+1) (i+1:Nat);have k:kj b=(decide (b.toNat=32)||decide (b.toNat=9)||decide (b.toNat=10)||decide (b.toNat=13)):=rfl
  generalize q1:decide (b.toNat=32)=p1 at*
  generalize q2:decide (b.toNat=9)=p2 at*
  generalize q3:decide (b.toNat=10)=p3 at*
  generalize q4:decide (b.toNat=13)=p4 at*
  cases c:kj b with
  |true=>
   rw[aeG hb c] at a;rw[c] at k;cases p1<;>cases p2<;>cases p3<;>cases p4<;>(try(exact absurd k aA))
   all_goals
    simp only[go_sem,seval,ak,a0,a1,g,n,o,c2,m,p,w1];refine .inl ⟨trivial,d-1,aa,⟨i+1,aa,a,?_⟩,?_⟩
   all_goals simp[go_sem,a0]
  |false=>
   rw[c] at k;cases p1<;>cases p2<;>cases p3<;>cases p4<;>(try(exact absurd k aA))
   cases hq:decide (b.toNat=35) with
   |false=>rw[hq] at j;rw[UL hb c (by simpa using hq)] at a;subst a;simp only[go_sem,seval,ak,a0,a1,g,n,o,c2,m,p,j,Α];refine .inr ⟨ai,.inr ⟨rfl,?_⟩⟩;simp[go_sem]
   |true=>
    rw[hq] at j;have q:b.toNat=35:=by simpa using hq
    have y:ic b=true:=by simp[ic,q]
    rw[UK hb c q] at a;simp only[go_sem,seval,ak,a0,a1,g,n,o,c2,m,p,j,ω];have key:∀dJ:az,dJ 0=.str s->dJ 1=.i i->aD (aO aQ adP dJ H) λx f H'=>(x=.normal/\f 0=.str s/\f 1=.i (fl ic s i:Nat)):=by intro dJ u b1;refine zJ ?_;rw[gB];refine aT (lW (Sr s (fl ic s i)) (adQ s (fl ic s i)) (λd α H v=>akG w d α H v) (s.length-i) _ _ ⟨⟨i,aa,rfl,b1⟩,u⟩) ?_;rintro x gH H2 ⟨rfl,d0,l⟩;exact .inl ⟨.inr rfl,rfl,d0,l⟩
    refine Ae (key _ (by simp[go_sem,a0]) (by simp[go_sem,a1])) ?_;rintro x f H' ⟨rfl,d0,l⟩;simp only[go_sem];have t:=Hq ic s (i:=i+1) aa;have g2:=El ic s (i+1);rw[<-th hb y] at t g2;exact .inl ⟨trivial,s.length-fl ic s i,aa,⟨_,aa,a,l⟩,d0⟩
 ·have g:=bP ((i:Int)<(s.length:Int));rw[Vh aa] at a;subst a;simp only[go_sem,seval,ak,a0,a1,g];refine .inr ⟨ai,.inl ⟨rfl,?_⟩⟩;simp[go_sem,a1]
def avs(s:List UInt8)(i:Nat)(hi:i<=s.length)(f:s.length<=16384):aI prog (run aQ) 156 [.str s,.i i]=some (.i (bh s i:Nat)):=by
 refine fk (c:=.seq _ (.seq aCb K10)) rfl rfl func156 rfl (by rw[ntmps156];simp) (bW:=[.str s,.i i]) rfl rfl ?_ rfl;simp[go_sem,ak];refine jE (id:=0) ?_;rw[gB];refine aT (lW (TW s (bh s i)) (P10 (bh s i)) (λd α H b=>aqi f d α H b) (s.length-i) _ _ ⟨⟨i,aa,rfl,?_⟩,?_⟩) ?_
 case refine_3=>
  rintro e ae H' (⟨rfl,a1⟩|⟨rfl,a4⟩)
  ·refine .inl ⟨.inr rfl,?_⟩;have a:K10=.seq _ _:=rfl;rw[a];simp only[go_sem,seval,results156,a1];exact⟨_,rfl,rfl⟩
  ·refine .inr ⟨rfl,?_⟩;simp only[go_sem,seval,results156,a4];exact⟨_,rfl,rfl⟩
 all_goals(simp[go_sem];try rfl)
def lH(l:List UInt8):List AV:=l.map λb=>.int .u8 b.toNat
def G0(l:List UInt8):(lH l).length=l.length:=by simp[lH]
def ago(l)(c:UInt8):lH l++[.int .u8 c.toNat]=lH (l++[c]):=by simp[lH]
def X3:∀l:List UInt8,wE (lH l)=some l
 |[]=>rfl
 |b::l=>by have hb:=b.toNat_lt;show(if 0<=(b.toNat:Int)/\(b.toNat:Int)<256 then an (wE (lH l)) λl=>some (UInt8.ofNat ((b.toNat:Int)).toNat::l) else none)=_;rw[xh,X3 l];simp[an]
def bd(p:AV)(o:Ab.Own)(bs:List UInt8):bH:=.k 329 [p,.vec o (lH bs)]
def Bd(m:Nat)(L:List (Nat×bH))(b:Nat)(bs:List UInt8):Prop:=
 b<m/\((bs=[]/\cq L b=some (bd (.val (.pointer none)) .nil []))\/(bs≠[]/\∃j,j<m/\j≠b/\cq L b=some (bd (.ptr b 0) (.own j) bs)/\cq L j=some (.bB bs.length 5)))
def Ik:eW prog 327=some 5:=af
def LW:bF prog 5=some 1:=af
def by5:jN prog 5=some 1:=af
def Q_:dq prog 5=some [.int .u8 0]:=af
def Ra:bF prog 327=some 1:=af
def avt:cu prog 327=some false:=af
def adR:cu prog 5=some false:=af
def azf(cs)(off):iM prog 327 cs off=cs[off]? :=kW avt cs off
def ahy:hC prog 329=some [(0,326),(1,327)]:=af
def aqj:dq prog 329=some [.val (.pointer none),.vec .nil []]:=af
def aqk(n k):cr prog 329 1 (.ptr n k)=some (.ptr n (k+1)):=by simp[cr,ahy,Ra]
def azg(x)(H):dS prog 327 1 [(0,.int .u8 x)] H=some (.vec .full [.int .u8 x],H):=by simp[dS,Ik,LW,Q_,mH,fF,lZ,eE,AV.erase,AV.width,AV.cells,AV.one,sD]
def ao(t1 t2)(x y)(H):cQ aQ.eX prog [t1,t2] [x,y] H=cj (λ_=>false) prog t1 t2 x y H:=(rfl)
def Hl(l):ow prog 327 (lH l)=true:=by cases l<;>simp[ow,Ik,LW,lH,AV.width]
def avu(x:UInt8)(m)(L):cj (λ_=>false) prog 327 327 (.vec .nil []) (.vec .full [.int .u8 x.toNat]) ⟨m,L⟩=some (.vec (.own m) (lH [x]),⟨m+1,(m,.bB 1 5)::L⟩):=by have a:=Hl [x];have b:=Hl [];simp[lH] at a b;simp[cj,Ik,LW,by5,Q_,jt,lC,a,b,ab.push,lH]
def avv(l:List UInt8)(x:UInt8){m j}{L}(b:j<m)(hg:cq L j=some (.bB l.length 5))(hb:l.length<=16384):cj (λ_=>false) prog 327 327 (.vec (.own j) (lH l)) (.vec .full [.int .u8 x.toNat]) ⟨m,L⟩=some (.vec (.own j) (lH (l++[x])),⟨m,aH L j (.bB (l.length+1) 5)⟩):=by
 have a:ow prog 327 [.int .u8 x.toNat]=true:=Hl [x];have c:(lH l).length+1<=140737488355328:=by rw[G0];omega
 have d:(lH l).length+1<=9223372036854775807:=by rw[G0];omega
 simp[cj,Ik,LW,by5,Q_,jt,lC,Hl,a,c,d,ago l x,ab.get,ab.set,b,hg]
 rw[G0 l] at*
 simp
def call228:=wJ aQ 258 rfl rfl
def call147:=wJ aQ 238 rfl rfl
def call109:=wJ aQ 239 rfl rfl
attribute [go_sem] azf aqk azg ao call228 call147 call109
def afs{m b}{L}(hb:b<m)(hg:cq L b=some (bd (.val (.pointer none)) .nil [])):run aQ 258 [.ptr b 0] ⟨m,L⟩=some (.tup [],⟨m,aH L b (bd (.ptr b 0) .nil [])⟩):=by rw[zS rfl];show qJ 258 _ _=_;simp[qJ,bQ,tQ,ab.get,hb,hg,bd,ES,ab.set]
def agp{m b}{L}{o}{bs}(hb:b<m)(hg:cq L b=some (bd (.ptr b 0) o bs)):run aQ 258 [.ptr b 0] ⟨m,L⟩=some (.tup [],⟨m,L⟩):=by rw[zS rfl];show qJ 258 _ _=_;simp[qJ,bQ,tQ,ab.get,hb,hg,bd,ES,Iy]
def aab{m b}{L}{bs:List UInt8}(h:Bd m L b bs)(c:UInt8)(t:bs.length<=16384):∃m' r,run aQ 238 [.ptr b 0,.int .u8 c.toNat] ⟨m,L⟩=some (.val .nilIface,⟨m',r⟩)/\Bd m' r b (bs++[c]):=by
 obtain⟨a,h⟩:=h;rcases h with⟨rfl,hg⟩|⟨aL,j,s,l,hg,q⟩
 ·have k:=afs a hg;have i:(b<m)=True:=υ a;have p:cq (aH L b (bd (.ptr b 0) .nil [])) b=some (bd (.ptr b 0) .nil []):=by rw[bg,ν rfl,hg];rfl
  have n:e_ (aH L b (bd (.ptr b 0) .nil [])) b=some [.ptr b 0,.vec .nil []]:=by rw[e_,p];rfl
  have o:=avu c m (aH L b (bd (.ptr b 0) .nil []));have f:∀d,cq d b=some (bd (.ptr b 0) .nil [])->tG prog 327 (.ptr b 1) (.vec (.own m) (lH [c])) ⟨m+1,(m,.bB 1 5)::d⟩=some (hM,⟨m+1,(m,.bB 1 5)::aH d b (bd (.ptr b 0) (.own m) [c])⟩):=by intro d g;rw[G6,xh,MA,bV];simp[e_,g,an,Ra,AV.width,AV.cells,eE,AV.one,br,show m≠b by omega,bd,CH,eD,tj]
  have e:=f _ p;rw[gh] at e;refine⟨m+1,(m,.bB 1 5)::aH L b (bd (.ptr b 0) (.own m) [c]),qY (c:=.seq _ (.seq _ (.seq _ (.seq _ _)))) rfl rfl func238 rfl (by rw[ntmps238];simp) ?_,?_⟩
  ·simp[go_sem,ak,k,o,e,i,n,results238];try rfl
  ·refine⟨aa,.inr ⟨ai,m,aa,aa,?_,?_⟩⟩
   ·rw[br,bV,bg,ν rfl,hg];rfl
   ·rw[br,ν rfl];rfl
 ·have k:=agp a hg;have i:(b<m)=True:=υ a;have n:e_ L b=some [.ptr b 0,.vec (.own j) (lH bs)]:=by simp[e_,hg,bd]
  have o:=avv bs c s q t;have g2:cq (aH L j (.bB (bs.length+1) 5)) b=some (bd (.ptr b 0) (.own j) bs):=by rw[bg,κ l];exact hg
  have e:tG prog 327 (.ptr b 1) (.vec (.own j) (lH (bs++[c]))) ⟨m,aH L j (.bB (bs.length+1) 5)⟩=some (hM,⟨m,aH (aH L j (.bB (bs.length+1) 5)) b (bd (.ptr b 0) (.own j) (bs++[c]))⟩):=by rw[G6,ν a];simp[e_,g2,bd,an,Ra,AV.width,AV.cells,eE,AV.one,CH,eD]
  refine⟨m,aH (aH L j (.bB (bs.length+1) 5)) b (bd (.ptr b 0) (.own j) (bs++[c])),qY (c:=.seq _ (.seq _ (.seq _ (.seq _ _)))) rfl rfl func238 rfl (by rw[ntmps238];simp) ?_,?_⟩
  ·simp[go_sem,ak,k,o,e,i,n,results238];try rfl
  ·refine⟨a,.inr ⟨ai,j,s,l,?_,?_⟩⟩
   ·rw[bg,ν rfl,g2];rfl
   ·rw[bg,κ (λh=>l h.symm),bg,ν rfl,q];simp
def akH{m b}{L}{bs}(h:Bd m L b bs):∃H',run aQ 239 [.ptr b 0] ⟨m,L⟩=some (.str bs,H'):=by
 obtain⟨a,h⟩:=h;rw[zS rfl];show ∃H',qJ 239 _ _=_;rcases h with⟨rfl,hg⟩|⟨c,j,g,LX,hg,d⟩
 ·exact⟨_,by simp[qJ,bQ,tQ,wt,ab.get,a,hg,bd,lH];rfl⟩
 ·have e:=X3 bs;have f:bs.length≠0:=λi=>c (Ψ.1 i);exact⟨_,by simp[qJ,bQ,tQ,wt,ab.get,a,hg,bd,g,d,G0 bs,f,e,an];rfl⟩
def ltI(b:UInt8)(n):decide ((b.toNat:Int)<((n:Nat):Int))=decide (b.toNat<n):=by rw[aD0,aDs,aDs];omega
def ez(a b):(((a:Nat):Int)==((b:Nat):Int))=decide (a=b):=by rw[aD0,aEh,aDs];omega
def yM(d:UInt8):Int:=if d.toNat=110 then 0 else if d.toNat=116 then 1 else if d.toNat=34 then 2 else if d.toNat=92 then 3 else-1
noncomputable def aCc:Bool:=(List.range 256).all λn=>match aI prog (eI aQ 30) 237 [.str [110,116,34,92],.int .u8 (n:Nat)] with
 |some (.int .i64 x)=>decide (x=yM (UInt8.ofNat n))
 |_=>false
def akI(b:UInt8):aI prog (run aQ) 237 [.str [110,116,34,92],.int .u8 b.toNat]=some (.i (yM b)):=by
 have h:aCc=true:=af;have a:=aDn.1 h b.toNat (aDU.2 b.toNat_lt);revert a
 cases hc:aI prog (eI aQ 30) 237 [.str [110,116,34,92],.int .u8 b.toNat] with
 |none=>intro a;cases a
 |some v=>
  cases v<;>intro a<;>try(cases a;done)
  rename_i k x;cases k<;>try(cases a;done)
  simp[aFG] at a;rw[<-a];exact Aj 30 hc
def akJ{d}(h:kA d=none):yM d= -1:=by
 unfold kA at h;unfold yM;repeat' split at h
 all_goals first|(cases h;done)|(simp_all)
def akK{d e:UInt8}(h:kA d=some e):decide (yM d<0)=false/\ni prog 9 (.str [10,9,34,92]) (.i (yM d))=some (.int .u8 e.toNat):=by
 unfold kA at h;unfold yM;split at h
 ·cases h;rename_i a;rw[ν a];exact⟨rfl,jf (i:=0) rfl⟩
 ·rename_i a;split at h
  ·cases h;rename_i b;rw[κ a,ν b];exact⟨rfl,jf (i:=1) rfl⟩
  ·rename_i b;split at h
   ·cases h;rename_i c;rw[κ a,κ b,ν c];exact⟨rfl,jf (i:=2) rfl⟩
   ·rename_i c;split at h
    ·cases h;rename_i f;rw[κ a,κ b,κ c,ν f];exact⟨rfl,jf (i:=3) rfl⟩
    ·cases h
def call106:=lJ aQ prog 237 rfl rfl
def azh(m)(L):sB prog 329 ⟨m,L⟩=some (.ptr m 0,⟨m+1,(m,bd (.val (.pointer none)) .nil [])::L⟩):=by simp[sB,aqj,ab.push,bd,lH]
attribute [go_sem] call106 azh
def rest(s:List UInt8)(i:Nat):List UInt8:=(s.take (s.length-1)).drop i
def M8{s:List UInt8}{i}{c}(hi:i<s.length-1)(h:s[i]? =some c):rest s i=c::rest s (i+1):=by unfold rest;exact ke (by rw[Υ hi];exact h)
def X4{s:List UInt8}{i}(hi:s.length-1<=i):rest s i=[]:=by unfold rest;exact aDk (by rw[aDx];omega)
noncomputable def TX:=f217.c.r.r.r.l.r.b.b
noncomputable def aCd:Code:=.block 0 (.loop TX)
noncomputable def K82:=f217.c.r.r.r.r
structure TY(s:List UInt8)(d:Nat)(α:az)(H:ab):Prop where
 ex:∃(i m:Nat) (L:List (Nat×bH)) (out:List UInt8),i+d=s.length-1/\out.length<=i/\pre out (ig (rest s i))=ig (rest s 1)/\H=⟨m,L⟩/\Bd m L 0 out/\α 5=.i i
 a0:α 0=.str s
 a4:α 4=.ptr 0 0
def P82(s:List UInt8)(e:Ex)(α:az)(H:ab):Prop:=
 (e=.exit 0/\α 4=.ptr 0 0/\∃(m:Nat) (L:List (Nat×bH)) (out:List UInt8),H=⟨m,L⟩/\Bd m L 0 out/\ig (rest s 1)=some out)\/(e=.ret/\ig (rest s 1)=none/\α 2=.str []/\α 3=.i 22)
def aql{s:List UInt8}(hn:s.length<=16384)(d:Nat)(α:az)(H:ab)(h:TY s d α H):
  aD (aP aQ (run aQ) aJ TX α H) λx B H'=>(x=.normal/\∃D,D<d/\TY s D B H')\/(x≠.normal/\P82 s x B H'):=by
 obtain⟨⟨i,m,L,out,hd,ho,k,rfl,y,a5⟩,a0,a4⟩:=h;have I:TX=.seq (.seq _ _) (.seq (.block _ (.block _ (.seq _ _))) _):=rfl;rw[I];have b:s.length≠0->IntKind.i64.wrap ((s.length:Int)-1)=((s.length-1:Nat):Int):=λh=>by rw[aDH _ (by omega)];omega
 by_cases hi:i<s.length-1
 ·have b:=b (by omega);have g:decide ((i:Int)<((s.length-1:Nat):Int))=true:=π (by omega);obtain⟨c,F⟩:=get_some (s:=s) (i:=i) (by omega);have n:=jf F;have f:((c.toNat:Int)==92)=decide (c.toNat=92):=lQ c 92;have w1:IntKind.i64.wrap ((i:Int)+1)=((i+1:Nat):Int):=by rw[aDH _ (by omega)];omega
  rw[M8 hi F] at k
  cases hq:decide (c.toNat=92) with
  |true=>
   rw[hq] at f;have l:c.toNat=92:=by simpa using hq
   obtain⟨x,o⟩:=get_some (s:=s) (i:=i+1) (by omega);have w:=jf o;have t:=akI x;have J:IntKind.i64.wrap (((i+1:Nat):Int)+1)=((i+2:Nat):Int):=by rw[aDH _ (by omega)];omega
   have bad:(kA x=none\/i+1=s.length-1)->ig (rest s 1)=none:=by
    intro hb;rw[<-k];by_cases j:i+1<s.length-1
    ·rw[M8 j o,WU l (by rcases hb with hb|hb;exact hb;omega)];rfl
    ·rw[X4 (by omega),WS l];rfl
   cases he:kA x with
   |none=>
    have p:decide (yM x<0)=true:=by rw[akJ he];rfl
    simp only[go_sem,seval,ak,a0,a5,g,n,w,t,f,b,w1,p];refine .inr ⟨by simp,.inr ⟨rfl,bad (.inl he),?_,?_⟩⟩;all_goals simp[go_sem]
   |some e=>
    obtain⟨p,G⟩:=akK he;have a:(((i+1:Nat):Int)==((s.length-1:Nat):Int))=decide (i+1=s.length-1):=ez _ _
    cases j:decide (i+1=s.length-1) with
    |true=>
     rw[j] at a;simp only[go_sem,seval,ak,a0,a5,g,n,w,t,f,b,w1,p,a];refine .inr ⟨by simp,.inr ⟨rfl,bad (.inr (by simpa using j)),?_,?_⟩⟩;all_goals simp[go_sem]
    |false=>
     rw[j] at a;have j:i+1≠s.length-1:=by simpa using j
     obtain⟨m',r,u,v⟩:=aab y e (by omega);simp only[go_sem,seval,ak,a0,a4,a5,g,n,w,t,G,f,b,w1,J,p,a,u];refine .inl ⟨trivial,d-2,by omega,⟨i+2,m',r,out++[e],by omega,by simp;omega,?_,rfl,v,?_⟩,?_,?_⟩
     ·rw[<-k,M8 (i:=i+1) (by omega) o,WT l he]
     all_goals simp[go_sem,a0,a4]
  |false=>
   rw[hq] at f;have l:c.toNat≠92:=by simpa using hq
   have c2:decide ((c.toNat:Int)<32)=decide (c.toNat<32):=ltI c 32;have a:((c.toNat:Int)==34)=decide (c.toNat=34):=lQ c 34;by_cases C:c.toNat<32\/c.toNat=34
   ·have E:ig (rest s 1)=none:=by rw[<-k,WV l C];rfl
    by_cases A:c.toNat<32
    ·rw[π A] at c2;simp only[go_sem,seval,ak,a0,a5,g,n,f,c2,b];refine .inr ⟨by simp,.inr ⟨rfl,E,?_,?_⟩⟩;all_goals simp[go_sem]
    ·rw[ξ A] at c2;rw[π (show c.toNat=34 by omega)] at a;simp only[go_sem,seval,ak,a0,a5,g,n,f,c2,a,b];refine .inr ⟨by simp,.inr ⟨rfl,E,?_,?_⟩⟩;all_goals simp[go_sem]
   ·rw[ξ (show ¬c.toNat<32 by omega)] at c2;rw[ξ (show ¬c.toNat=34 by omega)] at a;obtain⟨m',r,u,v⟩:=aab y c (by omega);simp only[go_sem,seval,ak,a0,a4,a5,g,n,f,c2,a,b,w1,u];refine .inl ⟨trivial,d-1,by omega,⟨i+1,m',r,out++[c],by omega,by simp;omega,?_,rfl,v,?_⟩,?_,?_⟩
    ·rw[<-k,VS l C]
    all_goals simp[go_sem,a0,a4]
 ·have o:∃z,IntKind.i64.wrap ((s.length:Int)-1)=z/\decide ((i:Int)<z)=false:=by
   by_cases q:s.length=0
   ·exact⟨_,rfl,by rw[q,aDH _ (by omega)];exact ξ (by omega)⟩
   ·exact⟨_,b q,ξ (by omega)⟩
  obtain⟨z,q,g⟩:=o;simp only[go_sem,seval,ak,a0,a5,g,q];refine .inr ⟨by simp,.inl ⟨rfl,?_,m,L,out,rfl,y,?_⟩⟩
  ·simp[go_sem,a4]
  ·rw[<-k,X4 (by omega),WR,pre_some,aDi]
def G1{s:List UInt8}(h:¬(s.length<2\/s.head?≠some 34\/s[s.length-1]?≠some 34)):wu s=ig (rest s 1):=by rw[wu,κ h];rfl
def VD{s:List UInt8}(h:s.length<2\/s.head?≠some 34\/s[s.length-1]?≠some 34):wu s=none:=by rw[wu,ν h]
def pv(s:List UInt8):AV:=.tup [.str ((wu s).getD []),.i (if(wu s).isSome=true then 0 else 22)]
def aac(s:List UInt8)(hn:s.length<=16384):(s.length<2/\decide ((s.length:Int)<2)=true)\/(∃a z:UInt8,2<=s.length/\decide ((s.length:Int)<2)=false/\s[0]? =some a/\s[s.length-1]? =some z/\IntKind.i64.wrap ((s.length:Int)-1)=((s.length-1:Nat):Int)/\
  ((s.head?≠some 34\/s[s.length-1]?≠some 34)↔(a.toNat≠34\/z.toNat≠34))):=by
 by_cases h:s.length<2
 ·exact .inl ⟨h,π (by omega)⟩
 ·obtain⟨a,c⟩:=get_some (s:=s) (i:=0) (by omega);obtain⟨z,d⟩:=get_some (s:=s) (i:=s.length-1) (by omega);have e:∀x:UInt8,(some x≠some 34)↔x.toNat≠34:=λx=>by rw[ne_eq,Ζ];exact⟨λh b=>h (aEx.1 b),λh b=>h (by rw[b];rfl)⟩
  refine .inr ⟨a,z,by omega,ξ (by omega),c,d,by rw[aDH _ (by omega)];omega,?_⟩;rw[d,aFi,c,e,e]
def ahz(s:List UInt8)(u:s.length<=16384):aI prog (run aQ) 217 [.str s]=some (pv s):=by
 refine fk (c:=.seq _ (.seq (.seq _ _) (.seq _ (.seq (.seq _ aCd) K82)))) rfl rfl func217 rfl (by rw[ntmps217];simp) (bW:=[.str s]) rfl rfl ?_ rfl;have b:s.length<2\/s.head?≠some 34\/s[s.length-1]?≠some 34->pv s=.tup [.str [],.i 22]:=λh=>by rw[pv,VD h];rfl
 rcases aac s u with⟨q,g⟩|⟨a,z,q,g,B,w,w1,k⟩
 ·rw[b (.inl q)];simp only[go_sem,seval,ak,g,results217];exact⟨_,rfl,rfl⟩
 ·have p:ni prog 9 (.str s) (.i 0)=some (.int .u8 a.toNat):=jf B;have t:=jf w;have f:((a.toNat:Int) != 34)= !decide (a.toNat=34):=xe a 34;have c2:((z.toNat:Int) != 34)= !decide (z.toNat=34):=xe z 34;by_cases j:a.toNat=34
  ·rw[π j] at f;by_cases l:z.toNat=34
   ·rw[π l] at c2;have r:¬(s.length<2\/s.head?≠some 34\/s[s.length-1]?≠some 34):=by rw[k];omega
    simp[go_sem,ak,g,p,t,f,c2,w1,ω];refine jE (id:=0) ?_;rw[gB];refine aT (lW (TY s) (P82 s) (λd α H x=>aql u d α H x) (s.length-2) _ _ ⟨⟨1,1,_,[],aa,ai,pre_nil _,rfl,⟨aa,.inl ⟨rfl,rfl⟩⟩,?_⟩,?_,?_⟩) ?_
    case refine_4=>
     rintro e ae H' (⟨rfl,a4,m,L,out,rfl,A,n⟩|⟨rfl,n,a2,a3⟩)
     ·refine .inl ⟨.inr rfl,?_⟩;have v:K82=.seq _ _:=rfl;rw[v];obtain⟨H',y⟩:=akH A;have o:pv s=.tup [.str out,.i 0]:=by rw[pv,G1 r,n];rfl
      rw[o];simp only[go_sem,seval,a4,y,results217];exact⟨_,rfl,rfl⟩
     ·refine .inr ⟨rfl,?_⟩;have o:pv s=.tup [.str [],.i 22]:=by rw[pv,G1 r,n];rfl
      rw[o];simp only[go_sem,seval,a2,a3,results217];exact⟨_,rfl,rfl⟩
    all_goals(simp[go_sem];try rfl)
   ·rw[ξ l] at c2;rw[b (.inr (k.2 (.inr l)))];simp only[go_sem,seval,ak,g,p,t,f,c2,w1,ω,Α,results217];exact⟨_,rfl,rfl⟩
  ·rw[ξ j] at f;rw[b (.inr (k.2 (.inl j)))];simp only[go_sem,seval,ak,g,p,f,Α,results217];exact⟨_,rfl,rfl⟩
def akL{a:List UInt8}(h:a.length<=16384)(x):jS .add a [x]=some (.str (a++[x])):=by have:a.length+1<=9223372036854775807:=aa;simp[jS,this]
noncomputable def zz:=f197.c.r.r.r.r.r.l.b.b
noncomputable def aCe:Code:=.block 0 (.loop zz)
noncomputable def K19:=f197.c.r.r.r.r.r.r
structure TZ(u:Option (List UInt8))(d:Nat)(α:az)(H:ab):Prop where
 ex:∃(r out:List UInt8),r.length=d/\out.length+d<=16384/\pre out (ig r)=u/\α 6=.str r/\α 5=.str out
def P19(u:Option (List UInt8))(e:Ex)(α:az)(H:ab):Prop:=
 (e=.exit 0/\∃out,u=some out/\α 5=.str out)\/(e=.ret/\u=none/\α 2=.str []/\α 3=.i 22)
def aqm{u}(d:Nat)(hn:d<=16384)(α:az)(H:ab)(h:TZ u d α H):
  aD (aO aQ zz α H) λx G H'=>(x=.normal/\∃I,I<d/\TZ u I G H')\/(x≠.normal/\P19 u x G H'):=by
 obtain⟨r,out,E,gW,o,a6,a5⟩:=h;have v:=λx=>akL (a:=out) aa x;have L:zz=.seq (.seq _ _) (.block _ (.seq _ (.seq (.seq _ _) (.seq (.seq _ _) (.seq (.seq _ _) (.seq (.seq _ (.block _ (.seq _ _))) _)))))):=rfl;rw[L]
 cases r with
 |nil=>
  have g:decide ((([]:List UInt8).length:Int)>0)=false:=rfl;simp only[go_sem,seval,ak,a6,g];refine .inr ⟨ai,.inl ⟨rfl,out,?_,?_⟩⟩
  ·rw[<-o,WR,pre_some,aDi]
  ·simp only[go_sem,seval,a5]
 |cons c t=>
  simp at E;have g:=bJ (((t.length+1:Nat):Int)>0);have l:ni prog 9 (.str (c::t)) (.i 0)=some (.int .u8 c.toNat):=jf (i:=0) rfl;have f:decide ((c.toNat:Int)<32)=decide (c.toNat<32):=ltI c 32;have c2:((c.toNat:Int)==34)=decide (c.toNat=34):=lQ c 34;have k:((c.toNat:Int) != 92)= !decide (c.toNat=92):=xe c 92;by_cases J:c.toNat<32\/c.toNat=34
  ·have p:u=none:=by rw[<-o,WV aa J];rfl
   by_cases F:c.toNat<32
   ·rw[π F] at f;simp only[go_sem,seval,ak,a6,g,l,f];refine .inr ⟨ai,.inr ⟨rfl,p,?_,?_⟩⟩;all_goals simp only[go_sem,seval]
   ·rw[ξ F] at f;rw[π (show c.toNat=34 by omega)] at c2;simp only[go_sem,seval,ak,a6,g,l,f,c2];refine .inr ⟨ai,.inr ⟨rfl,p,?_,?_⟩⟩;all_goals simp only[go_sem,seval]
  ·rw[ξ (show ¬c.toNat<32 by omega)] at f;rw[ξ (show ¬c.toNat=34 by omega)] at c2;by_cases n:c.toNat=92
   ·rw[π n] at k
    cases t with
    |nil=>
     have m:decide ((([c]:List UInt8).length:Int)<2)=true:=rfl;have p:u=none:=by rw[<-o,WS n];rfl
     simp only[go_sem,seval,ak,a6,g,l,f,c2,k,m,ω];refine .inr ⟨ai,.inr ⟨rfl,p,?_,?_⟩⟩;all_goals simp only[go_sem,seval]
    |cons x t=>
     simp at E;rw[Ι] at g;have m:=bP (((t.length+1+1:Nat):Int)<2);have w:ni prog 9 (.str (c::x::t)) (.i 1)=some (.int .u8 x.toNat):=jf (i:=1) rfl;have q:jT prog 9 (some (.i 2)) none (.str (c::x::t))=some (.str t):=Kc (c::x::t) (a:=2) ai;have k1:((x.toNat:Int)==110)=decide (x.toNat=110):=lQ x 110;have k2:((x.toNat:Int)==116)=decide (x.toNat=116):=lQ x 116;have s:((x.toNat:Int)==34)=decide (x.toNat=34):=lQ x 34;have C:((x.toNat:Int)==92)=decide (x.toNat=92):=lQ x 92;have B:∀e,kA x=some e->pre (out++[e]) (ig t)=u:=λe j=>by rw[<-o,WT n j]
     by_cases y:x.toNat=110
     ·have j:kA x=some 10:=by simp[kA,y]
      rw[π y] at k1;simp only[go_sem,seval,ak,a5,a6,g,l,f,c2,k,m,w,q,k1,v,ω];refine .inl ⟨trivial,t.length,aa,⟨t,out++[10],rfl,aX,B _ j,?_,?_⟩⟩;all_goals simp only[go_sem,seval]
     ·rw[ξ y] at k1;by_cases D:x.toNat=116
      ·have j:kA x=some 9:=by simp[kA,D]
       rw[π D] at k2;simp only[go_sem,seval,ak,a5,a6,g,l,f,c2,k,m,w,q,k1,k2,v,ω];refine .inl ⟨trivial,t.length,aa,⟨t,out++[9],rfl,aX,B _ j,?_,?_⟩⟩;all_goals simp only[go_sem,seval]
      ·rw[ξ D] at k2;by_cases z:x.toNat=34
       ·have j:kA x=some 34:=by simp[kA,z]
        rw[π z] at s;simp only[go_sem,seval,ak,a5,a6,g,l,f,c2,k,m,w,q,k1,k2,s,v,ω];refine .inl ⟨trivial,t.length,aa,⟨t,out++[34],rfl,aX,B _ j,?_,?_⟩⟩;all_goals simp only[go_sem,seval]
       ·rw[ξ z] at s;by_cases A:x.toNat=92
        ·have j:kA x=some 92:=by simp[kA,A]
         rw[π A] at C;simp only[go_sem,seval,ak,a5,a6,g,l,f,c2,k,m,w,q,k1,k2,s,C,v,ω];refine .inl ⟨trivial,t.length,aa,⟨t,out++[92],rfl,aX,B _ j,?_,?_⟩⟩;all_goals simp only[go_sem,seval]
        ·rw[ξ A] at C;have j:kA x=none:=by simp[kA,y,D,z,A]
         have p:u=none:=by rw[<-o,WU n j];rfl
         simp only[go_sem,seval,ak,a6,g,l,f,c2,k,m,w,k1,k2,s,C,ω];refine .inr ⟨ai,.inr ⟨rfl,p,?_,?_⟩⟩;all_goals simp only[go_sem,seval]
   ·rw[ξ n] at k;have K:jT prog 9 none (some (.i 1)) (.str (c::t))=some (.str [c]):=adO (c::t) (b:=1) ai;have q:jT prog 9 (some (.i 1)) none (.str (c::t))=some (.str t):=Kc (c::t) (a:=1) ai;simp only[go_sem,seval,ak,a5,a6,g,l,f,c2,k,K,q,v,Α];refine .inl ⟨trivial,t.length,aa,⟨t,out++[c],rfl,aX,by rw[<-o,VS n J],?_,?_⟩⟩;all_goals simp only[go_sem,seval]
def ahA(s:List UInt8)(E:s.length<=16384):aI prog (run aQ) 197 [.str s]=some (pv s):=by
 refine fk (c:=.seq _ (.seq _ (.seq (.seq _ _) (.seq _ (.seq _ (.seq aCe K19)))))) rfl rfl func197 rfl (by rw[ntmps197];simp) (bW:=[.str s]) rfl rfl ?_ rfl;have f:s.length<2\/s.head?≠some 34\/s[s.length-1]?≠some 34->pv s=.tup [.str [],.i 22]:=λh=>by rw[pv,VD h];rfl
 rcases aac s E with⟨k,j⟩|⟨a,z,k,j,F,B,w1,m⟩
 ·rw[f (.inl k)];simp only[go_sem,seval,ak,j,results197];exact⟨_,rfl,rfl⟩
 ·have r:ni prog 9 (.str s) (.i 0)=some (.int .u8 a.toNat):=jf F;have u:=jf B;have g:((a.toNat:Int) != 34)= !decide (a.toNat=34):=xe a 34;have c2:((z.toNat:Int) != 34)= !decide (z.toNat=34):=xe z 34;by_cases l:a.toNat=34
  ·rw[π l] at g;by_cases n:z.toNat=34
   ·rw[π n] at c2;have t:¬(s.length<2\/s.head?≠some 34\/s[s.length-1]?≠some 34):=by rw[m];omega
    have x:jT prog 9 (some (.i 1)) (some (.i (s.length-1:Nat))) (.str s)=some (.str (rest s 1)):=xI s (a:=1) (b:=s.length-1) aa aa;simp[go_sem,ak,j,r,u,g,c2,w1,x,ω];refine jE (id:=0) ?_;rw[gB];have v:(rest s 1).length<=16384:=by unfold rest;simp;omega
    refine aT (lW (λd α H=>d<=16384/\TZ (ig (rest s 1)) d α H) (P19 (ig (rest s 1))) (λd α H o=>aT (aqm d o.1 α H o.2) ?_) (rest s 1).length _ _ ⟨v,⟨rest s 1,[],rfl,by simpa using v,pre_nil _,?_,?_⟩⟩) ?_
    case refine_1=>
     rintro e y H' (⟨k,C,w,D⟩|h)
     ·exact .inl ⟨k,C,w,by have:=o.1;omega,D⟩
     ·exact .inr h
    case refine_4=>
     rintro e y H' (⟨rfl,out,p,a5⟩|⟨rfl,p,a2,a3⟩)
     ·refine .inl ⟨.inr rfl,?_⟩;have A:K19=.seq _ _:=rfl;rw[A];have q:pv s=.tup [.str out,.i 0]:=by rw[pv,G1 t,p];rfl
      rw[q];simp only[go_sem,seval,a5,results197];exact⟨_,rfl,rfl⟩
     ·refine .inr ⟨rfl,?_⟩;have q:pv s=.tup [.str [],.i 22]:=by rw[pv,G1 t,p];rfl
      rw[q];simp only[go_sem,seval,a2,a3,results197];exact⟨_,rfl,rfl⟩
    all_goals(simp[go_sem];try rfl)
   ·rw[ξ n] at c2;rw[f (.inr (m.2 (.inr n)))];simp only[go_sem,seval,ak,j,r,u,g,c2,w1,ω,Α,results197];exact⟨_,rfl,rfl⟩
  ·rw[ξ l] at g;rw[f (.inr (m.2 (.inl l)))];simp only[go_sem,seval,ak,j,r,g,Α,results197];exact⟨_,rfl,rfl⟩
def call82:=lJ aQ prog 217 rfl rfl
attribute [go_sem] call82
noncomputable def T0:=f178.c.r.r.l.r.b.b
noncomputable def aCf:Code:=.block 0 (.loop T0)
noncomputable def K79:=f178.c.r.r.r
def Ke(s:List UInt8)(i:Nat)(t:List UInt8)(j:Nat)(e:Int):Prop:=
 (jv s (i+1)=none/\e=22)\/(jv s (i+1)=some j/\t=(s.take j).drop i/\e=if(wu t).isSome=true then 0 else 22)
structure T1(s:List UInt8)(i k m:Nat)(L:List (Nat×bH))(d:Nat)(α:az)(H:ab):Prop where
 ex:∃j,j+d=s.length+1/\i+1<=j/\jv s j=jv s (i+1)/\H=⟨m,aH L k (sc s j)⟩
 a0:α 0=.ptr k 0
 a4:α 4=.i i
def P79(s:List UInt8)(i k m:Nat)(L:List (Nat×bH))(x:Ex)(α:az)(H:ab):Prop:=
 ∃j,H=⟨m,aH L k (sc s j)⟩/\((x=.exit 0/\jv s (i+1)=none)\/(x=.ret/\∃t e,Ke s i t j e/\α 2=.str t/\α 3=.i e))
def aqn{m}{L}{k}{s:List UInt8}{i i0}(w:Sc m L k s i0)(hn:s.length<=16384)(d:Nat)(α:az)(H:ab)(h:T1 s i k m L d α H):
  aD (aO aQ T0 α H) λx y H'=>(x=.normal/\∃A,A<d/\T1 s i k m L A y H')\/(x≠.normal/\P79 s i k m L x y H'):=by
 obtain⟨⟨j,hd,r9,n,rfl⟩,a0,a4⟩:=h;have F:T0=.seq (.seq _ _) (.seq (.block _ (.seq _ (.block _ (.seq _ _)))) _):=rfl;rw[F];have g:(k<m)=True:=υ w.1;have B:=w.set j;have o:=B.cells;by_cases E:j<s.length
 ·have e:=bJ ((j:Int)<(s.length:Int));obtain⟨b,hb⟩:=get_some E;have u:=jf hb;have c:((b.toNat:Int)==34)=decide (b.toNat=34):=lQ b 34;have c2:((b.toNat:Int)==92)=decide (b.toNat=92):=lQ b 92;have r:((b.toNat:Int)==10)=decide (b.toNat=10):=lQ b 10;have w1:=f_ (j+1) (j+1:Nat);have G:=f_ (((j+1:Nat):Int)+1) (j+2:Nat);have t:=B.store (j+1);rw[gh] at t;have C:=w.set (j+1);have z:=C.cells;have f:=C.store (j+2);rw[gh] at f;by_cases p:b.toNat=34
  ·rw[π p] at c;have l:=UM hb p;rw[n] at l;have D:=ahz ((s.take (j+1)).drop i) aX;simp only[go_sem,seval,ak,a0,a4,e,u,c,w1,t,g,o,z,(xI s (a:=i) (b:=j+1) aa aa),D,pv,iz];refine .inr ⟨ai,j+1,rfl,.inr ⟨rfl,_,_,.inr ⟨l,rfl,rfl⟩,?_,?_⟩⟩;all_goals simp[go_sem]
  ·rw[ξ p] at c;by_cases v:b.toNat=92
   ·rw[π v] at c2;simp only[go_sem,seval,ak,a0,e,u,c,c2,w1,G,t,f,g,o,z];refine .inl ⟨trivial,d-2,aa,⟨j+2,aa,aa,by rw[<-n,VT hb v],rfl⟩,?_,?_⟩;all_goals simp[go_sem,a0,a4]
   ·rw[ξ v] at c2;by_cases q:b.toNat=10
    ·rw[π q] at r;have l:=WW hb q;rw[n] at l;simp only[go_sem,seval,ak,a0,e,u,c,c2,r,g,o];refine .inr ⟨ai,j,rfl,.inr ⟨rfl,[],22,.inl ⟨l,rfl⟩,?_,?_⟩⟩;all_goals simp[go_sem]
    ·rw[ξ q] at r;simp only[go_sem,seval,ak,a0,e,u,c,c2,r,w1,t,g,o];refine .inl ⟨trivial,d-1,aa,⟨j+1,aa,aa,by rw[<-n,UN hb p q v],rfl⟩,?_,?_⟩;all_goals simp[go_sem,a0,a4]
 ·have e:=bP ((j:Int)<(s.length:Int));simp only[go_sem,seval,ak,a0,e,g,o];exact .inr ⟨ai,j,rfl,.inl ⟨rfl,by rw[<-n,MY aa]⟩⟩
def azi{m}{L:List (Nat×bH)}{k:Nat}{s:List UInt8}{i:Nat}(h:Sc m L k s i)(hi:i<s.length)(n:s.length<=16384):
  ∃t j e,run aQ 178 [.ptr k 0] ⟨m,L⟩=some (.tup [.str t,.i e],⟨m,aH L k (sc s j)⟩)/\Ke s i t j e:=by
 have f:(k<m)=True:=υ h.1;have w1:=f_ (i+1) (i+1:Nat);suffices b:∃r,run aQ 178 [.ptr k 0] ⟨m,L⟩=some r/\∃t j e,r=(.tup [.str t,.i e],⟨m,aH L k (sc s j)⟩)/\Ke s i t j e by obtain⟨r,g,t,j,e,rfl,a⟩:=b;exact⟨t,j,e,g,a⟩
 refine g_ (c:=.seq _ (.seq _ (.seq (.seq _ aCf) K79))) rfl rfl func178 rfl (by rw[ntmps178];simp) ?_;simp only[go_sem,seval,ak,f,h.cells,w1,h.store (i+1)];refine jE (id:=0) ?_;rw[gB];refine aT (lW (T1 s i k m L) (P79 s i k m L) (λd α H b=>aqn h n d α H b) (s.length-i) _ _ ⟨⟨i+1,aa,μ _,rfl,rfl⟩,?_,?_⟩) ?_
 case refine_3=>
  rintro x ae H' ⟨j,rfl,⟨rfl,o⟩|⟨rfl,t,e,a,a2,a3⟩⟩
  ·refine .inl ⟨.inr rfl,?_⟩;have l:K79=.seq _ _:=rfl;rw[l];simp only[go_sem,seval,results178];exact⟨_,rfl,[],j,22,rfl,.inl ⟨o,rfl⟩⟩
  ·refine .inr ⟨rfl,?_⟩;simp only[go_sem,seval,results178,a2,a3];exact⟨_,rfl,t,j,e,rfl,a⟩
 all_goals(simp[go_sem];try rfl)
def lp:bF prog 95=some 4:=af
def azj:cu prog 95=some true:=af
def E_:dq prog 95=some [.i 0,.i 0,.str [],.str []]:=af
def HG:hC prog 95=some [(0,3),(1,3),(2,9),(3,9)]:=af
def aCg(m)(L):sB prog 95 ⟨m,L⟩=some (.ptr m 0,⟨m+1,(m,.k 95 [.i 0,.i 0,.str [],.str []])::L⟩):=by simp[sB,E_,ab.push]
def avw(n k):cr prog 95 0 (.ptr n k)=some (.ptr n k):=by simp[cr,HG,qt]
def avx(n k):cr prog 95 1 (.ptr n k)=some (.ptr n (k+1)):=by simp[cr,HG,qt]
def avy(n k):cr prog 95 2 (.ptr n k)=some (.ptr n (k+2)):=by simp[cr,HG,pJ]
def avz(n k):cr prog 95 3 (.ptr n k)=some (.ptr n (k+3)):=by simp[cr,HG,pJ]
def aCh(a b c d):iM prog 95 [a,b,c,d] 0=some (.agg [a,b,c,d]):=by simp[iM,azj,lp]
attribute [go_sem] aCg avw avx avy avz aCh
def Sc.push{m}{L}{k}{s}{i}(h:Sc m L k s i)(c):Sc (m+1) ((m,c)::L) k s i:=⟨by have:=h.1;omega,by rw[br,κ (by have:=h.1;omega)];exact h.2⟩
def M9{m k}(hk:k<m)(c x)(L):aH ((m,c)::L) k x=(m,c)::aH L k x:=by rw[tj,bV]
def call75:=wJ aQ 176 rfl rfl
def call79:=wJ aQ 178 rfl rfl
def call80:=wJ aQ 179 rfl rfl
def call76:=lJ aQ prog 108 rfl rfl
def call78:=lJ aQ prog 177 rfl rfl
attribute [go_sem] call75 call79 call80 call76 call78
def avA{m}{L}{k}{s:List UInt8}{i}(h:Sc m L k s i)(hi:i<=s.length)(a:s.length<=16384)(c):run aQ 176 [.ptr k 0] ⟨m+1,(m,c)::L⟩=some (.str ((s.drop i).takeWhile bj),⟨m+1,(m,c)::aH L k (sc s (fl bj s i))⟩):=by rw[nr (h.push c) hi a,M9 h.1]
def avB{m}{L}{k}{s:List UInt8}{i}(h:Sc m L k s i)(hi:i<=s.length)(a:s.length<=16384)(c):
  run aQ 179 [.ptr k 0] ⟨m+1,(m,c)::L⟩=some (.str ((s.drop i).take (jR (s.drop i))),⟨m+1,(m,c)::aH L k (sc s (i+jR (s.drop i)))⟩):=by
 rw[avr (h.push c) hi a,M9 h.1]
def azk{m}{L}{k}{s:List UInt8}{i}(h:Sc m L k s i)(hi:i<s.length)(d:s.length<=16384)(c):
  ∃t j e,run aQ 178 [.ptr k 0] ⟨m+1,(m,c)::L⟩=some (.tup [.str t,.i e],⟨m+1,(m,c)::aH L k (sc s j)⟩)/\Ke s i t j e:=by
 obtain⟨t,j,e,a,b⟩:=azi (h.push c) hi d;rw[M9 h.1] at a;exact⟨t,j,e,a,b⟩
def Mn:∀t n,kX t=some n->∃z,t[n-1]? =some z/\z.toNat=34
 |[],n,h=>by simp[kX] at h
 |c::t,n,h=>by
  rw[BF] at h;split at h
  ·rename_i f;cases h;exact⟨c,rfl,f⟩
  ·split at h
   ·cases h
   ·split at h
    ·match t,h with
     |[],h=>cases h
     |d::t',h=>simp at h;obtain⟨q,a,rfl⟩:=h;obtain⟨z,b,e⟩:=Mn t' q a;have:=BM t' q a;refine⟨z,?_,e⟩;rw[show q+2-1=(q-1)+2 by omega];exact b
    ·simp at h;obtain⟨q,a,rfl⟩:=h;obtain⟨z,b,e⟩:=Mn t q a;have:=BM t q a;refine⟨z,?_,e⟩;rw[show q+1-1=(q-1)+1 by omega];exact b
def U2{s:List UInt8}{i n}{b:UInt8}(hb:s[i]? =some b)(h:b.toNat=34)(e:kX (s.drop (i+1))=some n):wu ((s.take (i+1+n)).drop i)=ig ((s.drop (i+1)).take (n-1)):=by
 obtain⟨z,j,a⟩:=Mn _ _ e;have c:=BM _ _ e;have d:b=34:=aEx.1 h;have a:z=34:=aEx.1 a;subst d a;rw[Co,ke hb,show i+1+n-i=n+1 by omega,aEb];have f:(34::(s.drop (i+1)).take n:List UInt8).length=n+1:=by rw[Ι,aDx,Nat.min_eq_left c.2]
 have g:(34::(s.drop (i+1)).take n:List UInt8)[n]? =some 34:=by rw[show n=(n-1)+1 by omega,aDA,Υ aa];exact j
 rw[wu,f,aFC,κ (by rw[g];simp;omega)];congr 1;rw[show n=(n-1)+1 by omega,aEb,aEc,aEk,List.take_take];congr 1;omega
def rJ(s:List UInt8)(i:Nat)(T:AV)(e:Int)(j:Nat):Prop:=
 match one (s.drop i) with
 | .error x=>e=(x:Int)/\e≠0
 | .ok (kd,n)=>e=0/\j=i+n/\T=.agg [.i kd,.i i,.str [],.str ((s.take (i+n)).drop i)]
def azl(s:List UInt8)(i k m:Nat)(L:List (Nat×bH))(r:AV×ab):Prop:=
 ∃(tk a:Int) (b d:List UInt8) (e:Int) (c:bH) (j:Nat),r=(.tup [.agg [.i tk,.i a,.str b,.str d],.i e],⟨m+1,(m,c)::aH L k (sc s j)⟩)/\rJ s i (.agg [.i tk,.i a,.str b,.str d]) e j
def avC{m}{L:List (Nat×bH)}{k:Nat}{s:List UInt8}{i:Nat}(h:Sc m L k s i)(hi:i<=s.length)(K:s.length<=16384):∃r,run aQ 143 [.ptr k 0] ⟨m,L⟩=some r/\azl s i k m L r:=by
 have u:(k<m+1)=True:=υ (by have:=h.1;omega);have v:=aY (m<m+1);have w:(m=k)=False:=eq_false (by have:=h.1;omega);have o:=h.cells;refine g_ (c:=.seq _ (.seq _ (.seq _ _))) af rfl func143 rfl (by rw[ntmps143];simp) ?_;have g:((i:Int)==(s.length:Int))=decide (i=s.length):=ez _ _;by_cases O:i=s.length
 ·rw[π O] at g;simp only[go_sem,seval,ak,qt,lp,u,v,w,o,g,results143];refine⟨_,rfl,_,_,_,_,0,_,i,by rw[h.same],?_⟩;have y:s.drop i=[]:=aDk aa;simp only[rJ,y,one,aEp];refine⟨trivial,trivial,?_⟩;rw[Co,aEZ];rfl
 ·rw[ξ O] at g;have Q:i<s.length:=aa;obtain⟨b,hb⟩:=get_some Q;have y:=ke hb;have f:=λc=>CA aB2 (h.push c);rw[D7 hb] at f;have x:=λc=>CA aB3 (h.push c);rw[D7 hb] at x;have B:=λc=>avA h hi K c;have z:=Ns bj s hi;have J:=MX bj s hi;have iu:((s.drop i).takeWhile bj).length<=16384:=by have:=(aEQ (l:=s.drop i) bj).length_le;rw[atB] at this;omega
  have A:=aqf ((s.drop i).takeWhile bj);have E:=akE ((s.drop i).takeWhile bj) aa
  cases hL:isLet b with
  |true=>
   have a:=Yu (t:=s.drop (i+1)) hL;rw[<-y] at a;simp only[hL] at f
   cases hK:isKey ((s.drop i).takeWhile bj) with
   |true=>rw[hK] at A;simp only[go_sem,seval,ak,qt,pJ,lp,u,v,w,o,g,f,B,A,results143];refine⟨_,rfl,_,_,_,_,0,_,_,rfl,?_⟩;rw[ν hK] at a;simp only[rJ,a];refine⟨trivial,z,?_⟩;rw[<-z,J];rfl
   |false=>
    rw[hK] at A;rw[κ (by rw[hK];decide)] at a;by_cases R:40<((s.drop i).takeWhile bj).length
    ·have M:=bJ ((((s.drop i).takeWhile bj).length:Int)>40);simp only[go_sem,seval,ak,qt,pJ,lp,u,v,w,o,g,f,B,A,M,results143];refine⟨_,rfl,_,_,_,_,26,_,_,rfl,?_⟩;rw[ν R] at a;simp only[rJ,a];exact⟨rfl,aA⟩
    ·have M:=bP ((((s.drop i).takeWhile bj).length:Int)>40);simp only[go_sem,seval,ak,qt,pJ,lp,u,v,w,o,g,f,B,A,M,results143];refine⟨_,rfl,_,_,_,_,0,_,_,rfl,?_⟩;rw[κ R] at a;simp only[rJ,a];refine⟨trivial,z,?_⟩;rw[<-z,J];rfl
  |false=>
   simp only[hL] at f
   cases hD:jK b with
   |true=>
    have a:=Yv (t:=s.drop (i+1)) hD;rw[<-y] at a;have I:(s.drop i).takeWhile bj≠[]:=by rw[y,aEn,ν (by simp[bj,hD])];simp
    rw[WO _ I] at E;simp only[hD] at x
    cases hR:oJ 0 ((s.drop i).takeWhile bj) with
    |true=>rw[hR,ν rfl] at E;simp only[go_sem,seval,ak,qt,pJ,lp,u,v,w,o,g,f,x,B,E,results143];refine⟨_,rfl,_,_,_,_,0,_,_,rfl,?_⟩;rw[ν hR] at a;simp only[rJ,a];refine⟨trivial,z,?_⟩;rw[<-z,J];rfl
    |false=>rw[hR,κ aA] at E;simp only[go_sem,seval,ak,qt,pJ,lp,u,v,w,o,g,f,x,B,E,results143];refine⟨_,rfl,_,_,_,_,23,_,_,rfl,?_⟩;rw[κ (by rw[hR];decide)] at a;simp only[rJ,a];exact⟨rfl,aA⟩
   |false=>
    simp only[hD] at x;have H:=jf hb;have D:((b.toNat:Int)==34)=decide (b.toNat=34):=lQ b 34;by_cases C:b.toNat=34
    ·rw[π C] at D;have a:=Yw (t:=s.drop (i+1)) C;rw[<-y] at a;obtain⟨t,j,e,V,U⟩:=azk h Q K (.k 95 [.i 4,.i i,.str [],.str []]);simp only[go_sem,seval,ak,qt,pJ,lp,u,v,w,o,g,f,x,H,D,V,iz,results143];refine⟨_,rfl,_,_,_,_,e,_,j,rfl,?_⟩;rcases U with⟨d,rfl⟩|⟨d,rfl,F⟩
     ·have:kX (s.drop (i+1))=none:=by
       rw[jv] at d
       cases hq:kX (s.drop (i+1)) with
       |none=>rfl
       |some q=>rw[hq] at d;cases d
      rw[this] at a;simp only[rJ,a];exact⟨rfl,aA⟩
     ·rw[jv] at d
      cases hq:kX (s.drop (i+1)) with
      |none=>rw[hq] at d;cases d
      |some q=>
       rw[hq] at d a;simp only[aEL,Ζ] at d;have S:j=i+(q+1):=aa;have P:=U2 hb C hq;rw[show i+1+q=j by omega] at P;rw[P] at F;simp only at a
       cases hs:(ig ((s.drop (i+1)).take (q-1))).isSome with
       |true=>rw[ν hs] at a F;simp only[rJ,a];refine⟨F,S,?_⟩;rw[<-S];rfl
       |false=>rw[κ (by rw[hs];decide)] at a F;simp only[rJ,a];rw[F];exact⟨rfl,aA⟩
    ·rw[ξ C] at D;have T:bj b=false:=by simp[bj,hL,hD]
     have a:=WX (t:=s.drop (i+1)) T C;rw[<-y] at a;have N:=λc=>avB h hi K c
     have hle:jR (s.drop i)<=(s.drop i).length:=by
      cases r6:one (s.drop i) with
      |ok p=>
       have:=(x_ (k:=p.1) (n:=p.2) r6).1;rw[a] at r6;by_cases d:jR (s.drop i)=0
       ·omega
       ·rw[κ d] at r6;simp only[Except.ok.injEq] at r6;rw[<-r6] at this;exact this
      |error e=>
       rw[a] at r6;by_cases d:jR (s.drop i)=0
       ·omega
       ·rw[κ d] at r6;cases r6
     by_cases d:jR (s.drop i)=0
     ·have G:((s.drop i).take (jR (s.drop i))==([]:List UInt8))=true:=by rw[d];rfl
      simp only[go_sem,seval,ak,qt,pJ,lp,u,v,w,o,g,f,x,H,D,N,G,results143];refine⟨_,rfl,_,_,_,_,21,_,_,rfl,?_⟩;rw[ν d] at a;simp only[rJ,a];exact⟨rfl,aA⟩
     ·have G:((s.drop i).take (jR (s.drop i))==([]:List UInt8))=false:=by
       rw[aDL];intro o;have:=Λ List.length o;rw[aDx] at this;simp only[Χ] at this;omega
      simp only[go_sem,seval,ak,qt,pJ,lp,u,v,w,o,g,f,x,H,D,N,G,results143];refine⟨_,rfl,_,_,_,_,0,_,_,rfl,?_⟩;rw[κ d] at a;simp only[rJ,a];refine⟨trivial,trivial,?_⟩;rw[Co,aFa];rfl
def mR(s:List UInt8):Int:=match bad s with
 |some a=>(a:Int)
 |none=> -1
def call69:=lJ aQ prog 171 rfl rfl
def call15:=lJ aQ prog 196 rfl rfl
def call31:=lJ aQ prog 228 rfl rfl
attribute [go_sem] call69 call15 call31
def akM(r):aI prog (run aQ) 171 [.str r]=some (.tup [.int .i32 ((dec r).1:Nat),.i ((dec r).2:Nat)]):=by refine xK rfl (args:=[.str r]) (v:=.tup [.int .i32 ((dec r).1:Nat),.i ((dec r).2:Nat)]) (H:=.empty) rfl ?_ rfl;show qJ 171 [.str r] .empty=_;simp[qJ,bQ,tQ,wt,Ai,zT]
noncomputable def xE:=f141.c.r.l.r.b.b
noncomputable def aCk:Code:=.block 0 (.loop xE)
noncomputable def K35:=f141.c.r.r
structure Db(s:List UInt8)(d:Nat)(α:az)(H:ab):Prop where
 ex:∃i:Nat,i+d=s.length/\tB s i=bad s/\α 3=.i i
 a0:α 0=.str s
def Kf(s:List UInt8)(x:Ex)(α:az)(H:ab):Prop:=(x=.exit 0/\mR s= -1)\/(x=.ret/\α 2=.i (mR s))
def aqo{s:List UInt8}(hn:s.length<=16384)(d:Nat)(α:az)(H:ab)(h:Db s d α H):
  aD (aO aQ xE α H) λx o H'=>(x=.normal/\∃p,p<d/\Db s p o H')\/(x≠.normal/\Kf s x o H'):=by
 obtain⟨⟨i,hd,c,a3⟩,a0⟩:=h;have r:xE=.seq (.seq _ _) (.block _ (.seq _ (.seq (.seq _ _) _))):=rfl;rw[r];by_cases hi:i<s.length
 ·have e:=bJ ((i:Int)<(s.length:Int));obtain⟨b,hb⟩:=get_some hi;have n:=Kc s (a:=i) aa;have m:=akM (s.drop i);have g:(((dec (s.drop i)).1:Int)==65533)=decide ((dec (s.drop i)).1=65533):=ez _ 65533;have c2:(((dec (s.drop i)).2:Int)==1)=decide ((dec (s.drop i)).2=1):=ez _ 1;have f:=HP b (s.drop (i+1));rw[<-ke hb,atB] at f;have w1:=f_ (i+((dec (s.drop i)).2:Int)) (i+(dec (s.drop i)).2:Nat);by_cases k:(dec (s.drop i)).1=65533
  ·rw[π k] at g;by_cases j:(dec (s.drop i)).2=1
   ·rw[π j] at c2;have q:=UP hi k j;rw[c] at q;simp only[go_sem,seval,ak,a0,a3,e,n,m,g,c2,iz];refine .inr ⟨ai,.inr ⟨rfl,?_⟩⟩;simp[go_sem,mR,q]
   ·rw[ξ j] at c2;rw[Mi hi (λl=>j l.2)] at c;simp only[go_sem,seval,ak,a0,a3,e,n,m,g,c2,w1,iz];refine .inl ⟨trivial,s.length-(i+(dec (s.drop i)).2),aa,⟨i+(dec (s.drop i)).2,aa,c,?_⟩,?_⟩;all_goals simp[go_sem,a0]
  ·rw[ξ k] at g;rw[Mi hi (λl=>k l.1)] at c;simp only[go_sem,seval,ak,a0,a3,e,n,m,g,w1,iz];refine .inl ⟨trivial,s.length-(i+(dec (s.drop i)).2),aa,⟨i+(dec (s.drop i)).2,aa,c,?_⟩,?_⟩;all_goals simp[go_sem,a0]
 ·have e:=bP ((i:Int)<(s.length:Int));rw[UO aa] at c;simp only[go_sem,seval,ak,a0,a3,e];exact .inr ⟨ai,.inl ⟨rfl,by rw[mR,<-c]⟩⟩
def azm(s:List UInt8)(f:s.length<=16384):aI prog (run aQ) 141 [.str s]=some (.i (mR s)):=by
 refine fk (c:=.seq _ (.seq (.seq _ aCk) K35)) rfl rfl func141 rfl (by rw[ntmps141];simp) (bW:=[.str s]) rfl rfl ?_ rfl;simp[go_sem,ak];refine jE (id:=0) ?_;rw[gB];refine aT (lW (Db s) (Kf s) (λd α H b=>aqo f d α H b) s.length _ _ ⟨⟨0,aa,(bad_eq s).symm,?_⟩,?_⟩) ?_
 case refine_3=>
  rintro e ae H' (⟨rfl,hb⟩|⟨rfl,a2⟩)
  ·refine .inl ⟨.inr rfl,?_⟩;have a:K35=.seq _ _:=rfl;rw[a,hb];simp only[go_sem,seval,results141];exact⟨_,rfl,rfl⟩
  ·refine .inr ⟨rfl,?_⟩;simp only[go_sem,seval,results141,a2];exact⟨_,rfl,rfl⟩
 all_goals(simp[go_sem];try rfl)
def LY(a b):decide (((a:Nat):Int)<((b:Nat):Int))=decide (a<b):=by rw[aD0,aDs,aDs];omega
def aCl(c:UInt8):rB prog 5 3 (.int .u8 c.toNat)=some (.int .i64 c.toNat):=by
 have a:cu prog 5=some false:=adR;have b:Fu prog 3=some .i64:=by kernel_rfl
 have hc:=c.toNat_lt;simp only[rB,a,b];rw[aDH _ (by omega)];rfl
attribute [go_sem] aCl
noncomputable def GK:=f196.c.r.r.r.r.r.r.r.r
noncomputable def xG:=GK.l.r.b.b
noncomputable def aCm:Code:=.block 0 (.loop xG)
noncomputable def K15:=GK.r
structure T2(s:List UInt8)(i n mS least:Nat)(t:List UInt8)(d:Nat)(α:az)(H:ab):Prop where
 ex:∃j acc:Nat,j+d=n/\1<=j/\acc<2^(6*j)/\cont (n-j) acc (t.drop (j-1))=cont (n-1) mS t/\α 11=.i j/\α 9=.i acc
 a0:α 0=.str s
 a1:α 1=.i i
 a8:α 8=.i n
 bT:α 10=.i least
def Jz(α:az):Prop:=α 4=.i 65533/\α 5=.i 1/\α 6=.bool false
def P15(n mS least:Nat)(t:List UInt8)(x:Ex)(α:az)(H:ab):Prop:=
 (x=.exit 0/\∃acc:Nat,acc<2^24/\cont (n-1) mS t=some acc/\α 9=.i acc/\α 8=.i n/\α 10=.i least)\/(x=.ret/\cont (n-1) mS t=none/\Jz α)
def aqp{s:List UInt8}{i n mS least}{b}{t:List UInt8}(u:s.drop i=b::t)(hn:s.length<=16384)(hi:i<s.length)(hlen:n<=t.length+1)(K5:n<=4)(d:Nat)(α:az)(H:ab)(h:T2 s i n mS least t d α H):
  aD (aO aQ xG α H) λx l H'=>(x=.normal/\∃m,m<d/\T2 s i n mS least t m l H')\/(x≠.normal/\P15 n mS least t x l H'):=by
 obtain⟨⟨j,acc,hj,hj1,C',a,g,o⟩,a0,a1,a8,bT⟩:=h;have y:xG=.seq (.seq _ _) (.seq (.block _ (.seq (.seq _ _) _)) _):=rfl;rw[y];have e:decide ((j:Int)<(n:Int))=decide (j<n):=LY j n;have hP:2^(6*(j+1))=2^(6*j)*64:=by rw[aFv,Nat.pow_add]
 have hP4:2^(6*j)<=2^24:=Nat.pow_le_pow_right aa aa;have aDe:(2:Nat)^24=16777216:=aA;by_cases r:j<n
 ·rw[π r] at e;obtain⟨c,q⟩:=get_some (s:=t) (i:=j-1) aa;have k:s[i+j]? =some c:=by rw[<-List.getElem?_drop,u,show j=(j-1)+1 by omega,aDA];exact q
  have p:=jf k;have f:=avk c;have bC:=c.toNat_lt;have w1:=f_ (i+j) (i+j:Nat);have z:=f_ (j+1) (j+1:Nat);have w:=f_ (acc*64) (acc*64:Nat);have v:=f_ (((acc*64:Nat):Int)+(c.toNat:Int)) (acc*64+c.toNat:Nat);rw[show n-j=(n-(j+1))+1 by omega,ke q,show j-1+1=j by omega] at a
  cases hm:pP c with
  |true=>
   rw[hm] at f;rw[aid hm] at a;have iN:128<=c.toNat/\c.toNat<192:=by simpa[pP] using hm
   have A:=f_ (((acc*64+c.toNat:Nat):Int)-128) (acc*64+(c.toNat-128):Nat);simp only[go_sem,seval,ak,a0,a1,a8,o,g,e,p,f,w1,z,w,v,A,ω];refine .inl ⟨trivial,d-1,aa,⟨j+1,acc*64+(c.toNat-128),aa,aa,aa,a,?_,?_⟩,?_,?_,?_,?_⟩;all_goals simp[go_sem,a0,a1,a8,bT]
  |false=>
   rw[hm] at f;rw[alw hm] at a;simp only[go_sem,seval,ak,a0,a1,a8,g,e,p,f,w1,Α];refine .inr ⟨ai,.inr ⟨rfl,a.symm,?_,?_,?_⟩⟩;all_goals simp[go_sem]
 ·rw[ξ r] at e;have:j=n:=aa;subst this;rw[aEZ] at a;simp only[go_sem,seval,ak,a8,g,e];refine .inr ⟨ai,.inl ⟨rfl,acc,aa,a.symm,?_,?_,?_⟩⟩;all_goals simp[go_sem,a8,o,bT]
def P0{s:List UInt8}{i n mS least:Nat}{b:UInt8}{t:List UInt8}(j:s.drop i=b::t)(u:s.length<=16384)(hi:i<s.length)(c:n<=t.length+1)(oR:2<=n)(p:n<=4)(C':mS<64)(α:az)(H:ab)
  (a0:α 0=.str s) (a1:α 1=.i i) (a8:α 8=.i n) (q:α 9=.i mS) (bT:α 10=.i least):
  aD (aO aQ GK α H) λx a H'=>x=.ret/\match gE n mS least t with
   |none=>Jz a
   |some r=>a 4=.i r.1/\a 5=.i r.2/\a 6=.bool true:=by
 have m:GK=.seq (.seq _ aCm) K15:=rfl;rw[m];simp only[go_sem,seval];refine jE (id:=0) ?_;rw[gB];have g:¬t.length+1<n:=aa;refine aT (lW (T2 s i n mS least t) (P15 n mS least t) (λd α H l=>aqp j u hi c p d α H l) (n-1) _ _ ⟨⟨1,mS,aa,μ _,aa,rfl,?_,?_⟩,?_,?_,?_,?_⟩) ?_
 case refine_7=>
  rintro x a H' (⟨rfl,acc,hb,f,z,b8,v⟩|⟨rfl,f,y⟩)
  ·refine .inl ⟨.inr rfl,?_⟩;have o:K15=.seq (.seq _ (.cond _ (.seq _ _) _)) (.seq _ _):=rfl;rw[o];have k1:decide ((acc:Int)<(least:Int))=decide (acc<least):=LY _ _;have k2:decide ((acc:Int)>1114111)=decide (1114111<acc):=LY 1114111 acc;have k:decide ((acc:Int)≥55296)=decide (55296<=acc):=by rw[aD0,aDs,aDs];omega
   have w:decide ((acc:Int)<57344)=decide (acc<57344):=LY acc 57344;have h:yH acc least= !(decide (acc<least)||decide (1114111<acc)||(decide (55296<=acc)&&decide (acc<57344))):=rfl;have e:gE n mS least t=if yH acc least=true then some (acc,n) else none:=by unfold gE;rw[κ g,f]
   rw[e]
   generalize decide (acc<least)=p1 at*
   generalize decide (1114111<acc)=p2 at*
   generalize decide (55296<=acc)=p3 at*
   generalize decide (acc<57344)=p4 at*
   cases p1<;>cases p2<;>cases p3<;>cases p4<;>simp at h
   all_goals
    rw[h];simp only[go_sem,seval,ak,b8,z,v,k1,k2,k,w,Jz,τ]
  ·refine .inr ⟨rfl,rfl,?_⟩;have e:gE n mS least t=none:=by unfold gE;rw[κ g,f]
   rw[e];exact y
 all_goals(simp only[go_sem,seval,a0,a1,a8,q,bT];try rfl)
def vh(r:List UInt8):AV:=if(dec r).1=65533/\(dec r).2=1 then .tup [.i 65533,.i 1,.bool false] else .tup [.i ((dec r).1:Nat),.i ((dec r).2:Nat),.bool true]
def B2{r}(h:dec r=(65533,1)):vh r=.tup [.i 65533,.i 1,.bool false]:=by rw[vh,ν (by rw[h];exact⟨rfl,rfl⟩)]
def Wr{r}{v n}(h:dec r=(v,n))(a:¬(v=65533/\n=1)):vh r=.tup [.i v,.i n,.bool true]:=by rw[vh,κ (by rw[h];exact a),h]
def Rb{r}{n acc least}{t}(a:dec r=lK (gE n acc least t))(oR:2<=n){α}{H}(hm:match gE n acc least t with
   |none=>Jz α
   |some r=>α 4=.i r.1/\α 5=.i r.2/\α 6=.bool true):
  ∃v,pQ (finish prog f196.results.toList (.ret,α,H))=some v/\v.erase=vh r:=by
 cases hd:gE n acc least t with
 |none=>rw[hd] at hm a;obtain⟨d,b,c⟩:=hm;rw[B2 a];simp only[go_sem,results196,d,b,c];exact⟨_,rfl,rfl⟩
 |some p=>rw[hd] at hm a;obtain⟨d,b,c⟩:=hm;have hp:=VW hd;have a:dec r=(p.1,p.2):=a;rw[Wr a aa];simp only[go_sem,results196,d,b,c];exact⟨_,rfl,rfl⟩
def akN(r):(vh r).aq=true:=by unfold vh;split<;>rfl
def avD{s:List UInt8}{i:Nat}{b:UInt8}(hb:s[i]? =some b)(q:s.length<=16384):aI prog (run aQ) 196 [.str s,.i i]=some (vh (s.drop i)):=by
 refine fk (c:=.seq _ (.seq _ (.seq (.seq _ _) (.seq _ (.seq (.seq _ _) (.seq (.seq _ _) (.seq (.seq _ _) (.seq (.seq _ _) GK)))))))) rfl rfl func196 rfl (by rw[ntmps196];simp) (bW:=[.str s,.i i]) rfl rfl ?_ (akN _);have hi:=eg hb;have h:=ke hb;have k:=jf hb;have ht:(s.drop (i+1)).length=s.length-(i+1):=atB;have w1:=f_ ((s.length:Int)-i) (s.length-i:Nat);have y:((0:Int)==0)=true:=rfl;have r:((2:Int)==0)=false:=rfl;have w:((3:Int)==0)=false:=rfl;have z4:((4:Int)==0)=false:=rfl;by_cases k1:b.toNat<128
 ·have g:=bJ ((b.toNat:Int)<128);rw[Wr (v:=b.toNat) (n:=1) (by rw[h,Yy k1]) aa];simp only[go_sem,seval,ak,k,g,results196];exact⟨_,rfl,rfl⟩
 ·have g:=bP ((b.toNat:Int)<128);by_cases k2:b.toNat<192
  ·have j:=bP ((b.toNat:Int)≥192);have f:=bP ((b.toNat:Int)≥224);have d:=bP ((b.toNat:Int)≥240);rw[B2 (by rw[h,N8 aa (.inl k2)])];simp only[go_sem,seval,ak,k,g,j,f,d,y,results196];exact⟨_,rfl,rfl⟩
  ·have j:=bJ ((b.toNat:Int)≥192);by_cases k3:b.toNat<224
   ·have l:=bJ ((b.toNat:Int)<224);have f:=bP ((b.toNat:Int)≥224);have d:=bP ((b.toNat:Int)≥240);have m:=f_ ((b.toNat:Int)-192) (b.toNat-192:Nat);have a:=Yz (b:=b) aa (s.drop (i+1));rw[<-h] at a;by_cases t:s.length-i<2
    ·have e:=bJ (((s.length-i:Nat):Int)<2);have:gE 2 (b.toNat-192) 128 (s.drop (i+1))=none:=by rw[gE,xh]
     rw[this] at a;rw[B2 a];simp only[go_sem,seval,ak,k,g,j,l,f,d,w1,m,r,e,results196];exact⟨_,rfl,rfl⟩
    ·have e:=bP (((s.length-i:Nat):Int)<2);simp[go_sem,ak,k,g,j,l,f,d,w1,m,r,e];refine aT (P0 (n:=2) (mS:=b.toNat-192) (least:=128) h q hi aa aa aa aa _ _ ?_ ?_ ?_ ?_ ?_) ?_
     case refine_6=>
      rintro x u H' ⟨rfl,hm⟩;exact Rb a aa hm
     all_goals(simp[go_sem];try rfl)
   ·have l:=bP ((b.toNat:Int)<224);have f:=bJ ((b.toNat:Int)≥224);by_cases k4:b.toNat<240
    ·have o:=bJ ((b.toNat:Int)<240);have d:=bP ((b.toNat:Int)≥240);have m:=f_ ((b.toNat:Int)-224) (b.toNat-224:Nat);have a:=VV (b:=b) aa (s.drop (i+1));rw[<-h] at a;by_cases t:s.length-i<3
     ·have e:=bJ (((s.length-i:Nat):Int)<3);have:gE 3 (b.toNat-224) 2048 (s.drop (i+1))=none:=by rw[gE,xh]
      rw[this] at a;rw[B2 a];simp only[go_sem,seval,ak,k,g,j,l,f,d,o,w1,m,w,e,results196];exact⟨_,rfl,rfl⟩
     ·have e:=bP (((s.length-i:Nat):Int)<3);simp[go_sem,ak,k,g,j,l,f,d,o,w1,m,w,e];refine aT (P0 (n:=3) (mS:=b.toNat-224) (least:=2048) h q hi aa aa aa aa _ _ ?_ ?_ ?_ ?_ ?_) ?_
      case refine_6=>
       rintro x u H' ⟨rfl,hm⟩;exact Rb a aa hm
      all_goals(simp[go_sem];try rfl)
    ·have o:=bP ((b.toNat:Int)<240);have d:=bJ ((b.toNat:Int)≥240);by_cases k5:b.toNat<248
     ·have p:=bJ ((b.toNat:Int)<248);have m:=f_ ((b.toNat:Int)-240) (b.toNat-240:Nat);have a:=WZ (b:=b) aa (s.drop (i+1));rw[<-h] at a;by_cases t:s.length-i<4
      ·have e:=bJ (((s.length-i:Nat):Int)<4);have:gE 4 (b.toNat-240) 65536 (s.drop (i+1))=none:=by rw[gE,xh]
       rw[this] at a;rw[B2 a];simp only[go_sem,seval,ak,k,g,j,l,f,d,o,p,w1,m,z4,e,results196];exact⟨_,rfl,rfl⟩
      ·have e:=bP (((s.length-i:Nat):Int)<4);simp[go_sem,ak,k,g,j,l,f,d,o,p,w1,m,z4,e];refine aT (P0 (n:=4) (mS:=b.toNat-240) (least:=65536) h q hi aa aa aa aa _ _ ?_ ?_ ?_ ?_ ?_) ?_
       case refine_6=>
        rintro x u H' ⟨rfl,hm⟩;exact Rb a aa hm
       all_goals(simp[go_sem];try rfl)
     ·have p:=bP ((b.toNat:Int)<248);rw[B2 (by rw[h,N8 aa (.inr aa)])];simp only[go_sem,seval,ak,k,g,j,l,f,d,o,p,y,results196];exact⟨_,rfl,rfl⟩
noncomputable def B9:=f155.c.r.l.r.b.b
noncomputable def LB9:Code:=.block 0 (.loop B9)
noncomputable def K9:=f155.c.r.r
def avE{s:List UInt8}(m:s.length<=16384)(d)(α:az)(H:ab)(h:Db s d α H):
  aD (aO aQ B9 α H) λx g H'=>(x=.normal/\∃j,j<d/\Db s j g H')\/(x≠.normal/\Kf s x g H'):=by
 obtain⟨⟨i,hd,a,a3⟩,a0⟩:=h;have l:B9=.seq (.seq _ _) (.block _ (.seq _ (.seq (.seq _ _) _))):=rfl;rw[l];by_cases hi:i<s.length
 ·have e:=bJ ((i:Int)<(s.length:Int));obtain⟨b,hb⟩:=get_some hi;have f:=avD hb m;have c:=HP b (s.drop (i+1));rw[<-ke hb,atB] at c;have w1:=f_ (i+((dec (s.drop i)).2:Int)) (i+(dec (s.drop i)).2:Nat);by_cases q:(dec (s.drop i)).1=65533/\(dec (s.drop i)).2=1
  ·rw[vh,ν q] at f;have k:=UP hi q.1 q.2;rw[a] at k;simp only[go_sem,seval,ak,a0,a3,e,f,iz,Α];refine .inr ⟨ai,.inr ⟨rfl,?_⟩⟩;simp[go_sem,mR,k]
  ·rw[vh,κ q] at f;rw[Mi hi q] at a;simp only[go_sem,seval,ak,a0,a3,e,f,w1,iz,ω];refine .inl ⟨trivial,s.length-(i+(dec (s.drop i)).2),aa,⟨i+(dec (s.drop i)).2,aa,a,?_⟩,?_⟩;all_goals simp[go_sem,a0]
 ·have e:=bP ((i:Int)<(s.length:Int));rw[UO aa] at a;simp only[go_sem,seval,ak,a0,a3,e];exact .inr ⟨ai,.inl ⟨rfl,by rw[mR,<-a]⟩⟩
def aCn(s:List UInt8)(f:s.length<=16384):aI prog (run aQ) 155 [.str s]=some (.i (mR s)):=by
 refine fk (c:=.seq _ (.seq (.seq _ LB9) K9)) rfl rfl func155 rfl (by rw[ntmps155];simp) (bW:=[.str s]) rfl rfl ?_ rfl;simp[go_sem,ak];refine jE (id:=0) ?_;rw[gB];refine aT (lW (Db s) (Kf s) (λd α H b=>avE f d α H b) s.length _ _ ⟨⟨0,aa,(bad_eq s).symm,?_⟩,?_⟩) ?_
 case refine_3=>
  rintro e ae H' (⟨rfl,hb⟩|⟨rfl,a2⟩)
  ·refine .inl ⟨.inr rfl,?_⟩;have a:K9=.seq _ _:=rfl;rw[a,hb];simp only[go_sem,seval,results155];exact⟨_,rfl,rfl⟩
  ·refine .inr ⟨rfl,?_⟩;simp only[go_sem,seval,results155,a2];exact⟨_,rfl,rfl⟩
 all_goals(simp[go_sem];try rfl)
def call16:=lJ aQ prog 77 rfl rfl
def call17:=lJ aQ prog 76 rfl rfl
def call18:=lJ aQ prog 75 rfl rfl
def call19:=lJ aQ prog 197 rfl rfl
attribute [go_sem] call16 call17 call18 call19
def vj(s:List UInt8)(i:Nat)(x:Ex)(α:az)(H:ab):Prop:=x=.ret/\match one (s.drop i) with
 | .error e=>α 4=.i 0/\α 5=.i 0/\α 6=.i e
 | .ok (k,n)=>α 4=.i k/\α 5=.i (i+n:Nat)/\α 6=.i 0
def Cg{s:List UInt8}{i e}{x:Ex}{α:az}{H:ab}(b:one (s.drop i)=.error e)(f:x=.ret)(c:α 4=.i 0)(d:α 5=.i 0)(a:α 6=.i e):vj s i x α H:=by refine⟨f,?_⟩;rw[b];exact⟨c,d,a⟩
def CB{s:List UInt8}{i k n}{x:Ex}{α:az}{H:ab}(b:one (s.drop i)=.ok (k,n))(e:x=.ret)(c:α 4=.i k)(d:α 5=.i (i+n:Nat))(a:α 6=.i 0):vj s i x α H:=by refine⟨e,?_⟩;rw[b];exact⟨c,d,a⟩
noncomputable def GL:=f157.c.r.r.l.r.t
noncomputable def T11:=f157.c.r.r.r
noncomputable def xF:=GL.l.b.b
noncomputable def aCo:Code:=.block 0 (.loop xF)
noncomputable def Kg:=GL.r
structure Sv(s:List UInt8)(i e:Nat)(d:Nat)(α:az)(H:ab):Prop where
 ex:∃j:Nat,j+d=s.length/\fl bj s j=e/\α 7=.i j
 a0:α 0=.str s
 a1:α 1=.i i
def adS(s:List UInt8)(i e:Nat)(x:Ex)(α:az)(H:ab):Prop:=x=.exit 0/\α 0=.str s/\α 1=.i i/\α 7=.i e
def akO{s:List UInt8}{i e}(hn:s.length<=16384)(d:Nat)(α:az)(H:ab)(h:Sv s i e d α H):
  aD (aO aQ xF α H) λx l H'=>(x=.normal/\∃m,m<d/\Sv s i e m l H')\/(x≠.normal/\adS s i e x l H'):=by
 obtain⟨⟨j,hd,a,a7⟩,a0,a1⟩:=h;have o:xF=.seq (.seq _ _) (.block _ _):=rfl;rw[o];by_cases n:j<s.length
 ·have c:=bJ ((j:Int)<(s.length:Int));obtain⟨b,hb⟩:=get_some n;have k:=jf hb;have f:=Q8 b;have g:=Q9 b;have w1:=f_ (j+1) (j+1:Nat)
  cases hL:isLet b with
  |true=>
   rw[hL] at f;rw[th hb (by simp[bj,hL])] at a;simp only[go_sem,seval,ak,a0,a7,c,k,f,w1];refine .inl ⟨trivial,d-1,aa,⟨j+1,aa,a,?_⟩,?_,?_⟩;all_goals simp[go_sem,a0,a1]
  |false=>
   rw[hL] at f
   cases hD:jK b with
   |true=>
    rw[hD] at g;rw[th hb (by simp[bj,hD])] at a;simp only[go_sem,seval,ak,a0,a7,c,k,f,g,w1];refine .inl ⟨trivial,d-1,aa,⟨j+1,aa,a,?_⟩,?_,?_⟩;all_goals simp[go_sem,a0,a1]
   |false=>
    rw[hD] at g;rw[MB hb (by simp[bj,hL,hD])] at a;subst a;simp only[go_sem,seval,ak,a0,a7,c,k,f,g];refine .inr ⟨ai,rfl,?_,?_,?_⟩;all_goals simp[go_sem,a0,a1,a7]
 ·have c:=bP ((j:Int)<(s.length:Int));rw[MW aa] at a;subst a;simp only[go_sem,seval,ak,a0,a7,c];refine .inr ⟨ai,rfl,?_,?_,?_⟩;all_goals simp[go_sem,a0,a1,a7]
noncomputable def T4:=Kg.r.r.r.r.l.r.b.b
noncomputable def aCp:Code:=.block 2 (.loop T4)
noncomputable def adT:=Kg.r.r.r.r.r
structure Sw(w:List UInt8)(e:Nat)(d:Nat)(α:az)(H:ab):Prop where
 ex:∃j n:Nat,j+d=w.length/\n<=9223372036854775807/\oJ n (w.drop j)=oJ 0 w/\α 10=.i j/\α 9=.int .u64 n
 a8:α 8=.str w
 a7:α 7=.i e
def adU(w:List UInt8)(e:Nat)(x:Ex)(α:az)(H:ab):Prop:=(x=.exit 2/\oJ 0 w=true/\α 7=.i e)\/(x=.ret/\oJ 0 w=false/\α 4=.i 0/\α 5=.i 0/\α 6=.i 23)
def u64_in(n:Nat)(h:n<18446744073709551616):IntKind.u64.wrap (n:Int)=(n:Int):=by rw[aFr];omega
def azn(n:Nat)(h:n<256):rB prog 5 182 (.int .u8 n)=some (.int .u64 n):=by have a:cu prog 5=some false:=adR;have b:Fu prog 182=some .u64:=af;simp only[rB,a,b];rw[u64_in _ aa];rfl
def akP{w:List UInt8}{e}(hn:w.length<=16384)(d:Nat)(α:az)(H:ab)(h:Sw w e d α H):
  aD (aO aQ T4 α H) λx r H'=>(x=.normal/\∃s,s<d/\Sw w e s r H')\/(x≠.normal/\adU w e x r H'):=by
 obtain⟨⟨j,n,hd,hnM,a,bT,t⟩,a8,a7⟩:=h;have B:T4=.seq (.seq _ _) (.seq (.block _ (.seq (.seq _ _) (.seq _ (.seq (.seq _ _) _)))) _):=rfl;rw[B];by_cases A:j<w.length
 ·have g:=bJ ((j:Int)<(w.length:Int));obtain⟨c,v⟩:=get_some A;have l:=jf v;have f:=Q9 c;have w1:=f_ (j+1) (j+1:Nat);rw[ke v] at a
  cases hD:jK c with
  |false=>
   rw[hD] at f;rw[aia hD] at a;simp only[go_sem,seval,ak,a8,bT,g,l,f,Α];refine .inr ⟨ai,.inr ⟨rfl,a.symm,?_,?_,?_⟩⟩;all_goals simp[go_sem]
  |true=>
   rw[hD] at f;have Dl:48<=c.toNat/\c.toNat<=57:=by simpa[jK] using hD
   have u:IntKind.u8.wrap ((c.toNat:Int)-48)=((c.toNat-48:Nat):Int):=by rw[IntKind.wrap_u8];omega
   have q:=azn (c.toNat-48) aa;have p:IntKind.u64.wrap (9223372036854775807-((c.toNat-48:Nat):Int))=((9223372036854775807-(c.toNat-48):Nat):Int):=by rw[aFr];omega
   have b:((10:Int)=0)=False:=ai;have o:IntKind.u64.wrap (((9223372036854775807-(c.toNat-48):Nat):Int).tdiv 10)=(((9223372036854775807-(c.toNat-48))/10:Nat):Int):=by rw[show(((9223372036854775807-(c.toNat-48):Nat):Int).tdiv 10)=(((9223372036854775807-(c.toNat-48))/10:Nat):Int) from rfl,u64_in _ aa]
   by_cases m:(9223372036854775807-(c.toNat-48))/10<n
   ·have i:=bJ ((n:Int)>(((9223372036854775807-(c.toNat-48))/10:Nat):Int));rw[aib hD m] at a;simp only[go_sem,seval,ak,a8,t,bT,g,l,f,u,q,p,b,o,i,ω];refine .inr ⟨ai,.inr ⟨rfl,a.symm,?_,?_,?_⟩⟩;all_goals simp[go_sem]
   ·have i:=bP ((n:Int)>(((9223372036854775807-(c.toNat-48))/10:Nat):Int));obtain⟨z,k⟩:=agT hD (show n<=_ by omega) (w.drop (j+1));rw[z] at a;have C:IntKind.u64.wrap ((n:Int)*10)=((n*10:Nat):Int):=by rw[aFr];omega
    have y:IntKind.u64.wrap (((n*10:Nat):Int)+((c.toNat-48:Nat):Int))=((n*10+(c.toNat-48):Nat):Int):=by rw[aFr];omega
    simp only[go_sem,seval,ak,a8,t,bT,g,l,f,w1,u,q,p,b,o,i,C,y,ω];refine .inl ⟨trivial,d-1,aa,⟨j+1,n*10+(c.toNat-48),aa,k,a,?_,?_⟩,?_,?_⟩;all_goals simp[go_sem,a7,a8]
 ·have g:=bP ((j:Int)<(w.length:Int));rw[aDk aa,ah9] at a;simp only[go_sem,seval,ak,a8,bT,g];refine .inr ⟨ai,.inl ⟨rfl,a.symm,?_⟩⟩;all_goals simp[go_sem,a7]
def acQ{s:List UInt8}{i:Nat}{b:UInt8}(hb:s[i]? =some b)(m:bj b=true)(A:s.length<=16384)(α:az)(H:ab)(a0:α 0=.str s)(a1:α 1=.i i)(a7:α 7=.i (i+1:Nat)):
  aD (aP aQ (run aQ) aJ GL α H) (vj s i):=by
 have hi:=eg hb;have k:=ke hb;have w:GL=.seq aCo Kg:=rfl;rw[w,uT];refine jE (id:=0) ?_;rw[gB];refine aT (lW (Sv s i (fl bj s i)) (adS s i (fl bj s i)) (λd α H n=>akO A d α H n) (s.length-(i+1)) _ _ ⟨⟨i+1,aa,(th hb m).symm,a7⟩,a0,a1⟩) ?_;rintro x ae H' ⟨rfl,j,b1,b7⟩;refine .inl ⟨.inr rfl,?_⟩;have e:Kg=.seq _ (.seq (.seq _ _) (.seq (.seq _ _) (.seq _ (.seq (.seq _ aCp) adT)))):=rfl;rw[e];have r:=Ns bj s (Nat.le_of_lt hi);have iu:((s.drop i).takeWhile bj).length<=s.length-i:=by have:=(aEQ (l:=s.drop i) bj).length_le;rw[atB] at this;omega
 have g:=xI s (a:=i) (b:=fl bj s i) aa (El _ _ _);rw[MX bj s (Nat.le_of_lt hi)] at g;have q:=jf hb;have h:=Q8 b;have f:=aqc ((s.drop i).takeWhile bj)
 cases hL:isLet b with
 |true=>
  rw[hL] at h;have c:=Yu (t:=s.drop (i+1)) hL;rw[<-k] at c
  cases e:isKey ((s.drop i).takeWhile bj) with
  |true=>
   rw[e] at f;rw[ν e] at c;simp only[go_sem,ak,↓reduceIte,Nat.reduceEqDiff,j,b1,b7,g,f];refine CB c rfl ?_ ?_ ?_;all_goals simp only[go_sem,↓reduceIte,Nat.reduceEqDiff]
   ·rfl
   ·rw[r]
  |false=>
   rw[e] at f;rw[κ (by rw[e];decide)] at c;by_cases v:40<((s.drop i).takeWhile bj).length
   ·have p:=bJ ((((s.drop i).takeWhile bj).length:Int)>40);rw[ν v] at c;simp only[go_sem,ak,↓reduceIte,Nat.reduceEqDiff,j,b1,b7,g,f,q,h,p];refine Cg c rfl ?_ ?_ ?_;all_goals simp only[go_sem,↓reduceIte,Nat.reduceEqDiff]
    rfl
   ·have p:=bP ((((s.drop i).takeWhile bj).length:Int)>40);rw[κ v] at c;simp only[go_sem,ak,↓reduceIte,Nat.reduceEqDiff,j,b1,b7,g,f,q,h,p];refine CB c rfl ?_ ?_ ?_;all_goals simp only[go_sem,↓reduceIte,Nat.reduceEqDiff]
    ·rfl
    ·rw[r]
 |false=>
  rw[hL] at h;have u:jK b=true:=by simpa[bj,hL] using m
  have c:=Yv (t:=s.drop (i+1)) u;rw[<-k] at c;have e:isKey ((s.drop i).takeWhile bj)=false:=by rw[k,aEn,ν m];exact Yt _ u
  rw[e] at f;simp only[go_sem,ak,↓reduceIte,Nat.reduceEqDiff,j,b1,b7,g,f,q,h];refine jE (id:=2) ?_;rw[gB];refine aT (lW (Sw ((s.drop i).takeWhile bj) (fl bj s i)) (adU ((s.drop i).takeWhile bj) (fl bj s i)) (λd α H n=>akP aa d α H n) ((s.drop i).takeWhile bj).length _ _ ⟨⟨0,0,aa,aa,rfl,?_,?_⟩,?_,?_⟩) ?_
  case refine_5=>
   rintro x gH H2 (⟨rfl,o,y⟩|⟨rfl,o,C,z,B⟩)
   ·refine .inl ⟨.inr rfl,?_⟩;have e:adT=.seq _ _:=rfl;rw[e];rw[ν o] at c;simp only[go_sem,↓reduceIte,Nat.reduceEqDiff,y];refine CB c rfl ?_ ?_ ?_;all_goals simp only[go_sem,↓reduceIte,Nat.reduceEqDiff]
    ·rfl
    ·rw[r]
   ·refine .inr ⟨rfl,?_⟩;rw[κ (by rw[o];decide)] at c;exact Cg c rfl C z B
  all_goals(simp only[go_sem,↓reduceIte,Nat.reduceEqDiff,b7];try rfl)
noncomputable def GM:=T11.l.r.t
noncomputable def zG:=T11.r
noncomputable def T5:=GM.l.b.b
noncomputable def aCq:Code:=.block 4 (.loop T5)
noncomputable def adV:=GM.r
structure Sx(s:List UInt8)(i:Nat)(d:Nat)(α:az)(H:ab):Prop where
 ex:∃j:Nat,j+d=s.length+1/\i+1<=j/\jv s j=jv s (i+1)/\α 7=.i j
 a0:α 0=.str s
 a1:α 1=.i i
def adW(s:List UInt8)(i:Nat)(x:Ex)(α:az)(H:ab):Prop:=x=.exit 4/\α 0=.str s/\α 1=.i i/\∃j:Nat,α 7=.i j/\j<=s.length+1/\i+1<=j/\jv s j=jv s (i+1)/\∀b,s[j]? =some b->b.toNat=34\/b.toNat=10
def akQ{s:List UInt8}{i}(hn:s.length<=16384)(d:Nat)(α:az)(H:ab)(h:Sx s i d α H):
  aD (aO aQ T5 α H) λx q H'=>(x=.normal/\∃r,r<d/\Sx s i r q H')\/(x≠.normal/\adW s i x q H'):=by
 obtain⟨⟨j,hd,o,f,a7⟩,a0,a1⟩:=h;have u:T5=.seq (.seq _ _) (.block _ (.seq (.seq _ _) _)):=rfl;rw[u];by_cases p:j<s.length
 ·have c:=bJ ((j:Int)<(s.length:Int));obtain⟨b,hb⟩:=get_some p;have m:=jf hb;have e:((b.toNat:Int) != 34)= !decide (b.toNat=34):=xe b 34;have c2:((b.toNat:Int) != 10)= !decide (b.toNat=10):=xe b 10;have k:((b.toNat:Int)==92)=decide (b.toNat=92):=lQ b 92;have w1:=f_ (j+1) (j+1:Nat);have v:=f_ (((j+1:Nat):Int)+1) (j+2:Nat);by_cases l:b.toNat=34
  ·rw[π l] at e;simp only[go_sem,seval,ak,a0,a7,c,m,e,ω];refine .inr ⟨ai,rfl,?_,?_,j,?_,aa,o,f,λt a=> ?_⟩;case refine_4=>rw[hb] at a;cases a;exact .inl l
   all_goals simp[go_sem,a0,a1,a7]
  ·rw[ξ l] at e;by_cases n:b.toNat=10
   ·rw[π n] at c2;simp only[go_sem,seval,ak,a0,a7,c,m,e,c2,ω,Α];refine .inr ⟨ai,rfl,?_,?_,j,?_,aa,o,f,λt a=> ?_⟩;case refine_4=>rw[hb] at a;cases a;exact .inr n
    all_goals simp[go_sem,a0,a1,a7]
   ·rw[ξ n] at c2;by_cases g:b.toNat=92
    ·rw[π g] at k;simp only[go_sem,seval,ak,a0,a7,c,m,e,c2,k,w1,v,Α];refine .inl ⟨trivial,d-2,aa,⟨j+2,aa,aa,by rw[<-f,VT hb g],?_⟩,?_,?_⟩;all_goals simp[go_sem,a0,a1]
    ·rw[ξ g] at k;simp only[go_sem,seval,ak,a0,a7,c,m,e,c2,k,w1,Α];refine .inl ⟨trivial,d-1,aa,⟨j+1,aa,aa,by rw[<-f,UN hb l n g],?_⟩,?_,?_⟩;all_goals simp[go_sem,a0,a1]
 ·have c:=bP ((j:Int)<(s.length:Int));simp only[go_sem,seval,ak,a0,a7,c];refine .inr ⟨ai,rfl,?_,?_,j,?_,aa,o,f,λt a=>(p (eg a)).elim⟩;all_goals simp[go_sem,a0,a1,a7]
def azo{s:List UInt8}{i:Nat}{b:UInt8}(hb:s[i]? =some b)(A:b.toNat=34)(G:s.length<=16384)(α:az)(H:ab)(a0:α 0=.str s)(a1:α 1=.i i)(a7:α 7=.i (i+1:Nat)):
  aD (aP aQ (run aQ) aJ GM α H) (vj s i):=by
 have hi:=eg hb;have D:GM=.seq aCq adV:=rfl;rw[D,uT];refine jE (id:=4) ?_;rw[gB];refine aT (lW (Sx s i) (adW s i) (λd α H F=>akQ G d α H F) (s.length-i) _ _ ⟨⟨i+1,aa,μ _,rfl,a7⟩,a0,a1⟩) ?_;rintro x ae H' ⟨rfl,m,b1,j,b7,qK,r9,u,C⟩;refine .inl ⟨.inr rfl,?_⟩;have E:adV=.seq (.seq _ _) (.seq _ (.seq (.seq _ _) (.seq _ _))):=rfl;rw[E];have e:=Yw (t:=s.drop (i+1)) A;rw[<-(ke hb)] at e;by_cases I:j<s.length
 ·have l:=bP ((j:Int)≥(s.length:Int));obtain⟨z,n⟩:=get_some I;have w:=jf n;have f:((z.toNat:Int)==10)=decide (z.toNat=10):=lQ z 10;by_cases o:z.toNat=10
  ·rw[π o] at f;have c:=WW n o;rw[u,jv] at c
   have c:kX (s.drop (i+1))=none:=by
    cases hq:kX (s.drop (i+1)) with
    |none=>rfl
    |some q=>rw[hq] at c;cases c
   rw[c] at e;simp only[go_sem,ak,↓reduceIte,Nat.reduceEqDiff,m,b7,l,w,f];refine Cg e rfl ?_ ?_ ?_;all_goals simp only[go_sem,↓reduceIte,Nat.reduceEqDiff]
   rfl
  ·rw[ξ o] at f;have r:z.toNat=34:=by rcases C z n with h|h;exact h;exact(o h).elim
   have k:=UM n r;rw[u,jv] at k
   cases hq:kX (s.drop (i+1)) with
   |none=>rw[hq] at k;cases k
   |some q=>
    rw[hq] at k e;simp at k;have p:j+1=i+(q+1):=aa;have B:=U2 hb A hq;rw[show i+1+q=j+1 by omega] at B;have w1:=f_ (j+1) (j+1:Nat);have y:=xI s (a:=i) (b:=j+1) aa aa;have g:=ahA ((s.take (j+1)).drop i) aX;rw[pv,B] at g;simp only at e
    cases ue:(ig ((s.drop (i+1)).take (q-1))).isSome with
    |true=>
     rw[ue,ν rfl] at g;rw[ν ue] at e;have v:((0:Int) != 0)=false:=rfl;simp only[go_sem,ak,↓reduceIte,Nat.reduceEqDiff,m,b1,b7,l,w,f,w1,y,g,v,iz];refine CB e rfl ?_ ?_ ?_;all_goals simp only[go_sem,↓reduceIte,Nat.reduceEqDiff]
     ·rfl
     ·rw[p]
    |false=>
     rw[ue,κ aA] at g;rw[κ (by rw[ue];decide)] at e;have v:((22:Int) != 0)=true:=rfl;simp only[go_sem,ak,↓reduceIte,Nat.reduceEqDiff,m,b1,b7,l,w,f,w1,y,g,v,iz];refine Cg e rfl ?_ ?_ ?_;all_goals simp only[go_sem,↓reduceIte,Nat.reduceEqDiff]
     rfl
 ·have l:=bJ ((j:Int)≥(s.length:Int));have c:=MY (s:=s) (i:=j) aa;rw[u,jv] at c
  have c:kX (s.drop (i+1))=none:=by
   cases hq:kX (s.drop (i+1)) with
   |none=>rfl
   |some q=>rw[hq] at c;cases c
  rw[c] at e;simp only[go_sem,ak,↓reduceIte,Nat.reduceEqDiff,m,b7,l];refine Cg e rfl ?_ ?_ ?_;all_goals simp only[go_sem,↓reduceIte,Nat.reduceEqDiff]
  rfl
noncomputable def T6:=zG.r.r.l.r.b.b
noncomputable def Sz:Code:=.block 6 (.loop T6)
noncomputable def Kh:=zG.r.r.r
structure SB(s:List UInt8)(i:Nat)(b:UInt8)(d:Nat)(α:az)(H:ab):Prop where
 ex:∃j:Nat,j+d=13/\((oG.drop j).contains b=oG.contains b)/\α 15=.i j
 a0:α 0=.str s
 a1:α 1=.i i
 a7:α 7=.i (i+1:Nat)
 je:α 14=.str oG
def adX(i:Nat)(b:UInt8)(x:Ex)(α:az)(H:ab):Prop:=(x=.exit 6/\oG.contains b=false)\/(x=.ret/\oG.contains b=true/\α 4=.i 5/\α 5=.i (i+1:Nat)/\α 6=.i 0)
def akR{s}{i}{b}(hb:s[i]? =some b)(d:Nat)(α:az)(H:ab)(h:SB s i b d α H):
  aD (aO aQ T6 α H) λx m H'=>(x=.normal/\∃n,n<d/\SB s i b n m H')\/(x≠.normal/\adX i b x m H'):=by
 obtain⟨⟨j,hd,c,g⟩,a0,a1,a7,je⟩:=h;have v:T6=.seq (.seq _ _) (.seq (.block _ (.seq _ _)) _):=rfl;rw[v];have a:oG.length=13:=rfl;by_cases t:j<13
 ·have e:decide ((j:Int)<(oG.length:Int))=true:=π (by rw[a];omega);obtain⟨z,r⟩:=get_some (s:=oG) (i:=j) (by rw[a];exact t);have o:=jf r;have p:=jf hb;have f:((z.toNat:Int)==(b.toNat:Int))=decide (z.toNat=b.toNat):=ez _ _;have w1:=f_ (j+1) (j+1:Nat);rw[ke r] at c;by_cases q:z.toNat=b.toNat
  ·rw[π q] at f;have k:z=b:=aEx.1 q;have w:oG.contains b=true:=by rw[<-c,k];simp
   simp only[go_sem,seval,ak,a0,a1,a7,je,g,e,o,p,f];refine .inr ⟨ai,.inr ⟨rfl,w,?_,?_,?_⟩⟩;all_goals simp[go_sem]
  ·rw[ξ q] at f;have k:¬b=z:=λh=>q (by rw[h])
   have u:(oG.drop (j+1)).contains b=oG.contains b:=by
    rw[<-c,List.contains_cons];have:(b==z)=false:=by simpa using k
    rw[this,aE6]
   simp only[go_sem,seval,ak,a0,a1,je,g,e,o,p,f,w1];refine .inl ⟨trivial,d-1,aa,⟨j+1,aa,u,?_⟩,?_,?_,?_,?_⟩;all_goals simp[go_sem,a0,a1,a7,je]
 ·have e:decide ((j:Int)<(oG.length:Int))=false:=ξ (by rw[a];omega);rw[aDk (l:=oG) (by rw[a];omega)] at c;simp only[go_sem,seval,ak,je,g,e];exact .inr ⟨ai,.inl ⟨rfl,c.symm⟩⟩
def azp{s:List UInt8}{i:Nat}{b:UInt8}(hb:s[i]? =some b)(E:bj b=false)(C:b.toNat≠34)(hn:s.length<=16384)(α:az)(H:ab)(a0:α 0=.str s)(a1:α 1=.i i)(a7:α 7=.i (i+1:Nat)):
  aD (aP aQ (run aQ) aJ zG α H) (vj s i):=by
 have hi:=eg hb;have A:=ke hb;have j:=WX (t:=s.drop (i+1)) E C;have hU:zG=.seq (.seq _ _) (.seq _ (.seq (.seq _ Sz) Kh)):=rfl;rw[hU];have w:=jf hb;have l:((b.toNat:Int)==61)=decide (b.toNat=61):=lQ b 61;have w1:=f_ (((i+1:Nat):Int)+1) (i+2:Nat);by_cases o:b.toNat=61/\((s.drop (i+1)).head?.map UInt8.toNat)=some 61
 ·have g:∃z,s[i+1]? =some z/\z.toNat=61:=by
   have q:=o.2;rw[aFi,aDB,aEp] at q;simp at q;exact q
  obtain⟨z,g,p⟩:=g;have v:=jf g;have B:=eg g;have m:=bJ (((i+1:Nat):Int)<(s.length:Int));have c2:((z.toNat:Int)==61)=decide (z.toNat=61):=lQ z 61;rw[π o.1] at l;rw[π p] at c2;rw[jR,ν o,κ aA,<-A] at j;simp only[go_sem,ak,↓reduceIte,Nat.reduceEqDiff,a0,a1,a7,m,w,v,l,c2,w1];refine CB j rfl ?_ ?_ ?_;all_goals simp only[go_sem,↓reduceIte,Nat.reduceEqDiff]
  rfl
 ·rw[jR,κ o,<-A] at j
  have key:∀a:az,∀c,a 0=.str s->a 1=.i i->a 7=.i (i+1:Nat)->aD (aP aQ (run aQ) aJ (match zG with| .seq _ k=>k|_=>.skip) a c) (vj s i):=by
   intro a c f b1 b7;have K:(match zG with| .seq _ k=>k|_=>.skip)=.seq _ (.seq (.seq _ Sz) Kh):=rfl
   rw[K];simp only[go_sem];refine jE (id:=6) ?_;rw[gB];refine aT (lW (SB s i b) (adX i b) (λd α H F=>akR hb d α H F) 13 _ _ ⟨⟨0,aa,rfl,?_⟩,?_,?_,?_,?_⟩) ?_
   case refine_6=>
    rintro x gH H2 (⟨rfl,y⟩|⟨rfl,y,J,G,I⟩)
    ·refine .inl ⟨.inr rfl,?_⟩;have D:Kh=.seq _ _:=rfl;rw[D];rw[y] at j;simp only[go_sem];refine Cg (e:=21) j rfl ?_ ?_ ?_;all_goals simp only[go_sem,↓reduceIte,Nat.reduceEqDiff]
     rfl
    ·refine .inr ⟨rfl,?_⟩;rw[y] at j;exact CB (k:=5) (n:=1) j rfl J G I
   all_goals(simp only[go_sem,↓reduceIte,Nat.reduceEqDiff,f,b1,b7];try rfl)
  have u:(match zG with| .seq _ k=>k|_=>.skip)=.seq (.region 36 _ _) (.seq (.seq _ Sz) Kh):=rfl
  rw[u] at key;by_cases B:i+1<s.length
  ·have m:=bJ (((i+1:Nat):Int)<(s.length:Int));obtain⟨z,g⟩:=get_some B;have v:=jf g;have c2:((z.toNat:Int)==61)=decide (z.toNat=61):=lQ z 61;by_cases r:b.toNat=61
   ·rw[π r] at l;have L:¬z.toNat=61:=λh=>o ⟨r,by rw[aFi,aDB,aEp,g,aEL,h]⟩;rw[ξ L] at c2;rw[uT];refine Ae (Q:=λx a c=>x=.normal/\a 0=.str s/\a 1=.i i/\a 7=.i (i+1:Nat)) ?_ ?_
    ·simp only[go_sem,ak,↓reduceIte,Nat.reduceEqDiff,a0,a1,a7,m,w,v,l,c2]
    ·rintro x a c ⟨rfl,f,b1,b7⟩;exact key a c f b1 b7
   ·rw[ξ r] at l;rw[uT];refine Ae (Q:=λx a c=>x=.normal/\a 0=.str s/\a 1=.i i/\a 7=.i (i+1:Nat)) ?_ ?_
    ·simp only[go_sem,ak,↓reduceIte,Nat.reduceEqDiff,a0,a1,a7,m,w,l]
    ·rintro x a c ⟨rfl,f,b1,b7⟩;exact key a c f b1 b7
  ·have m:=bP (((i+1:Nat):Int)<(s.length:Int));rw[uT];refine Ae (Q:=λx a c=>x=.normal/\a 0=.str s/\a 1=.i i/\a 7=.i (i+1:Nat)) ?_ ?_
   ·simp only[go_sem,ak,↓reduceIte,Nat.reduceEqDiff,a0,a1,a7,m]
   ·rintro x a c ⟨rfl,f,b1,b7⟩;exact key a c f b1 b7
def Dc(s:List UInt8)(i:Nat):AV:=match one (s.drop i) with
 | .error e=>.tup [.i 0,.i 0,.i e]
 | .ok (k,n)=>.tup [.i k,.i (i+n:Nat),.i 0]
def aqq(s)(i):(Dc s i).aq=true:=by unfold Dc;split<;>rfl
def azq{s}{i}{x}{α}{H}(h:vj s i x α H):∃v,pQ (finish prog f157.results.toList (x,α,H))=some v/\v.erase=Dc s i:=by
 obtain⟨rfl,h⟩:=h;unfold Dc
 cases ho:one (s.drop i) with
 |error e=>rw[ho] at h;obtain⟨c,a,b⟩:=h;simp only[go_sem,results157,c,a,b];exact⟨_,rfl,rfl⟩
 |ok p=>obtain⟨k,n⟩:=p;rw[ho] at h;obtain⟨c,a,b⟩:=h;simp only[go_sem,results157,c,a,b];exact⟨_,rfl,rfl⟩
def OV{s}{i}{x}{α}{H}{k}(h:vj s i x α H):aD (andThen (x,α,H) k) (vj s i):=by have:=h.1;subst this;exact h
def azr{s:List UInt8}{i:Nat}{b:UInt8}(hb:s[i]? =some b)(e:s.length<=16384):aI prog (run aQ) 157 [.str s,.i i]=some (Dc s i):=by
 refine fk (c:=.seq _ (.seq _ (.seq (.seq _ (.cond _ GL _)) (.seq (.seq _ (.cond _ GM _)) zG)))) rfl rfl func157 rfl (by rw[ntmps157];simp) (bW:=[.str s,.i i]) rfl rfl ?_ (aqq _ _);have hi:=eg hb;have f:=jf hb;have a:=Q8 b;have d:=Q9 b;have g:((b.toNat:Int)==34)=decide (b.toNat=34):=lQ b 34;have w1:=f_ (i+1) (i+1:Nat);refine aT (P:=vj s i) ?_ (λx α H h=>azq h)
 cases hL:isLet b with
 |true=>
  rw[hL] at a;simp[go_sem,ak,f,a,w1];refine Ae (acQ hb (by simp[bj,hL]) e _ _ ?_ ?_ ?_) (λx α H h=>OV h);all_goals(simp[go_sem];try rfl)
 |false=>
  rw[hL] at a
  cases hD:jK b with
  |true=>
   rw[hD] at d;simp[go_sem,ak,f,a,d,w1];refine Ae (acQ hb (by simp[bj,hD]) e _ _ ?_ ?_ ?_) (λx α H h=>OV h);all_goals(simp[go_sem];try rfl)
  |false=>
   rw[hD] at d;by_cases j:b.toNat=34
   ·rw[π j] at g;simp[go_sem,ak,f,a,d,w1,g];refine Ae (azo hb j e _ _ ?_ ?_ ?_) (λx α H h=>OV h);all_goals(simp[go_sem];try rfl)
   ·rw[ξ j] at g;simp[go_sem,ak,f,a,d,w1,g];refine azp hb (by simp[bj,hL,hD]) j e _ _ ?_ ?_ ?_;all_goals(simp[go_sem];try rfl)
def E':eW prog 68=some 95:=af
def adY:jN prog 95=some 48:=af
def azs(o)(l:List Tok):gD prog #[68] [.vec o (V l)]=some (.i l.length):=by simp[gD,E',CJ]
def aCs(k a)(l t)(H):dS prog 68 1 [(0,.agg [.i k,.i a,.str l,.str t])] H=some (.vec .full [.agg [.i k,.i a,.str l,.str t]],H):=by simp[dS,E',lp,E_,mH,fF,lZ,eE,AV.erase,AV.width,AV.cells,AV.one,sD,Ck]
def NV(l):ow prog 68 (V l)=true:=by cases l<;>simp[ow,E',lp,V,mj,AV.width]
attribute [go_sem] azs aCs
def wP(m:Nat)(L:List (Nat×bH))(o:Ab.Own)(out:List Tok):Prop:=
 (o=.nil/\out=[])\/(out≠[]/\∃j,o=.own j/\j<m/\cq L j=some (.bB out.length 95))
def NW{m}{L}{o:Ab.Own}{out:List Tok}(h:wP m L o out)(hn:out.length<=16384)(x):∃i m' b,cj (λ_=>false) prog 68 68 (.vec o (V out)) (.vec .full [mj x]) ⟨m,L⟩=some (.vec i (V (out++[x])),⟨m',b⟩)/\wP m' b i (out++[x])/\m<=m'/\
  ∀id te cs,id<m->cq L id=some (.c te cs)->cq b id=some (.c te cs):=by
 have f:ow prog 68 [mj x]=true:=NV [x];rcases h with⟨rfl,rfl⟩|⟨aL,j,rfl,e,hg⟩
 ·refine⟨.own m,m+1,(m,.bB 1 95)::L,?_,.inr ⟨ai,m,rfl,aa,by simp[br]⟩,aa,λid te cs hid a=>by rw[br,bV];exact a⟩;have g:=NV [];simp only[V,aEr,aDl,aDm] at g⊢;simp[cj,E',lp,adY,E_,jt,lC,f,g,ab.push]
 ·refine⟨.own j,m,aH L j (.bB (out.length+1) 95),?_,.inr ⟨ai,j,rfl,e,by rw[bg,ν rfl,hg];simp⟩,μ _,λid te cs hid a=> ?_⟩
  ·simp only[cj,E',lp,adY,E_,jt,lC,f,NV out,CJ out,ab.get,ab.set,e,hg,awq out x,Ι,Χ,aDz];simp[show(out.length+1)*48<=140737488355328 by omega,show out.length+1<=9223372036854775807 by omega]
  ·rw[bg];by_cases d:j=id
   ·subst d;rw[hg] at a;cases a
   ·rw[κ d];exact a
def rO(a b):(((a:Nat):Int) != ((b:Nat):Int))= !decide (a=b):=by rw[bne,ez]
def avF{r}{e}(h:one r=.error e):e≠0:=by
 cases r with
 |nil=>simp[one] at h
 |cons c t=>
  simp[one] at h;repeat' split at h
  all_goals first|(cases h;done)|(simp at h;subst h;decide)
def Ba(x:Except (Nat×Nat) (List Tok))(e:Ex)(α:az)(H:ab):Prop:=e=.ret/\match x with
 | .error (e,a)=>α 2=.vec .nil []/\α 3=.i e/\α 4=.i a
 | .ok l=>(∃j,α 2=.vec (.own j) (V l))/\α 3=.i 0/\α 4=.i 0
def call9:=lJ aQ prog 155 rfl rfl
def call10:=lJ aQ prog 156 rfl rfl
def call11:=lJ aQ prog 157 rfl rfl
def akS:jF prog 95=some [(0,1),(1,1),(2,1),(3,1)]:=af
def aCt(a)(l):sx prog 95 [(1,.i a),(2,.str l)]=some (.agg [.i 0,.i a,.str l,.str []]):=by simp[sx,E_,akS,aZ,AV.width,AV.cells,eD]
attribute [go_sem] call9 call10 call11 aCt
noncomputable def T7:=f110.c.r.r.r.r.r.r
noncomputable def B4:=T7.b.b
structure I4(s:List UInt8)(R:Except (Nat×Nat) (List Tok))(d:Nat)(α:az)(H:ab):Prop where
 ex:∃(i m:Nat) (L:List (Nat×bH)) (o:Ab.Own) (out:List Tok),H=⟨m,L⟩/\i+d=s.length/\wP m L o out/\out.length<=4000/\rN s i out=R/\α 7=.i i/\α 6=.vec o (V out)
 a0:α 0=.str s
def aad{m}{L}{o}{out}(h:wP m L o out)(a:out≠[]):∃j,o=.own j:=by
 rcases h with⟨_,rfl⟩|⟨_,j,rfl,_⟩
 ·exact(a rfl).elim
 ·exact⟨j,rfl⟩
def avG{s:List UInt8}{R:Except (Nat×Nat) (List Tok)}(W:s.length<=16384)(d)(α)(H)(h:I4 s R d α H):
  aD (aO aQ B4 α H) λx S H'=>(x=.normal/\∃U,U<d/\I4 s R U S H')\/(x≠.normal/\Ba R x S H'):=by
 obtain⟨⟨i,m,L,o,out,rfl,hd,Q,gW,c,a7,a6⟩,a0⟩:=h;have hB:B4=.block _ (.seq _ (.seq _ (.seq _ (.seq _ (.seq (.seq _ (.cond _ (.seq _ (.seq (.seq _ _) (.seq _ _))) _)) (.seq (.seq _ _) (.seq _ (.seq _ (.seq _ (.seq _ _)))))))))):=rfl;rw[hB];have hi:i<=s.length:=aa;have z:=avs s i hi W;have jm:=Ea s hi;have N:=D' s i;rw[N7 s i out hi] at c;have u:=xI s jm N;have w:=aY (m<m+1);by_cases T:bh s i<s.length
 ·have t:=bJ ((bh s i:Int)<(s.length:Int));obtain⟨b,hb⟩:=get_some T;have r:=azr hb W;rw[Dc] at r
  cases p:one (s.drop (bh s i)) with
  |error e=>
   rw[p] at r c;have c1:((e:Int) != 0)=true:=by have:=rO e 0;rw[ξ (avF p)] at this;exact this
   simp only[go_sem,seval,ak,lp,a0,a7,z,u,w,t,r,c1,iz];refine .inr ⟨ai,rfl,?_⟩;rw[<-c];refine⟨?_,?_,?_⟩;all_goals simp[go_sem]
  |ok q=>
   obtain⟨kd,n⟩:=q;rw[p] at r c;have f:=x_ p;have P:s.drop (bh s i)≠[]:=by rw[ke hb];simp
   have v:kd≠0:=λY=>P (f.2.1.1 Y);have uq:=f.2.2.1 P;have Z:=f.1;rw[atB] at Z;have X:((0:Int) != 0)=false:=rfl;by_cases g:4000<=out.length
   ·have l:=bJ ((out.length:Int)≥4000);simp[ν g] at c;simp only[go_sem,seval,ak,qt,lp,a0,a6,a7,z,u,w,t,r,X,l,iz];refine .inr ⟨ai,rfl,?_⟩;rw[<-c];refine⟨?_,?_,?_⟩;all_goals(simp[go_sem];try rfl)
   ·have l:=bP ((out.length:Int)≥4000);simp[κ g,κ v] at c;have O:=xI s (a:=bh s i) (b:=bh s i+n) aa aa
    obtain⟨V,m',B,A,D,F,E⟩:=NW (m:=m+1) (L:=(m,.k 95 [.i kd,.i (bh s i:Int),.str ((s.take (bh s i)).drop i),.str ((s.take (bh s i+n)).drop (bh s i))])::L) (o:=o) (out:=out) (by
     rcases Q with h|⟨G,j,C,h3,g⟩
     ·exact .inl h
     ·exact .inr ⟨G,j,C,aa,by rw[br,bV];exact g⟩) aa (sK s i kd n)
    have J:mj (sK s i kd n)=.agg [.i kd,.i (bh s i:Int),.str ((s.take (bh s i)).drop i),.str ((s.take (bh s i+n)).drop (bh s i))]:=rfl;rw[J] at A;have K:e_ B m=some [.i kd,.i (bh s i:Int),.str ((s.take (bh s i)).drop i),.str ((s.take (bh s i+n)).drop (bh s i))]:=by rw[e_,E m _ _ aa (by rw[br,ν rfl])]
    have I:=aY (m<m');have M:((kd:Int)==0)=false:=by have:=ez kd 0;rw[ξ v] at this;exact this
    have aCu:∀x y H,cQ aQ.eX prog [68,68] [x,y] H=cj (λ_=>false) prog 68 68 x y H:=λ_ _ _=>rfl;simp only[go_sem,seval,ak,qt,pJ,lp,a0,a6,a7,z,u,O,w,t,r,X,l,iz,A,I,K,M];refine .inl ⟨trivial,s.length-(bh s i+n),aa,⟨bh s i+n,m',B,V,out++[sK s i kd n],rfl,aa,D,aX,c,?_,?_⟩,?_⟩;all_goals simp[go_sem,a0]
 ·have T:bh s i=s.length:=aa;have t:=bP ((bh s i:Int)<(s.length:Int));have p:one (s.drop (bh s i))=.ok (0,0):=by rw[aDk aa];rfl
  rw[p] at c;by_cases g:4000<=out.length
  ·have l:=bJ ((out.length:Int)≥4000);simp[ν g] at c;simp only[go_sem,seval,ak,lp,a0,a6,a7,z,u,w,t,l];refine .inr ⟨ai,rfl,?_⟩;rw[<-c];refine⟨?_,?_,?_⟩;all_goals(simp[go_sem];try rfl)
  ·have l:=bP ((out.length:Int)≥4000);simp[κ g] at c;have O:=xI s (a:=bh s i) (b:=bh s i) (μ _) aa
   obtain⟨V,m',B,A,D,F,E⟩:=NW (m:=m+1) (L:=(m,.k 95 [.i 0,.i (bh s i:Int),.str ((s.take (bh s i)).drop i),.str ((s.take (bh s i)).drop (bh s i))])::L) (o:=o) (out:=out) (by
    rcases Q with h|⟨G,j,C,h3,g⟩
    ·exact .inl h
    ·exact .inr ⟨G,j,C,aa,by rw[br,bV];exact g⟩) aa (sK s i 0 0)
   have J:mj (sK s i 0 0)=.agg [.i 0,.i (bh s i:Int),.str ((s.take (bh s i)).drop i),.str ((s.take (bh s i)).drop (bh s i))]:=rfl;rw[J] at A;have K:e_ B m=some [.i 0,.i (bh s i:Int),.str ((s.take (bh s i)).drop i),.str ((s.take (bh s i)).drop (bh s i))]:=by rw[e_,E m _ _ aa (by rw[br,ν rfl])]
   have I:=aY (m<m');have M:((0:Int)==0)=true:=rfl;simp only[go_sem,seval,ak,pJ,lp,a0,a6,a7,z,u,O,w,t,l,A,I,K,M];obtain⟨j,rfl⟩:=aad D ai;refine .inr ⟨ai,rfl,?_⟩;rw[<-c];refine⟨⟨j,?_⟩,?_,?_⟩;all_goals(simp[go_sem];try rfl)
def aae{s}{a}(h:bad s=some a):decide (mR s≥0)=true/\mR s=(a:Int):=by
 have:mR s=(a:Int):=by rw[mR,h]
 exact⟨by rw[this];exact bJ _,this⟩
def aaf{s}(h:bad s=none):decide (mR s≥0)=false:=by rw[mR,h];rfl
def abH{fn:Func}(f:fn.results.toList=[.tmp 2,.tmp 3,.tmp 4]){R:Except (Nat×Nat) (List Tok)}{x}{α}{H}(h:Ba R x α H):∃v,pQ (finish prog fn.results.toList (x,α,H))=some v/\v.erase=nY R:=by
 obtain⟨rfl,h⟩:=h
 cases R with
 |error q=>obtain⟨e,a⟩:=q;obtain⟨b,d,c⟩:=h;simp only[go_sem,f,b,d,c];exact⟨_,rfl,rfl⟩
 |ok l=>obtain⟨⟨j,b⟩,d,c⟩:=h;simp only[go_sem,f,b,d,c];exact⟨_,rfl,rfl⟩
def aCv(s):aI prog (run aQ) 110 [.str s]=some (nY (lex s)):=by
 refine fk (c:=.seq _ (.seq (.seq _ _) (.seq _ (.seq (.seq _ _) (.seq _ (.seq _ T7)))))) rfl rfl func110 rfl (by rw[ntmps110];simp) (bW:=[.str s]) rfl rfl ?_ (HS _);refine aT (P:=Ba (lex s)) ?_ (λx α H h=>abH (by simp[results110]) h);rw[O'];by_cases b:16384<s.length
 ·have e:=bJ ((s.length:Int)>16384);rw[ν b];simp[go_sem,ak,e];refine⟨rfl,?_,?_,?_⟩;all_goals(simp[go_sem];try rfl)
 ·have e:=bP ((s.length:Int)>16384);rw[κ b];have b:s.length<=16384:=aa;have g:=aCn s b
  cases hb:bad s with
  |some a=>
   obtain⟨f,j⟩:=aae hb;rw[j] at g f;simp[go_sem,ak,e,g,f];refine⟨rfl,?_,?_,?_⟩;all_goals(simp[go_sem];try rfl)
  |none=>
   have f:=aaf hb;simp[go_sem,ak,e,g,f];have k:T7=.block 0 (.loop B4):=rfl;rw[k];refine zJ ?_;rw[gB];refine aT (lW (I4 s (rN s 0 [])) (Ba (rN s 0 [])) (λd α H i=>avG b d α H i) s.length _ _ ⟨⟨0,0,[],.nil,[],rfl,aa,.inl ⟨rfl,rfl⟩,ai,rfl,?_,?_⟩,?_⟩) ?_
   case refine_4=>
    rintro x ae H' h;exact .inr ⟨h.1,by have:=h.1;subst this;exact h⟩
   all_goals(simp[go_sem];try rfl)
def call35:=lJ aQ prog 141 rfl rfl
def call36:=wJ aQ 142 rfl rfl
def call37:=wJ aQ 143 rfl rfl
def akT:jF prog 235=some [(0,1),(1,1)]:=af
def avH:dq prog 235=some [.str [],.i 0]:=af
def aCw(s):sx prog 235 [(0,.str s)]=some (.agg [.str s,.i 0]):=by simp[sx,avH,akT,aZ,AV.width,AV.cells,eD]
attribute [go_sem] call35 call36 call37 aCw
noncomputable def SC:=f100.c.r.r.r.r.r
noncomputable def LB:=SC.b.b
structure T9(s:List UInt8)(R:Except (Nat×Nat) (List Tok))(d:Nat)(α:az)(H:ab):Prop where
 ex:∃(i m:Nat) (L:List (Nat×bH)) (o:Ab.Own) (out:List Tok),H=⟨m,L⟩/\i+d=s.length/\Sc m L 0 s i/\wP m L o out/\out.length<=4000/\rN s i out=R/\α 7=.vec o (V out)
 a6:α 6=.ptr 0 0
def ahB{k a b a'}{l t c t'}(h:AV.agg [.i k,.i a,.str l,.str t]=.agg [.i b,.i a',.str c,.str t']):k=b/\a=a'/\l=c/\t=t':=by simp at h;exact h
def aqr{s:List UInt8}{R:Except (Nat×Nat) (List Tok)}(Q:s.length<=16384)(d)(α)(H)(h:T9 s R d α H):
  aD (aO aQ LB α H) λx K H'=>(x=.normal/\∃P,P<d/\T9 s R P K H')\/(x≠.normal/\Ba R x K H'):=by
 obtain⟨⟨i,m,L,o,out,rfl,hd,f,X,gW,b,a7⟩,a6⟩:=h;have hB:LB=.block _ (.seq _ (.seq _ (.seq _ (.seq (.seq _ _) (.seq (.seq _ _) (.seq _ (.seq _ (.seq _ _)))))))):=rfl;rw[hB];have hi:i<=s.length:=aa;have jm:=Ea s hi;have B:=avo f hi Q;rw[N7 s i out hi] at b;have S:=f.set (bh s i);have w:(0<m)=True:=υ f.1;have v:=S.cells;obtain⟨r,l,tk,ta,tl,tt,e,c,j,rfl,t⟩:=avC S (D' s i) Q;rw[gh] at l;rw[rJ] at t;have z:=aY (m+1<m+1+1)
 cases ho:one (s.drop (bh s i)) with
 |error e'=>
  rw[ho] at t b;obtain⟨rfl,W⟩:=t;have c1:((e':Int) != 0)=true:=by simpa using W
  simp only[go_sem,seval,ak,lp,z,a6,B,w,v,l,iz,c1];refine .inr ⟨ai,rfl,?_⟩;rw[<-b];refine⟨?_,?_,?_⟩;all_goals(simp[go_sem];try rfl)
 |ok q=>
  obtain⟨kd,n⟩:=q;rw[ho] at t b;obtain⟨rfl,rfl,Y⟩:=t;obtain⟨rfl,rfl,rfl,rfl⟩:=ahB Y;have F:((0:Int) != 0)=false:=rfl;have a:=x_ ho;have gP:=a.1;rw[atB] at gP;by_cases u:4000<=out.length
  ·have A:=bJ ((out.length:Int)≥4000);simp[ν u] at b;simp only[go_sem,seval,ak,lp,z,a6,a7,B,w,v,l,iz,F,A];refine .inr ⟨ai,rfl,?_⟩;rw[<-b];refine⟨?_,?_,?_⟩;all_goals(simp[go_sem];try rfl)
  ·have A:=bP ((out.length:Int)≥4000);simp[κ u] at b
   have U:∀p,p<m->cq L p=some (.bB out.length 95)->cq (aH L 0 (sc s (bh s i+n))) p=some (.bB out.length 95):=by
    intro p hj hg;rw[bg];by_cases N:0=p
    ·subst N;rw[f.2] at hg;cases hg
    ·rw[κ N];exact hg
   obtain⟨o',m',C,G,I,adZ,J⟩:=NW (m:=m+1+1) (L:=(m+1,.k 95 [.i kd,.i (bh s i:Int),.str ((s.take (bh s i)).drop i),.str ((s.take (bh s i+n)).drop (bh s i))])::(m,c)::aH L 0 (sc s (bh s i+n))) (o:=o) (out:=out) (by
    rcases X with h|⟨Z,j,T,h3,u⟩
    ·exact .inl h
    ·exact .inr ⟨Z,j,T,aa,by rw[br,bV,br,bV];exact U j h3 u⟩) aa (sK s i kd n)
   have nE:mj (sK s i kd n)=.agg [.i kd,.i (bh s i:Int),.str ((s.take (bh s i)).drop i),.str ((s.take (bh s i+n)).drop (bh s i))]:=rfl;rw[nE] at G;have O:e_ C (m+1)=some [.i kd,.i (bh s i:Int),.str ((s.take (bh s i)).drop i),.str ((s.take (bh s i+n)).drop (bh s i))]:=by rw[e_,J (m+1) _ _ aa (by rw[br,ν rfl])]
   have D:Sc m' C 0 s (bh s i+n):=⟨by have:=f.1;omega,J 0 _ _ aa (by rw[br,bV,br,κ (by have:=f.1;omega)];exact(f.set (bh s i+n)).2)⟩;have M:=aY (m+1<m');have aCu:∀x y H,cQ aQ.eX prog [68,68] [x,y] H=cj (λ_=>false) prog 68 68 x y H:=λ_ _ _=>rfl;by_cases g:kd=0
   ·have E:((kd:Int)==0)=true:=by rw[g];rfl
    simp[ν g] at b;simp only[go_sem,seval,ak,pJ,lp,a6,a7,B,w,v,l,iz,F,A,z,G,M,O,E];obtain⟨j,rfl⟩:=aad I ai;refine .inr ⟨ai,rfl,?_⟩;rw[<-b];refine⟨⟨j,?_⟩,?_,?_⟩;all_goals(simp[go_sem];try rfl)
   ·have E:((kd:Int)==0)=false:=by
     have:=ez kd 0;rw[ξ g] at this;exact this
    simp[κ g] at b;have V:s.drop (bh s i)≠[]:=λhh=>g (a.2.1.2 hh);have uq:=a.2.2.1 V;simp only[go_sem,seval,ak,pJ,lp,a6,a7,B,w,v,l,iz,F,A,z,G,M,O,E];refine .inl ⟨trivial,s.length-(bh s i+n),aa,⟨bh s i+n,m',C,o',out++[sK s i kd n],rfl,aa,D,I,aX,b,?_⟩,?_⟩;all_goals simp[go_sem,a6]
def azt(s):aI prog (run aQ) 100 [.str s]=some (nY (lex s)):=by
 refine fk (c:=.seq _ (.seq (.seq _ _) (.seq (.seq _ (.seq _ _)) (.seq _ (.seq _ SC))))) rfl rfl func100 rfl (by rw[ntmps100];simp) (bW:=[.str s]) rfl rfl ?_ (HS _);refine aT (P:=Ba (lex s)) ?_ (λx α H h=>abH (by simp[results100]) h);rw[O'];by_cases b:16384<s.length
 ·have e:=bJ ((s.length:Int)>16384);rw[ν b];simp[go_sem,ak,e];refine⟨rfl,?_,?_,?_⟩;all_goals(simp[go_sem];try rfl)
 ·have e:=bP ((s.length:Int)>16384);rw[κ b];have b:s.length<=16384:=aa;have g:=azm s b
  cases hb:bad s with
  |some a=>
   obtain⟨f,j⟩:=aae hb;rw[j] at g f;simp[go_sem,ak,e,g,f];refine⟨rfl,?_,?_,?_⟩;all_goals(simp[go_sem];try rfl)
  |none=>
   have f:=aaf hb;simp[go_sem,ak,e,g,f];have k:SC=.block 0 (.loop LB):=rfl;rw[k];refine zJ ?_;rw[gB];refine aT (lW (T9 s (rN s 0 [])) (Ba (rN s 0 [])) (λd α H i=>aqr b d α H i) s.length _ _ ⟨⟨0,1,_,.nil,[],rfl,aa,⟨aa,rfl⟩,.inl ⟨rfl,rfl⟩,ai,rfl,?_⟩,?_⟩) ?_
   case refine_3=>
    rintro x ae H' h;exact .inr ⟨h.1,by have:=h.1;subst this;exact h⟩
   all_goals(simp[go_sem];try rfl)
def aft:dN prog (wt 239 329):=afV (AK 239 _ func239 af af) af agj afq
def mixed:prog.follows .mixedOrders=true:=af
def abI:ia aQ where
 mixed:=mixed
 pZ:=λf a=>WL (aDn.1 ap8 f (Θ.1 a))
 ext:=mK aky (mK aft (mK ahr (mK agl ahs)))
def aqs:dN prog JG:=by
 intro f args H v H' h;unfold JG at h;split at h
 ·rename_i l;split at h
  ·rename_i a;cases h;simp only[aD7,aEh] at a;rcases a with rfl|rfl
   ·exact⟨AK 110 _ func110 af af,L8 abI (aCv l) H⟩
   ·exact⟨AK 100 _ func100 af af,L8 abI (azt l) H⟩
  ·cases h
 ·cases h
end Go.Proofs.YtmehamiifalmaaaGreatDoor.K
