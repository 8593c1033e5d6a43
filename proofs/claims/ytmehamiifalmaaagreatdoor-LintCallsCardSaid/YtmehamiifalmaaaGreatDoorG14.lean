/- LintCalls: part 15 of its proof. -/
import Derived.Test.YtmehamiifalmaaaGreatDoorG13
set_option linter.all false
namespace Go.Proofs.YtmehamiifalmaaaGreatDoor
open Go Go.Ab Go.Proofs.Tryz
set_option maxRecDepth 100000
set_option maxHeartbeats 8000000
def dF.push{b mb g}{m}{item}{fs}{gs}{H:ab}(h:dF b mb g m item fs gs H)(y):dF b mb g m item fs gs (H.push y):=by
 have a:∀i x,H.get i=some x->(H.push y).get i=some x:=λi x hi=>by rw[ab.dT,κ (by have:=ab.eg hi;omega)];exact hi
 obtain⟨tm,o1,o2,bv,f,e,d,k⟩:=h.hm;exact h.bU (λi x _ _ hi=>a i x hi) ⟨tm,o1,o2,bv,a _ _ f,e.bU λj n c=>a _ _ c,d.bU λj n c=>a _ _ c,xU k λi n et s cs hi=>a _ _ hi⟩
def Kp.push{b mb}(H:ab)(y):Kp b mb H (H.push y):=⟨awF _,λi te cs _ _ hi=>by
 rw[ab.dT,κ (by have:=ab.eg hi;omega)];exact hi⟩
def call146:=ju bu 146 rfl rfl
def ang:=ju bu 225 rfl rfl
def call102:=ju bu 102 rfl rfl
def call191:=ju bu 191 rfl rfl
def call190:=ju bu 190 rfl rfl
def call149:=ju bu 149 rfl rfl
def call103:=ju bu 103 rfl rfl
def call147:=ju bu 147 rfl rfl
attribute [go_sem] call146 ang call102 call191 call190 call149 call103 call147
def asJ:bu.cl 102=false:=af
def asK:bu.cl 149=false:=af
attribute [go_sem] asJ asK
def At.n{g id n b}{cZ gs c}{fs a}(h:At g id cZ fs gs a c n)(e:n=b):At g id cZ fs gs a c b:=e▸h
def IH{b mb g id}{m:Mp}{item}{cZ gs u}{fs t}{H}(h:dF b mb g m item fs gs H)(l:At g id cZ fs gs t u m.bs.length)(y:m.bs.length<=1000000)(I:m.bad.length<=1000000000)(nd)(k:Nat):
  ∃H',run bu 102 [.ptr b 0,.map id,aB nd,.i k] H=some (.tup [],H')/\dF b mb g (fe m (bo fs gs) nd k item) item t u H'/\Kp b mb H H':=by
 obtain⟨n,L⟩:=H;have p:=h.push (.z (aC nd));have k1:=Kp.push (b:=b) (mb:=mb) ⟨n,L⟩ (.z (aC nd));obtain⟨kv,c,m1,B,m3⟩:=l.map p;have x:=Nz m1 nd.w;rw[B nd.w] at x;have o:wo prog ⟨n+1,(n,.z (aC nd))::L⟩ 190 (.map id) (.str nd.w) true=some (Dx (cZ.find? λi=>jd m.bs i nd.w)):=x;have K:∃te cs,ab.get ⟨n,L⟩ b=some (.c te cs):=by obtain⟨tb,hb⟩:=h.hb;exact⟨_,_,hb⟩
 have P:∃te cs,ab.get ⟨n,L⟩ mb=some (.c te cs):=by obtain⟨tm,_,_,_,hb,_⟩:=h.hm;exact⟨_,_,hb⟩
 have E:n≠b:=by obtain⟨_,_,hb⟩:=K;have:=(aj.1 hb).1;omega
 have nm:n≠mb:=by obtain⟨_,_,hb⟩:=P;have:=(aj.1 hb).1;omega
 have v:ab.get ⟨n+1,(n,.z (aC nd))::L⟩ n=some (.z (aC nd)):=aj.2 ⟨aa,by rw[br,ν rfl]⟩;have A:=aY (n<n+1);have j:=l.dup m.bs nd.w;suffices hh:∃r,run bu 102 [.ptr b 0,.map id,aB nd,.i k] ⟨n,L⟩=some r/\∃H',r=(.tup [],H')/\dF b mb g (fe m (bo fs gs) nd k item) item t u H'/\Kp b mb ⟨n,L⟩ H' by obtain⟨_,M,H',rfl,d,f⟩:=hh;exact⟨H',M,d,f⟩
 refine g_ (c:=.seq _ (.seq _ RU)) rfl rfl func102 rfl (by rw[ntmps102];simp) ?_
 cases hs:cZ.find? λi=>jd m.bs i nd.w with
 |none=>
  rw[hs] at o j;have s:fe m (bo fs gs) nd k item=⟨m.bs++[⟨nd.a,k,nd.w,item⟩],m.ms,m.bad⟩:=by simp[fe,j]
  rw[s];simp only[go_sem,seval,A,o,Ε];refine aT (V9 (k:=k) (nd:=nd) (q:=n) p l y v nm ?_ ?_ ?_ ?_) ?_
  case refine_5=>
   rintro e G ⟨C,D⟩ ⟨rfl,d,f⟩;simp only[go_sem,seval,results102];exact⟨_,rfl,_,rfl,d,k1.trans f⟩
  all_goals simp[go_sem,]
 |some i=>
  rw[hs] at o j;have s:fe m (bo fs gs) nd k item=⟨m.bs++[⟨nd.a,k,nd.w,item⟩],m.ms,m.bad++[(nd.a,31)]⟩:=by simp[fe,j]
  rw[s];obtain⟨⟨n2,O⟩,J,d,k2⟩:=On p I nd.a 31;have N:run bu 146 [.ptr b 0,.i nd.a,.i 31] ⟨n+1,(n,.z (aC nd))::L⟩=some (.tup [],⟨n2,O⟩):=J;simp only[go_sem,seval,A,o,aDg,N];refine aT (V9 (k:=k) (nd:=nd) (q:=n) d (l.n rfl) y (k2.2 n none _ E nm v) nm ?_ ?_ ?_ ?_) ?_
  case refine_5=>
   rintro e G ⟨C,D⟩ ⟨rfl,f,F⟩;simp only[go_sem,seval,results102];exact⟨_,rfl,_,rfl,f,k1.trans (k2.trans F)⟩
  all_goals simp[go_sem,]
def gY(bs:List Bi)(fs:List gz)(gs:List Nat):Prop:=(∀i∈gs,rE bs i<3)/\∀f∈fs,∀i∈f.cZ,3<=rE bs i
def M2(bs)(w)(rest)(bD):∀cZ:List Nat,me bs w (cZ.map RN.nm++rest) bD=match cZ.find? λi=>jd bs i w with|some i=>some (i,bD)|none=>me bs w rest bD
 |[]=>rfl
 |i::s=>by
  simp[me,aD1]
  cases jd bs i w with
  |true=>rfl
  |false=>exact(M2 bs w rest bD s)
def V_(bs)(w)(gs:List Nat):∀fs bD,∃d,me bs w (bo fs gs) bD=match findF bs w fs bD with|some q=>some q|none=>(gs.find? λi=>jd bs i w).map λi=>(i,d)
 |[],bD=>⟨bD,by
  have:=M2 bs w [] bD gs;rw[aDi] at this;simp[bo,zk,findF,this]
  cases gs.find? λi=>jd bs i w<;>rfl⟩
 |f::r,bD=>by
  obtain⟨d,ih⟩:=V_ bs w gs r (if f.lam then bD+1 else bD);refine⟨d,?_⟩;have a:bo (f::r) gs=f.cZ.map RN.nm++.e9 f.lam::bo r gs:=by simp[bo,zk]
  rw[a,M2 bs w (.e9 f.lam::bo r gs) bD f.cZ];simp[findF,me]
  cases f.cZ.find? λi=>jd bs i w with
  |some i=>rfl
  |none=>exact ih
def NA{bs}{w}:∀{fs:List gz} {bD i d:Nat},findF bs w fs bD=some (i,d)->∃f∈fs,i∈f.cZ
 |f::r,bD,i,d,h=>by
  simp[findF] at h
  cases hs:f.cZ.find? λi=>jd bs i w with
  |some j=>simp[hs] at h;obtain⟨rfl,rfl⟩:=h;exact⟨f,ai,aD3 hs⟩
  |none=>simp[hs] at h;obtain⟨g,hg,hi⟩:=NA h;exact⟨g,by simp[hg],hi⟩
def tY(m:Mp)(n:Nd)(wr:Bool)(to:Option Nat):List (Nat×Nat):=match to with
 |none=>m.bad++[(n.a,30)]
 |some i=>if wr=true/\rE m.bs i<3 then m.bad++[(n.a,35)] else m.bad
def MH{m:Mp}{fs}{gs:List Nat}(b:gY m.bs fs gs)(n:Nd)(wr):eH m (bo fs gs) n wr=⟨m.bs,m.ms++[⟨n.a,(pR m.bs n.w fs gs).1,wr,(pR m.bs n.w fs gs).2⟩],tY m n wr (pR m.bs n.w fs gs).1⟩:=by
 obtain⟨d,h⟩:=V_ m.bs n.w gs fs 0;unfold eH;rw[h];unfold pR
 cases hf:findF m.bs n.w fs 0 with
 |some q=>obtain⟨i,bD⟩:=q;obtain⟨f,c,hi⟩:=NA hf;have:=b.2 f c i hi;simp[tY];rw[ν this,bV]
 |none=>
  cases hg:gs.find? λi=>jd m.bs i n.w with
  |none=>rfl
  |some i=>
   have:=b.1 i (aD3 hg);simp[tY];rw[bV]
   cases wr with
   |true=>rw[ν rfl,ν ⟨rfl,this⟩]
   |false=>rw[κ aA,κ ai]
def qF.an{H}{bs:List Bi}:∀{fs:List gz} {f:gz} {i:Nat},qF H bs fs->f∈fs->i∈f.cZ->i<bs.length:=λa b hi=>by obtain⟨_,_,_,_,h⟩:=a.at b;exact h _ hi
def dF.lt{b mb g}{m:Mp}{item}{fs}{gs}{H}(h:dF b mb g m item fs gs H){w}{i}(hi:(pR m.bs w fs gs).1=some i):i<m.bs.length:=by
 unfold pR at hi
 cases hf:findF m.bs w fs 0 with
 |some q=>obtain⟨j,bD⟩:=q;simp[hf] at hi;subst hi;obtain⟨f,d,c⟩:=NA hf;exact h.ch.an d c
 |none=>simp[hf] at hi;obtain⟨_,_,_,_,a⟩:=h.hg;exact a i (aD3 hi)
noncomputable def RW:=f191.c.r.r.r.o
noncomputable def RX:=f191.c.r.r.r
def GP{b mb g q}{m:Mp}{item}{gs}{fs}{H:ab}{nd:Nd}{α}{x:Me}(h:dF b mb g m item fs gs H)(hn:m.ms.length<=1000000)(K:x.at_=nd.a)
  (X:H.get q=some (.z (aC nd))) (hqb:q≠mb) (a0:α 0=.ptr b 0) (a2:α 2=.bool x.wr) (a4:α 4=.ptr q 0) (a6:α 6=.i (dQ x.to)) (a7:α 7=.i x.bD):
  aD (aP bu (run bu) aJ RX α H) λe ae H'=>e=.normal/\dF b mb g ⟨m.bs,m.ms++[x],m.bad⟩ item fs gs H'/\Kp b mb H H':=by
 obtain⟨n2,l⟩:=H;obtain⟨tb,hb⟩:=h.hb;obtain⟨tm,o1,o2,bv,w,ei,lr,kL⟩:=h.hm;obtain⟨j,⟨n4,L4⟩,e2,u,L,p4⟩:=v_ amU (m:=λt=>t==74) rfl (o:=o2) (o2:=.full) (es:=m.ms.map cv) (xs:=[cv x]) (H:=⟨n2,l⟩) (by rw[φ];exact lr) (Hy _) (Hy [_]) ai aX aX;obtain⟨U,S⟩:=aj.1 hb;obtain⟨zm,gm⟩:=aj.1 w;obtain⟨zq,W⟩:=aj.1 X;obtain⟨T,Z⟩:=aj.1 (p4 _ _ ai hb);obtain⟨M,fM⟩:=aj.1 (p4 _ _ ai w);have p:=λH=>aAN x H;rw[K] at p;obtain⟨B,hB,R,r2,Q,s0,s1,Y,s3⟩:∃A,A=RW.toArray/\behind A A.size 18 7=true/\behind A A.size 18 10=true/\behind A A.size 18 12=true/\behind A A.size 21 3=true/\behind A A.size 21 7=true/\behind A A.size 21 10=true/\behind A A.size 21 12=true:=⟨_,rfl,af,af,af,af,af,af,af⟩;rw[show RX=.region 6 RW.toArray true from rfl,m_ _ _ rfl rfl,<-hB];rw[show RW=[_,_,_,_,_,_,_,_,_,_,_,_,_,_,_,_,_,_,_,_,_,_] from rfl];simp only[go_sem,seval,R,r2,Q,s0,s1,Y,s3,aDG,a0,a2,a4,a6,a7,fM,aF S,aF gm,aF W,aF Z,aF fM,υ U,υ zm,υ zq,υ T,υ M,aZ,p,cQ,e2];have d:∀i y,i≠mb->(∀n,y≠.bB n 138)->ab.get ⟨n2,l⟩ i=some y->ab.get ⟨n4,aH L4 mb (.cells tm [.vec o1 (m.bs.map a_),.vec (.own j) (m.ms.map cv++[cv x]),bv])⟩ i=some y:=λi y D J I=>by obtain⟨k,C⟩:=aj.1 (p4 i y J I);exact aj.2 ⟨k,by rw[bg,κ (λe=>D e.symm)];exact C⟩
 have P:ab.get ⟨n4,aH L4 mb (.cells tm [.vec o1 (m.bs.map a_),.vec (.own j) (m.ms.map cv++[cv x]),bv])⟩ mb=some (.cells tm [.vec o1 (m.bs.map a_),.vec (.own j) (m.ms.map cv++[cv x]),bv]):=aj.2 ⟨M,by rw[bg,ν rfl,fM];rfl⟩;have nm:∀{i es c},ab.get ⟨n2,l⟩ i=some (.map es c)->i≠mb:=λ{i es c} hi e=>by rw[e,w] at hi;cases hi
 refine⟨aK,⟨⟨tb,d _ _ h.bm ai hb⟩,⟨tm,o1,.own j,bv,by rw[aEw];exact P,?_,?_,?_⟩,?_,?_,h.nd,h.fb,h.bm⟩,L,λi te cs _ G hc=>d i _ G ai hc⟩
 ·exact ei.bU λi n hi=>d _ _ (by rintro rfl;rw[w] at hi;cases hi) (λO e=>by cases e) hi
 ·have V:((m.ms.map cv)++[cv x]).length=(m.ms++[x]).length:=ai;rw[V] at u;exact u.bU λi n hi=>by obtain⟨k,C⟩:=aj.1 hi;exact aj.2 ⟨k,by rw[bg,κ (by rintro rfl;rw[fM] at C;cases C)];exact C⟩
 ·exact xU kL λi n et s cs hi=>d _ _ (by rintro rfl;rw[w] at hi;cases hi) (λO e=>by cases e) hi
 ·obtain⟨N,c,D,G,J⟩:=h.hg;exact⟨N,c,d _ _ (nm D) ai D,G,J⟩
 ·refine h.ch.bU (λf F y I hi=> ?_) (λf F y I hi=> ?_)
  ·have E:∃te cs,ab.get ⟨n2,l⟩ f.aS=some (.c te cs):=by
    have:∀{fs:List gz},qF ⟨n2,l⟩ m.bs fs->f∈fs->∃te cs,ab.get ⟨n2,l⟩ f.aS=some (.c te cs):=by
     intro fs
     induction fs with
     |nil=>intro _ v;cases v
     |cons x r ih=>
      rintro⟨⟨tf,K⟩,_,hr⟩ v;rcases Ν.1 v with rfl|v
      ·exact⟨_,_,K⟩
      ·exact ih hr v
    exact this h.ch F
   obtain⟨te,cs,E⟩:=E;rw[E] at hi;cases hi;exact d _ _ (h.fb f F).2 ai E
  ·obtain⟨N,c,k,_⟩:=h.ch.at F;rw[k] at hi;cases hi;exact d _ _ (nm k) ai k
def adq(o){bs:List Bi}{i:Nat}{x:Bi}(h:bs[i]? =some x):dC prog 72 (.vec o (bs.map a_)) (.i i)=some (.rptr [.i x.at_,.i x.k,.str x.w,.i x.item]):=by
 have:(bs.map a_)[i]? =some (a_ x):=by simp[h]
 simp[dC,IF,EB,this,a_,AV.width,AV.cells]
def Xo:dQ none= -1:=(rfl)
def B0(i):dQ (some i)=(i:Int):=(rfl)
def V'{b mb g}{m:Mp}{item}{gs}{fs:List gz}{H}(h:dF b mb g m item fs gs H)(Y:gY m.bs fs gs)(B:m.ms.length<=1000000)(R:m.bad.length<=1000000000)(rZ:fs.length<=1000000)(nd)(wr:Bool):
  ∃H',run bu 191 [.ptr b 0,aB nd,.bool wr] H=some (.tup [],H')/\dF b mb g (eH m (bo fs gs) nd wr) item fs gs H'/\Kp b mb H H':=by
 obtain⟨n,L⟩:=H;have j:=h.push (.z (aC nd));have k1:=Kp.push (b:=b) (mb:=mb) ⟨n,L⟩ (.z (aC nd));have r_:∃te cs,ab.get ⟨n,L⟩ b=some (.c te cs):=by obtain⟨tb,hb⟩:=h.hb;exact⟨_,_,hb⟩
 have jb:∃te cs,ab.get ⟨n,L⟩ mb=some (.c te cs):=by obtain⟨tm,_,_,_,hb,_⟩:=h.hm;exact⟨_,_,hb⟩
 have y:n≠b:=by obtain⟨_,_,hb⟩:=r_;have:=(aj.1 hb).1;omega
 have nm:n≠mb:=by obtain⟨_,_,hb⟩:=jb;have:=(aj.1 hb).1;omega
 have A:ab.get ⟨n+1,(n,.z (aC nd))::L⟩ n=some (.z (aC nd)):=aj.2 ⟨aa,by rw[br,ν rfl]⟩;have D:=aY (n<n+1);have l:run bu 225 [.ptr b 0,.str nd.w] ⟨n+1,(n,.z (aC nd))::L⟩=some (.tup [.i (dQ (pR m.bs nd.w fs gs).1),.i ((pR m.bs nd.w fs gs).2:Int)],⟨n+1,(n,.z (aC nd))::L⟩):=asI j rZ nd.w;rw[MH Y];have F:∀i,(pR m.bs nd.w fs gs).1=some i->i<m.bs.length:=λi hi=>h.lt hi;generalize Dz:pR m.bs nd.w fs gs=q at l F;obtain⟨to,bD⟩:=q;simp only at l F;suffices hh:∃r,run bu 191 [.ptr b 0,aB nd,.bool wr] ⟨n,L⟩=some r/\∃H',r=(.tup [],H')/\dF b mb g ⟨m.bs,m.ms++[⟨nd.a,to,wr,bD⟩],tY m nd wr to⟩ item fs gs H'/\Kp b mb ⟨n,L⟩ H' by obtain⟨_,hr,H',rfl,p,d⟩:=hh;exact⟨H',hr,p,d⟩
 refine g_ (c:=.seq _ (.seq _ (.seq _ RX))) rfl rfl func191 rfl (by rw[ntmps191];simp) ?_
 cases to with
 |none=>
  obtain⟨⟨n2,Q⟩,N,p,k2⟩:=On j R nd.a 30;have O:run bu 146 [.ptr b 0,.i nd.a,.i 30] ⟨n+1,(n,.z (aC nd))::L⟩=some (.tup [],⟨n2,Q⟩):=N;have P:=k2.2 n none _ y nm A;have C:decide ((-1:Int)<0)=true:=rfl;simp only[tY];simp only[go_sem,seval,D,l,Xo,O];refine aT (GP (x:=⟨nd.a,none,wr,bD⟩) (nd:=nd) (q:=n) p B rfl P nm ?_ ?_ ?_ ?_ ?_) ?_
  case refine_6=>
   rintro e J ⟨E,G⟩ ⟨rfl,d,f⟩;simp only[go_sem,seval,results191];exact⟨_,rfl,_,rfl,d,k1.trans (k2.trans f)⟩
  all_goals simp[go_sem,Xo]
 |some i=>
  obtain⟨x,T⟩:=fG (F i rfl);have S:rE m.bs i=x.k:=by simp[rE,T]
  have C:=bP ((i:Int)<0);obtain⟨tb,hb⟩:=j.hb;obtain⟨tm,o1,o2,bv,fL,_⟩:=j.hm;have aU:ab.get ⟨n+1,(n,.z (aC nd))::L⟩ b=some (.cells tb [.ptr mb 0,ee fs,.map g,.i item]):=hb;have M:ab.get ⟨n+1,(n,.z (aC nd))::L⟩ mb=some (.cells tm [.vec o1 (m.bs.map a_),.vec o2 (m.ms.map cv),bv]):=fL;obtain⟨X,W⟩:=aj.1 aU;obtain⟨Z,gm⟩:=aj.1 M;have cb:=aF W;have I:=aF gm;rw[GR,κ y] at cb;rw[GR,κ nm] at I;have u:=υ X;have t:=υ Z;have s:=eq_false y;have v:=eq_false nm;have V:=adq o1 T
  cases wr with
  |true=>
   by_cases U:x.k<3
   ·have K:=bJ ((x.k:Int)<3);have o:tY m nd true (some i)=m.bad++[(nd.a,35)]:=by simp only[tY,S];rw[ν ⟨trivial,U⟩]
    rw[o];obtain⟨⟨n2,Q⟩,N,p,k2⟩:=On j R nd.a 35;have O:run bu 146 [.ptr b 0,.i nd.a,.i 35] ⟨n+1,(n,.z (aC nd))::L⟩=some (.tup [],⟨n2,Q⟩):=N;have P:=k2.2 n none _ y nm A;simp only[go_sem,seval,D,l,B0,C,cb,I,u,t,s,v,V,K,O];refine aT (GP (x:=⟨nd.a,some i,true,bD⟩) (nd:=nd) (q:=n) p B rfl P nm ?_ ?_ ?_ ?_ ?_) ?_
    case refine_6=>
     rintro e J ⟨E,G⟩ ⟨rfl,d,f⟩;simp only[go_sem,seval,results191];exact⟨_,rfl,_,rfl,d,k1.trans (k2.trans f)⟩
    all_goals simp[go_sem,B0]
   ·have K:=bP ((x.k:Int)<3);have o:tY m nd true (some i)=m.bad:=by simp only[tY,S];rw[κ (λh=>U h.2)]
    rw[o];simp only[go_sem,seval,D,l,B0,C,cb,I,u,t,s,v,V,K];refine aT (GP (x:=⟨nd.a,some i,true,bD⟩) (nd:=nd) (q:=n) j B rfl A nm ?_ ?_ ?_ ?_ ?_) ?_
    case refine_6=>
     rintro e J ⟨E,G⟩ ⟨rfl,d,f⟩;simp only[go_sem,seval,results191];exact⟨_,rfl,_,rfl,d,k1.trans f⟩
    all_goals simp[go_sem,B0]
  |false=>
   have o:tY m nd false (some i)=m.bad:=by simp[tY]
   rw[o];simp only[go_sem,seval,D,l,B0,C];refine aT (GP (x:=⟨nd.a,some i,false,bD⟩) (nd:=nd) (q:=n) j B rfl A nm ?_ ?_ ?_ ?_ ?_) ?_
   case refine_6=>
    rintro e J ⟨E,G⟩ ⟨rfl,d,f⟩;simp only[go_sem,seval,results191];exact⟨_,rfl,_,rfl,d,k1.trans f⟩
   all_goals simp[go_sem,B0]
def Le(m m':Mp):Prop:=m.bs.length<=m'.bs.length/\m.ms.length<=m'.ms.length
def Le.refl(m):Le m m:=⟨μ _,μ _⟩
def Le.trans{a b c}(h:Le a b)(d:Le b c):Le a c:=⟨aDj h.1 d.1,aDj h.2 d.2⟩
def ss(m)(l)(n)(k item):Le m (fe m l n k item):=⟨by simp[fe],μ _⟩
def BI(m)(l)(n)(wr):Le m (eH m l n wr):=by
 unfold eH;split
 ·exact⟨μ _,ai⟩
 ·split<;>exact⟨μ _,ai⟩
def BR(item):∀ks m l,Le m (iD item m l ks).1
 |[],m,l=>Le.refl m
 |n::r,m,l=>by simp[iD];exact(ss m l n 3 item).trans (BR item r _ _)
mutual
def Cb(item)(m)(l)(n):Le m (eJ item m l n).1:=by
 match n with
 | .mk k f t w a ks=>
  simp[eJ];split
  ·exact BI _ _ _ _
  ·split
   ·exact Wa item true m l ks
   ·have h1:Le m (if k=8 then eH m l (.mk k f t w a ks) true else m):=by
     split
     ·exact BI _ _ _ _
     ·exact Le.refl m
    have h2:=h1.trans (yg item (if k=8 then eH m l (.mk k f t w a ks) true else m) (if k=6 then .e9 false::l else l) ks);by_cases h7:k=7
    ·rw[ν h7];exact h2.trans (ss _ _ _ _ _)
    ·rw[κ h7];by_cases h6:k=6
     ·simp[h6] at h2⊢;exact h2
     ·simp[h6] at h2⊢;exact h2
def yg(item)(m)(l)(ks):Le m (dj item m l ks).1:=by
 match ks with
 |[]=>exact Le.refl m
 |n::r=>simp[dj];exact(Cb item m l n).trans (yg item _ _ r)
def Wa(item)(lam)(m)(l)(ks):Le m (jH item lam m l ks):=by
 match ks with
 |[]=>exact Le.refl m
 |[_]=>exact Le.refl m
 |[_,_]=>exact Le.refl m
 |[p,_,b]=>simp[jH];exact(BR item p.ks m _).trans (Cb item _ _ b)
 |_::_::_::_::_=>exact Le.refl m
end
def Bw(m:Mp):Prop:=m.bad.length<=m.bs.length+m.ms.length
def ED{m}(h:Bw m)(l)(n)(k item):Bw (fe m l n k item):=by
 unfold Bw fe at*
 simp only;split<;>simp<;>omega
def MI{m}(h:Bw m)(l)(n)(wr):Bw (eH m l n wr):=by
 unfold Bw eH at*
 split
 ·simp;omega
 ·split
  ·simp;omega
  ·split<;>simp<;>omega
def Hd{bs:List Bi}{i}(h:i<bs.length)(x):rE (bs++[x]) i=rE bs i:=by unfold rE;rw[Ξ h]
def Wb(bs:List Bi)(x:Bi):rE (bs++[x]) bs.length=x.k:=by simp[rE]
def gY.bind{b mb g}{m:Mp}{item}{gs}{f:gz}{r}{H}(h:gY m.bs (f::r) gs)(c:dF b mb g m item (f::r) gs H){x:Bi}(e:3<=x.k):gY (m.bs++[x]) (⟨f.aS,f.mp,f.lam,m.bs.length::f.cZ⟩::r) gs:=by
 obtain⟨_,_,_,_,d⟩:=c.hg;refine⟨λi hi=>by rw[Hd (d i hi)];exact h.1 i hi,λy a i hi=> ?_⟩;rcases Ν.1 a with rfl|a
 ·rcases Ν.1 hi with rfl|hi
  ·rw[Wb];exact e
  ·rw[Hd (c.ch.an ai hi)];exact h.2 f ai i hi
 ·rw[Hd (c.ch.an (Η _ a) hi)];exact h.2 y (by simp[a]) i hi
def gY.tail{bs}{f}{fs}{gs}(h:gY bs (f::fs) gs):gY bs fs gs:=⟨h.1,λy a=>h.2 y (by simp[a])⟩
def gY.frame{bs}{fs}{gs}(h:gY bs fs gs)(aS mp)(lam):gY bs (⟨aS,mp,lam,[]⟩::fs) gs:=⟨h.1,λy a i hi=>by
 rcases Ν.1 a with rfl|a
 ·cases hi
 ·exact h.2 y a i hi⟩
end Go.Proofs.YtmehamiifalmaaaGreatDoor
namespace Go.Ab
open Go
section
variable {E:Env} {call:ck} {loop:(az->ab->Option dZ)->az->ab->Option dZ} {α:az} {H:ab}
def Y'{a b}{c}{H'}{r}(h:Aw a=none)(d:aP E call loop a α H=some (.normal,c,H'))(e:iB E call loop b c H'=r):iB E call loop (.seq a b) α H=r:=by rw[iB];simp[h,d,an];exact e
def anh{a b}{o d:Oper}{v}{c}{q}(h:Aw a=some (o,d))(f:bz E call o.op (ev α) H=some (v,c))(e:aP E call loop b (put α o.dst v) c=some q):iB E call loop (.seq a b) α H=some (q,v):=by rw[iB];simp[h,f,an,e]
end
end Go.Ab
namespace Go.Proofs.YtmehamiifalmaaaGreatDoor
open Go Go.Ab Go.Proofs.Tryz
set_option maxRecDepth 100000
set_option maxHeartbeats 8000000
def RZ(b mb g:Nat)(m c:Mp)(item:Nat)(fs:List gz)(gs:List Nat)(lam:Bool)(e:AV)(H:ab):Prop:=
 ∀aS mp a,dF b mb g m item (⟨aS,mp,lam,[]⟩::fs) gs a->Kp b mb H a->∃d s,dX bu (run bu) e [] a=some (.tup [],d)/\dF b mb g c item (⟨aS,mp,lam,s⟩::fs) gs d/\Kp b mb a d/\gY c.bs fs gs/\Bw c
def dF.pop{b mb g}{m}{item}{fs}{gs}{f}{H H':ab}(h:dF b mb g m item (f::fs) gs H)(a:∀i x,i≠b->H.get i=some x->H'.get i=some x)(hb:∃tb,H'.get b=some (.cells tb [.ptr mb 0,ee fs,.map g,.i item])):dF b mb g m item fs gs H':=by
 obtain⟨tb,l⟩:=h.hb;obtain⟨tm,o1,o2,bv,z,v,t,A⟩:=h.hm;have p:∀{i n et},H.get i=some (.bB n et)->i≠b:=λ{i n et} hi e=>by rw[e,l] at hi;cases hi
 have nm:∀{i es c},H.get i=some (.map es c)->i≠b:=λ{i es c} hi e=>by rw[e,l] at hi;cases hi
 refine⟨hb,⟨tm,o1,o2,bv,a _ _ (λe=>h.bm e.symm) z,v.bU λj n d=>a _ _ (p d) d,t.bU λj n d=>a _ _ (p d) d,xU A λi n et s cs hi=>a _ _ (by rintro rfl;rw[l] at hi;cases hi) hi⟩,?_,?_,?_,λy k=>h.fb y (by simp[k]),h.bm⟩
 ·obtain⟨q,c,o,r,w⟩:=h.hg;exact⟨q,c,a _ _ (nm o) o,r,w⟩
 ·refine h.ch.2.2.bU (λy k x B hi=>a _ _ (h.fb y (by simp[k])).1 hi) (λy k x B hi=> ?_);obtain⟨q,c,u,_⟩:=h.ch.2.2.at k;exact a _ _ (nm u) hi
 ·have:=h.nd;simp[aEN] at this⊢;exact⟨this.1.2,this.2.2⟩
def dF.enter{b mb g}{m}{item}{fs}{gs}{H H':ab}{aS mp}{lam}(h:dF b mb g m item fs gs H)(d:∀i x,i≠b->H.get i=some x->H'.get i=some x)(hb:∃tb,H'.get b=some (.cells tb [.ptr mb 0,.ptr aS 0,.map g,.i item]))
  (l:∃C,H'.get aS=some (.cells C [.map mp,.bool lam,ee fs])) (v:H'.get mp=some (.map [] 0)) (n1:aS≠b) (n2:aS≠mb) (n3:H.next<=mp):dF b mb g m item (⟨aS,mp,lam,[]⟩::fs) gs H':=by
 obtain⟨tb,p⟩:=h.hb;obtain⟨tm,o1,o2,bv,E,z,G,A⟩:=h.hm;have t:∀{i n et},H.get i=some (.bB n et)->i≠b:=λ{i n et} hi e=>by rw[e,p] at hi;cases hi
 have nm:∀{i es c},H.get i=some (.map es c)->i≠b:=λ{i es c} hi e=>by rw[e,p] at hi;cases hi
 have q:pk H' g m.bs gs:=by obtain⟨o,c,r,u,D⟩:=h.hg;exact⟨o,c,d _ _ (nm r) r,u,D⟩
 have lt:∀{i es c},H.get i=some (.map es c)->mp≠i:=λ{i es c} hi e=>by have:=ab.eg hi;omega
 refine⟨hb,⟨tm,o1,o2,bv,d _ _ (λe=>h.bm e.symm) E,z.bU λj n k=>d _ _ (t k) k,G.bU λj n k=>d _ _ (t k) k,xU A λi n et s cs hi=>d _ _ (by rintro rfl;rw[p] at hi;cases hi) hi⟩,q,⟨l,⟨[],0,v,λw=>rfl,λi hi=>by cases hi⟩,?_⟩,?_,?_,h.bm⟩
 ·refine h.ch.bU (λy a x F hi=>d _ _ (h.fb y a).1 hi) (λy a x F hi=> ?_);obtain⟨o,c,f,_⟩:=h.ch.at a;exact d _ _ (nm f) hi
 ·have:=h.nd;simp only[aDm,aEN,Ν,not_or] at this⊢;obtain⟨o,c,f,_⟩:=h.hg;refine⟨⟨λe=>lt f e.symm,this.1⟩,λB=> ?_,this.2⟩;obtain⟨y,a,e⟩:=aDt.1 B;obtain⟨o,c,f,_⟩:=h.ch.at a;exact lt f e.symm
 ·intro y a;rcases Ν.1 a with rfl|a
  ·exact⟨n1,n2⟩
  ·exact h.fb y a
def qX(p):iM prog 188 [.ptr p 0] 0=some (.ptr p 0):=by rw[Y8];rfl
def asL(fs):(ee fs).width=some 1:=by cases fs<;>(simp[ee];rfl)
def asM(fs):(ee fs).cells=[ee fs]:=by cases fs<;>(simp[ee];rfl)
def asN(fs):eE [ee fs]=true:=by cases fs<;>(simp[ee];rfl)
attribute [go_sem] asL asM asN
noncomputable def Qp:=f147.c.l
noncomputable def Qq:=f147.c.r.l
noncomputable def ab9:=f147.c.r.r.l
noncomputable def Qr:=f147.c.r.r.r.l
noncomputable def Qs:=f147.c.r.r.r.r
def af8(i)(es)(c)(l)(k):e_ ((i,.map es c)::l) k=if i=k then none else e_ l k:=by by_cases h:i=k<;>simp[e_,cq,h]
attribute [go_sem] af8
def ajq(ρ:Operand->AV)(H:ab):∃o d,Aw ab9=some (o,d)/\o.dst=some 11/\∀α H a b,α 6=a->α 3=b->bz bu (run bu) o.op (ev α) H=some (.fn (.func 188) [] [a,b],H):=by refine⟨_,_,rfl,rfl,λα H a b c e=> ?_⟩;subst c;subst e;rfl
def asO{H:ab}{b mb g a d}{tb j f}{x}{item}{fs}(o:H.get a=some (.cells j [ee fs]))(l:H.get d=some (.cells f [.ptr b 0]))(hb:H.get b=some (.cells tb [.ptr mb 0,x,.map g,.i item])):
  run bu 188 [.ptr a 0,.ptr d 0] H=some (.tup [],H.set b (.cells tb [.ptr mb 0,ee fs,.map g,.i item])):=by
 obtain⟨n,L⟩:=H;obtain⟨m,k⟩:=aj.1 o;obtain⟨h,g2⟩:=aj.1 l;obtain⟨e,c⟩:=aj.1 hb;refine qY rfl rfl func188 rfl (by rw[ntmps188];simp) ?_;simp[go_sem,aF k,aF g2,aF c,c,υ m,υ h,υ e,qX,results188]
def Xp{b mb g}{m v:Mp}{item}{fs}{gs}{H}{lam}{c:FuncId}{j f:List AV}(h:dF b mb g m item fs gs H)(U:RZ b mb g m v item fs gs lam (.fn (.func c) j f) H):
  ∃H',run bu 147 [.ptr b 0,.bool lam,.fn (.func c) j f] H=some (.tup [],H')/\dF b mb g v item fs gs H'/\Kp b mb H H'/\gY v.bs fs gs/\Bw v:=by
 obtain⟨n,L⟩:=H;obtain⟨tb,hb⟩:=h.hb;obtain⟨zb,A⟩:=aj.1 hb;have zm:mb<n:=by obtain⟨tm,_,_,_,fL,_⟩:=h.hm;exact(aj.1 fL).1
 have cb:=aF A;try simp only at zb
 have t0:=aY (n<n+1);have t1:=aY (b<n+1);have W:=aY (n+1<n+1+1);have Y:=aY (n<n+1+1);have t4:=aY (n+1<n+1+1+1);have t5:=aY (b<n+1+1+1+1);have t6:=aY (n<n+1+1+1);have Q:=dw (n=b);have e1:=dw (n+1=b);have e2:=dw (n+1=n);have e3:=dw (n+1+1=b);have e4:=dw (n+1+1+1=b);have X:=dw (n+1+1=n+1);have e6:=dw (n+1+1=n);have s0:aD (aP bu (run bu) aJ Qp (jy [.ptr b 0,.bool lam,.fn (.func c) j f]) ⟨n,L⟩) λe p H'=>e=.normal/\H'=⟨n+1,(n,.z [.ptr b 0])::L⟩/\p 1=.bool lam/\p 2=.fn (.func c) j f/\p 3=.ptr n 0:=by rw[show Qp=.region _ [_].toArray false from rfl];simp[go_sem,]
 obtain⟨_,p,_,V,rfl,rfl,dL,O,iP⟩:=kf s0;have s1:aD (aP bu (run bu) aJ Qq p ⟨n+1,(n,.z [.ptr b 0])::L⟩) λe a H'=>e=.normal/\H'=⟨n+1+1,(n+1,.k 191 [ee fs])::(n,.z [.ptr b 0])::L⟩/\a 1=.bool lam/\a 2=.fn (.func c) j f/\a 3=.ptr n 0/\a 6=.ptr (n+1) 0:=by rw[show Qq=.region _ [_,_,_,_,_,_].toArray false from rfl];simp[go_sem,dL,O,iP,t0,t1,W,Q,cb,qX]
 obtain⟨_,a,_,x1,rfl,rfl,J,N,l,r⟩:=kf s1;obtain⟨o,d,x2,G,x3⟩:=ajq (ev a) ⟨n,L⟩;have s2:aD (aP bu (run bu) aJ Qr (put a o.dst (.fn (.func 188) [] [.ptr (n+1) 0,.ptr n 0])) ⟨n+1+1,(n+1,.k 191 [ee fs])::(n,.z [.ptr b 0])::L⟩) λe F H'=>e=.normal/\H'=⟨n+1+1+1+1,(n+1+1+1,.z [.map (n+1+1),.bool lam,ee fs])::(n+1+1,.map [] 0)::(n+1,.k 191 [ee fs])::(n,.z [.ptr b 0])::aH L b (.cells tb [.ptr mb 0,.ptr (n+1+1+1) 0,.map g,.i item])⟩/\F 2=.fn (.func c) j f:=by rw[show Qr=.region _ [_,_,_,_,_,_,_,_,_].toArray false from rfl,G];simp[go_sem,J,N,l,r,Y,t4,t5,Q,e1,e2,e3,e4,X,cb,A,qX,aZ]
 obtain⟨_,F,_,x5,rfl,rfl,B⟩:=kf s2;have p3:∀i x,i≠b->ab.get ⟨n,L⟩ i=some x->ab.get ⟨n+1+1+1+1,(n+1+1+1,.z [.map (n+1+1),.bool lam,ee fs])::(n+1+1,.map [] 0)::(n+1,.k 191 [ee fs])::(n,.z [.ptr b 0])::aH L b (.cells tb [.ptr mb 0,.ptr (n+1+1+1) 0,.map g,.i item])⟩ i=some x:=λi x hi K=>by obtain⟨q1,q2⟩:=aj.1 K;exact aj.2 ⟨aa,by rw[br,bV,br,bV,br,bV,br,bV,bg,κ (λe=>hi e.symm)];exact q2⟩
 have I:dF b mb g m item (⟨n+1+1+1,n+1+1,lam,[]⟩::fs) gs ⟨n+1+1+1+1,(n+1+1+1,.z [.map (n+1+1),.bool lam,ee fs])::(n+1+1,.map [] 0)::(n+1,.k 191 [ee fs])::(n,.z [.ptr b 0])::aH L b (.cells tb [.ptr mb 0,.ptr (n+1+1+1) 0,.map g,.i item])⟩:=
  h.enter p3 ⟨tb,aj.2 ⟨aa,by rw[br,bV,br,bV,br,bV,br,bV,bg,ν rfl,A];rfl⟩⟩ ⟨none,aj.2 ⟨aa,by rw[br,ν rfl]⟩⟩ (aj.2 ⟨aa,by rw[br,bV,br,ν rfl]⟩) aa aa (by show n<=n+1+1;omega)
 have oV:ab.get ⟨n+1+1+1+1,(n+1+1+1,.z [.map (n+1+1),.bool lam,ee fs])::(n+1+1,.map [] 0)::(n+1,.k 191 [ee fs])::(n,.z [.ptr b 0])::aH L b (.cells tb [.ptr mb 0,.ptr (n+1+1+1) 0,.map g,.i item])⟩ n=some (.z [.ptr b 0]):=aj.2 ⟨aa,by rw[br,bV,br,bV,br,bV,br,ν rfl]⟩;have K5:ab.get ⟨n+1+1+1+1,(n+1+1+1,.z [.map (n+1+1),.bool lam,ee fs])::(n+1+1,.map [] 0)::(n+1,.k 191 [ee fs])::(n,.z [.ptr b 0])::aH L b (.cells tb [.ptr mb 0,.ptr (n+1+1+1) 0,.map g,.i item])⟩ (n+1)=some (.k 191 [ee fs]):=aj.2 ⟨aa,by rw[br,bV,br,bV,br,ν rfl]⟩;have E:Kp b mb ⟨n,L⟩ ⟨n+1+1+1+1,(n+1+1+1,.z [.map (n+1+1),.bool lam,ee fs])::(n+1+1,.map [] 0)::(n+1,.k 191 [ee fs])::(n,.z [.ptr b 0])::aH L b (.cells tb [.ptr mb 0,.ptr (n+1+1+1) 0,.map g,.i item])⟩:=⟨by show n<=n+1+1+1+1;omega,λi te cs q _ P=>p3 i _ q P⟩;obtain⟨C,s,Z,t,w,M,D⟩:=U _ _ _ I E;have s3:aD (aP bu (run bu) aJ Qs F ⟨n+1+1+1+1,(n+1+1+1,.z [.map (n+1+1),.bool lam,ee fs])::(n+1+1,.map [] 0)::(n+1,.k 191 [ee fs])::(n,.z [.ptr b 0])::aH L b (.cells tb [.ptr mb 0,.ptr (n+1+1+1) 0,.map g,.i item])⟩) λe α4 H'=>e=.normal/\H'=C:=by rw[show Qs=.region _ [_,_].toArray false from rfl];simp[go_sem,B,Z]
 obtain⟨_,α4,H5,S,rfl,y⟩:=kf s3;rw[y] at S;obtain⟨u,T⟩:=t.hb
 have Rr:iB bu (run bu) aJ (.seq Qp (.seq Qq (.seq ab9 (.seq Qr Qs)))) (jy [.ptr b 0,.bool lam,.fn (.func c) j f]) ⟨n,L⟩=some ((.normal,α4,C),.fn (.func 188) [] [.ptr (n+1) 0,.ptr n 0]):=
  Y' rfl V (Y' rfl x1 (anh x2 (x3 a ⟨n+1+1,(n+1,.k 191 [ee fs])::(n,.z [.ptr b 0])::L⟩ _ _ r l) (by rw[uT,x5];exact S)))
 refine⟨C.set b (.cells u [.ptr mb 0,ee fs,.map g,.i item]),?_,?_,?_,M,D⟩
 ·exact arn rfl rfl func147 rfl (by rw[ntmps147];simp) Rr (.inl rfl) (g:=188) (first:=[]) (cap:=[.ptr (n+1) 0,.ptr n 0]) rfl rfl rfl (asO (w.2 (n+1) (some 191) _ aa aa K5) (w.2 n none _ aa aa oV) T) (by rw[results147];rfl)
 ·exact t.pop (λi x hi K=>by rw[ab.ec,κ (λe=>hi e.symm)];exact K) ⟨u,by rw[ab.ec,ν rfl,T];rfl⟩
 ·refine⟨aDj E.1 w.1,λi te cs q R P=> ?_⟩;rw[ab.ec,κ (λe=>q e.symm)];exact w.2 i te cs q R (E.2 i te cs q R P)
def ext(f:gz)(s:List Nat):gz:=⟨f.aS,f.mp,f.lam,s++f.cZ⟩
def HY(f)(s t):ext (ext f s) t=ext f (t++s):=by simp[ext]
def ly(m:Mp):Prop:=m.bs.length<=1000000/\m.ms.length<=1000000
def ly.le{m m':Mp}(h:ly m')(a:Le m m'):ly m:=⟨aDj a.1 h.1,aDj a.2 h.2⟩
def ly.bad{m:Mp}(h:ly m)(hb:Bw m):m.bad.length<=1000000000:=by unfold Bw at hb;have:=h.1;have:=h.2;omega
def Out(b mb g item:Nat)(gs:List Nat)(q:Mp×List RN)(f:gz)(r:List gz)(H H':ab):Prop:=
 ∃s,dF b mb g q.1 item (ext f s::r) gs H'/\gY q.1.bs (ext f s::r) gs/\Bw q.1/\q.2=bo (ext f s::r) gs/\Kp b mb H H'
def Out.trans{b mb g item}{gs}{q}{f:gz}{r:List gz}{H a H':ab}{s:List Nat}(i:Kp b mb H a)(h:Out b mb g item gs q (ext f s) r a H'):Out b mb g item gs q f r H H':=by obtain⟨t,e,c,k,d,j⟩:=h;rw[HY] at e c d;exact⟨t++s,e,c,k,d,i.trans j⟩
def AF(b mb g item:Nat)(gs:List Nat)(n:Nd):Prop:=∀m f r H,dF b mb g m item (f::r) gs H->gY m.bs (f::r) gs->Bw m->ly (eJ item m (bo (f::r) gs) n).1->r.length+dz n<=900000->mx n<=900000000000000000->
 ∃H',run bu 149 [.ptr b 0,aB n] H=some (.tup [],H')/\Out b mb g item gs (eJ item m (bo (f::r) gs) n) f r H H'
noncomputable def JO:=f190.c.r.r.b.b
def Za{b mb g item:Nat}{gs:List Nat}{ks:List Nd}{o:Ab.Own}(w:ks.length<=900000000000000000):∀rest i m f r H α,ks.drop i=rest->(∀x∈rest,AF b mb g item gs x)->(∀x∈rest,r.length+dz x<=900000/\mx x<=900000000000000000)->
  dF b mb g m item (f::r) gs H->gY m.bs (f::r) gs->Bw m->ly (dj item m (bo (f::r) gs) rest).1->α 0=.ptr b 0->α 7=.vec o (bA ks)->α 8=.i ks.length->α 9=.i i->
  aD (aJ (aO bu JO) α H) λe D H'=>e=.exit 0/\Out b mb g item gs (dj item m (bo (f::r) gs) rest) f r H H'
 |[],i,m,f,r,H,α,a,ih,c,h,l,hb,d,a0,a7,a8,q=>by have hi:ks.length<=i:=Κ.1 a;have u:JO=.seq _ _:=rfl;have t:=bP ((i:Int)<(ks.length:Int));rw[aG,u];simp only[go_sem,seval,a8,q,t];exact⟨aK,[],h,l,hb,rfl,Kp.refl _ _ _⟩
 |x::rest,i,m,f,r,H,α,a,ih,c,h,l,hb,d,a0,a7,a8,q=>by
  have hi:i<ks.length:=by
   by_cases I:i<ks.length
   ·exact I
   ·rw[aDk aa] at a;cases a
  have M:ks[i]? =some x:=by have:=Ο hi;rw[a] at this;rw[Φ hi];exact Λ some (aDM this).1.symm
  have z:ks.drop (i+1)=rest:=by have:=Ο hi;rw[a] at this;exact(aDM this).2.symm
  obtain⟨n,L⟩:=H;have E:ly (eJ item m (bo (f::r) gs) x).1:=d.le (yg _ _ _ _);obtain⟨v,K,s,N,A,G,J,C⟩:=ih x ai m f r _ (h.push (.k 71 (aC x))) l hb E (c x ai).1 (c x ai).2;have B:run bu 149 [.ptr b 0,aB x] ⟨n+1,(n,.k 71 (aC x))::L⟩=some (.tup [],v):=K;have u:JO=.seq _ _:=rfl;have t:=bJ ((i:Int)<(ks.length:Int));have O:=aY (n<n+1);have j:dj item m (bo (f::r) gs) (x::rest)=dj item (eJ item m (bo (f::r) gs) x).1 (bo (ext f s::r) gs) rest:=by simp[dj];rw[J]
  rw[j] at d⊢;rw[aG,u];simp only[go_sem,seval,a0,a7,a8,q,t,mB o M,O,B,(ph (n:=i) aa)];refine aT (Za (o:=o) w rest (i+1) _ (ext f s) r v _ z (λy p=>ih y (by simp[p])) (λy p=>c y (by simp[p])) N A G d ?_ ?_ ?_ ?_) ?_
  case refine_5=>
   rintro e D H' ⟨rfl,F⟩;exact⟨rfl,Out.trans ((Kp.push (b:=b) (mb:=mb) ⟨n,L⟩ (.k 71 (aC x))).trans C) F⟩
  all_goals simp[go_sem,a0,a7,a8]
def II{b mb g item:Nat}{gs:List Nat}{nd:Nd}(ih:∀x∈nd.ks,AF b mb g item gs x){m:Mp}{f:gz}{r:List gz}{H:ab}(h:dF b mb g m item (f::r) gs H)(i:gY m.bs (f::r) gs)(hb:Bw m)(y:ly (dj item m (bo (f::r) gs) nd.ks).1)(hd:r.length+fC nd.ks<=900000)(hm:mx nd<=900000000000000000):
  ∃H',run bu 190 [.ptr b 0,aB nd] H=some (.tup [],H')/\Out b mb g item gs (dj item m (bo (f::r) gs) nd.ks) f r H H':=by
 obtain⟨n,L⟩:=H;have u:=aY (n<n+1)
 have p:nd.ks.length<=900000000000000000/\fT nd.ks<=900000000000000000:=by
  cases nd with
  |mk k f t w a ks=>rw[eN] at hm;simp[Nd.ks];omega
 suffices hh:∃q,run bu 190 [.ptr b 0,aB nd] ⟨n,L⟩=some q/\∃H',q=(.tup [],H')/\Out b mb g item gs (dj item m (bo (f::r) gs) nd.ks) f r ⟨n,L⟩ H' by obtain⟨_,l,H',rfl,j⟩:=hh;exact⟨H',l,j⟩
 refine g_ (c:=.seq _ (.seq _ (.block 0 (.loop JO)))) rfl rfl func190 rfl (by rw[ntmps190];simp) ?_;simp only[go_sem,seval,u,cz];try simp only[cg]
 refine bL (mG (Za (o:=if nd.ks.isEmpty then .nil else .ro) p.1 nd.ks 0 m f r _ _ rfl ih (λx d=>⟨by have:=ts d;omega,by have:=sq d;omega⟩) (h.push (.z (aC nd))) i hb y ?_ ?_ ?_ ?_)) ?_
 case refine_5=>
  rintro _ ⟨e,ae,⟨n5,L5⟩,rfl,rfl,v⟩;simp only[go_sem,seval,results190];exact⟨_,rfl,_,rfl,Out.trans (s:=[]) (Kp.push (b:=b) (mb:=mb) ⟨n,L⟩ (.z (aC nd))) v⟩
 all_goals simp[go_sem,]
 all_goals rfl
def Pu(n:Nd):cr prog 71 5 (.rptr (aC n))=some (.rptr [.vec (if n.ks.isEmpty then .nil else .ro) (bA n.ks)]):=by
 cases n with
 |mk k f t w a ks=>exact N_ _ _ _ _ _ _
attribute [go_sem] Pu
noncomputable def FF:=f148.c.l.r.b.b
noncomputable def Qt:=FF.r.r.l.b.r.o
noncomputable def Qu:=f148.c.r.o
def aaR(f)(r)(gs)(k):bo (ext f [k]::r) gs=.nm k::bo (f::r) gs:=by simp[bo,zk,ext]
def Zb{b mb g item}{gs}{ps:List Nd}{o}{p3 p4}{C D}{I}(KR:ps.length<=900000000000000000)(v:p3≠b/\p3≠mb)(p:p4≠b/\p4≠mb):
  ∀rest i m f r H α,ps.drop i=rest->dF b mb g m item (f::r) gs H->gY m.bs (f::r) gs->Bw m->ly (iD item m (bo (f::r) gs) rest).1->H.get p3=some (.cells C [.ptr b 0])->H.get p4=some (.cells D I)->
  α 0=.ptr p4 0->α 1=.ptr p3 0->α 7=.vec o (bA ps)->α 8=.i ps.length->α 9=.i i->
  aD (aJ (aP bu (run bu) aJ FF) α H) λe u H'=>e=.exit 0/\u 0=.ptr p4 0/\u 1=.ptr p3 0/\H'.get p3=some (.cells C [.ptr b 0])/\H'.get p4=some (.cells D I)/\Out b mb g item gs (iD item m (bo (f::r) gs) rest) f r H H'
 |[],i,m,f,r,H,α,c,h,q,hb,d,j,t,a0,a1,a7,a8,y=>by
  have hi:ps.length<=i:=Κ.1 c;have B:FF=.seq _ _:=rfl;have z:=bP ((i:Int)<(ps.length:Int));rw[aG,B];simp only[go_sem,seval,a8,y,z];refine⟨aK,?_,?_,j,t,[],h,q,hb,rfl,Kp.refl _ _ _⟩;all_goals simp[go_sem,a0,a1]
 |x::rest,i,m,f,r,H,α,c,h,q,hb,d,j,t,a0,a1,a7,a8,y=>by
  have hi:i<ps.length:=by
   by_cases hh:i<ps.length
   ·exact hh
   ·rw[aDk aa] at c;cases c
  have nD:ps[i]? =some x:=by have:=Ο hi;rw[c] at this;rw[Φ hi];exact Λ some (aDM this).1.symm
  have K:ps.drop (i+1)=rest:=by have:=Ο hi;rw[c] at this;exact(aDM this).2.symm
  obtain⟨n,L⟩:=H;have E:ly m:=d.le (BR item (x::rest) m _);have ha:At g f.mp f.cZ (f::r) gs (ext f [m.bs.length]::r) gs m.bs.length:=.inr ⟨f,r,rfl,rfl,rfl,rfl,rfl⟩;obtain⟨G,bE,i1,V⟩:=IH (h.push (.k 71 (aC x))) ha E.1 (E.bad hb) x 3;have R:run bu 102 [.ptr b 0,.map f.mp,aB x,.i 3] ⟨n+1,(n,.k 71 (aC x))::L⟩=some (.tup [],G):=bE;have M:gY (fe m (bo (f::r) gs) x 3 item).bs (ext f [m.bs.length]::r) gs:=q.bind h (x:=⟨x.a,3,x.w,item⟩) (μ 3);have s:=(Kp.push (b:=b) (mb:=mb) ⟨n,L⟩ (.k 71 (aC x))).trans V;have B:FF=.seq _ (.seq _ (.seq (.block _ (.seq _ (.region 3 Qt.toArray true))) _)):=rfl;have z:=bJ ((i:Int)<(ps.length:Int));have l:iD item m (bo (f::r) gs) (x::rest)=iD item (fe m (bo (f::r) gs) x 3 item) (bo (ext f [m.bs.length]::r) gs) rest:=by simp[iD];rw[aaR]
  rw[l] at d⊢;obtain⟨tb,F⟩:=h.hb;obtain⟨⟨tf,hf⟩,_,_⟩:=h.ch;simp[ee] at F;obtain⟨zb,N⟩:=aj.1 F;obtain⟨zf,gf⟩:=aj.1 hf;obtain⟨z3,g3⟩:=aj.1 j;have ym:=aY (n<n+1);have S:=aY (b<n+1);have J:=aY (f.aS<n+1);have T:=aY (p3<n+1);have Q:=dw (n=b);have nf:=dw (n=f.aS);have O:=dw (n=p3);obtain⟨A,Z,W,q2,X,q4,q5⟩:∃A,A=Qt.toArray/\behind A A.size 9 0=true/\behind A A.size 9 1=true/\behind A A.size 9 4=true/\behind A A.size 9 7=true/\behind A A.size 9 8=true:=⟨_,rfl,af,af,af,af,af⟩;have hR:∀α H,aP bu (run bu) aJ (.region 3 Qt.toArray true) α H=an (eP bu (run bu) A 0 [_,_,_,_,_,_,_,_,_,_] [] [] α H) λr=>some (.normal,r.1,r.2):=λα H=>by rw[m_ _ _ rfl rfl,Z];exact rfl
  rw[aG,B];simp only[go_sem,seval,hR,W,q2,X,q4,q5,aDG,a1,a7,a8,y,z,mB o nD,ym,S,J,T,Q,nf,O,aF N,aF gf,aF g3,qX,R,(ph (n:=i) aa)];refine aT (Zb (o:=o) KR v p rest (i+1) _ (ext f [m.bs.length]) r G _ K i1 M (ED hb (bo (f::r) gs) x 3 item) d (s.2 _ _ _ v.1 v.2 j) (s.2 _ _ _ p.1 p.2 t) ?_ ?_ ?_ ?_ ?_) ?_
  case refine_6=>
   rintro e u H' ⟨rfl,U,b1,P,b4,Y⟩;exact⟨rfl,U,b1,P,b4,Out.trans s Y⟩
  all_goals simp[go_sem,a0,a1,a7,a8]
def Wc{f}(h:bu.cl f=false)(a:bu.io f=false)(ar cap)(H):dX bu (run bu) (.fn (.func f) [] cap) ar H=run bu f (ar++cap) H:=by simp[dX,target,h,a,rf]
def ani(o)(l)(H:ab):fY (.vec o l) H=some (.ptr H.next 0,H.push (.z [.vec o l])):=by simp[fY,AV.width,AV.cells]
attribute [go_sem] ani
def ahd{b mb g item}{gs}{p t bk:Nd}(ih:AF b mb g item gs bk){p3 p4}{B F}{o}(R:p3≠b/\p3≠mb)(G:p4≠b/\p4≠mb){m:Mp}{f}{r:List gz}{H:ab}(h:dF b mb g m item (f::r) gs H)(I:gY m.bs (f::r) gs)(hb:Bw m)
  (v:ly (eJ item (iD item m (bo (f::r) gs) p.ks).1 (iD item m (bo (f::r) gs) p.ks).2 bk).1) (x:H.get p3=some (.cells B [.ptr b 0])) (w:H.get p4=some (.cells F [.vec o (bA [p,t,bk])])) (y:r.length+dz bk<=900000) (hm:mx bk<=900000000000000000) (D:p.ks.length<=900000000000000000):
  ∃H',run bu 148 [.ptr p4 0,.ptr p3 0] H=some (.tup [],H')/\Out b mb g item gs (eJ item (iD item m (bo (f::r) gs) p.ks).1 (iD item m (bo (f::r) gs) p.ks).2 bk) f r H H':=by
 obtain⟨n,L⟩:=H;obtain⟨z3,g3⟩:=aj.1 x;obtain⟨z4,Q⟩:=aj.1 w;have z:dC prog 69 (.vec o (bA [p,t,bk])) (.i 0)=some (.rptr (aC p)):=mB (i:=0) o rfl;have W:dC prog 69 (.vec o (bA [p,t,bk])) (.i 2)=some (.rptr (aC bk)):=mB (i:=2) o rfl;suffices hh:∃q,run bu 148 [.ptr p4 0,.ptr p3 0] ⟨n,L⟩=some q/\∃H',q=(.tup [],H')/\Out b mb g item gs (eJ item (iD item m (bo (f::r) gs) p.ks).1 (iD item m (bo (f::r) gs) p.ks).2 bk) f r ⟨n,L⟩ H' by obtain⟨_,U,H',rfl,C⟩:=hh;exact⟨H',U,C⟩
 obtain⟨A,P,M,Z,N⟩:∃A,A=Qu.toArray/\behind A A.size 4 0=true/\behind A A.size 4 1=true/\behind A A.size 4 3=true:=⟨_,rfl,af,af,af⟩;have Y:∀α H,aP bu (run bu) aJ (.region 5 Qu.toArray true) α H=an (eP bu (run bu) A 0 [_,_,_,_,_] [] [] α H) λr=>some (.normal,r.1,r.2):=λα H=>by rw[m_ _ _ rfl rfl,P];exact rfl
 refine g_ (c:=.seq (.seq _ (.block 0 (.loop FF))) (.region 5 Qu.toArray true)) rfl rfl func148 rfl (by rw[ntmps148];simp) ?_;simp only[go_sem,seval,υ z4,aF Q,z,cz];try simp only[cg]
 refine bL (mG (Zb (o:=if p.ks.isEmpty then .nil else .ro) (p3:=p3) (p4:=p4) D R G p.ks 0 m f r _ _ rfl h I hb (v.le (Cb _ _ _ _)) x w ?_ ?_ ?_ ?_ ?_)) ?_
 case refine_6=>
  rintro _ ⟨e,ae,⟨n5,L5⟩,rfl,rfl,J,b1,a,d,s,X,E,S,T,K⟩;rw[T] at v⊢;obtain⟨H6,V,O⟩:=ih _ (ext f s) r _ X E S v y hm;obtain⟨l,j⟩:=aj.1 a;obtain⟨k,u⟩:=aj.1 d;simp only[go_sem,seval,Y,M,Z,N,aDG,J,b1,υ l,υ k,aF j,aF u,W,qX,V,results148];exact⟨_,rfl,_,rfl,Out.trans K O⟩
 all_goals simp[go_sem,]
 all_goals rfl
def aca{ks:List Nd}(h:ks.length=3):∃p t b,ks=[p,t,b]:=by
 match ks,h with
 |[p,t,b],_=>exact⟨p,t,b,rfl⟩
def Vu(item)(lam)(m)(l){ks:List Nd}(h:ks.length≠3):jH item lam m l ks=m:=by
 match ks with
 |[]=>rfl
 |[_]=>rfl
 |[_,_]=>rfl
 |[_,_,_]=>simp at h
 |_::_::_::_::_=>rfl
def adr(b mb g item:Nat)(gs:List Nat)(m:Mp)(fs:List gz)(H H':ab):Prop:=dF b mb g m item fs gs H'/\gY m.bs fs gs/\Bw m/\Kp b mb H H'
def Xq{b mb g item}{gs}{ks:List Nd}(ih:∀x∈ks,AF b mb g item gs x){o}{m:Mp}{fs:List gz}{H}{lam}(h:dF b mb g m item fs gs H)(D:gY m.bs fs gs)(hb:Bw m)(A:ly (jH item lam m (bo fs gs) ks))(hd:fs.length+fC ks<=900000)(hm:fT ks<=900000000000000000)(hl:ks.length<=900000000000000000):
  ∃H',run bu 103 [.ptr b 0,.vec o (bA ks),.bool lam] H=some (.tup [],H')/\adr b mb g item gs (jH item lam m (bo fs gs) ks) fs H H':=by
 obtain⟨n,L⟩:=H;have K:∃te cs,ab.get ⟨n,L⟩ b=some (.c te cs):=by obtain⟨tb,hb⟩:=h.hb;exact⟨_,_,hb⟩
 have R:∃te cs,ab.get ⟨n,L⟩ mb=some (.c te cs):=by obtain⟨tm,_,_,_,hb,_⟩:=h.hm;exact⟨_,_,hb⟩
 have nb:b<n:=by obtain⟨_,_,hb⟩:=K;exact(aj.1 hb).1
 have nm:mb<n:=by obtain⟨_,_,hb⟩:=R;exact(aj.1 hb).1
 have d:=(h.push (.z [.ptr b 0])).push (.z [.vec o (bA ks)]);have k2:=(Kp.push (b:=b) (mb:=mb) ⟨n,L⟩ (.z [.ptr b 0])).trans (Kp.push _ (.z [.vec o (bA ks)]));have P:=aY (n<n+1+1);have B:=aY (n+1<n+1+1);have F:=dw (n+1=n);suffices hh:∃q,run bu 103 [.ptr b 0,.vec o (bA ks),.bool lam] ⟨n,L⟩=some q/\∃H',q=(.tup [],H')/\adr b mb g item gs (jH item lam m (bo fs gs) ks) fs ⟨n,L⟩ H' by obtain⟨_,N,H',rfl,d⟩:=hh;exact⟨H',N,d⟩
 refine g_ rfl rfl func103 rfl (by rw[ntmps103];simp) ?_;have y:((ks.length:Int) != 3)= !decide (ks.length=3):=rO ks.length 3;by_cases j:ks.length=3
 ·rw[π j] at y;obtain⟨p,t,bk,rfl⟩:=aca j;have G:dF b mb g m item fs gs ⟨n+1+1,(n+1,.z [.vec o (bA [p,t,bk])])::(n,.z [.ptr b 0])::L⟩:=d;simp only[jH] at A⊢
  have u:fT p.ks<=900000000000000000/\p.ks.length<=900000000000000000:=by
   have:=sq (l:=[p,t,bk]) (n:=p) ai
   cases p with
   |mk k f t w a ks=>rw[eN] at this;simp only[Nd.ks];omega
  have I:RZ b mb g m (eJ item (iD item m (.e9 lam::bo fs gs) p.ks).1 (iD item m (.e9 lam::bo fs gs) p.ks).2 bk).1 item fs gs lam (.fn (.func 148) [] [.ptr (n+1) 0,.ptr n 0]) ⟨n+1+1,(n+1,.z [.vec o (bA [p,t,bk])])::(n,.z [.ptr b 0])::L⟩:=by
   intro aS mp H1 S E;have C:bo (⟨aS,mp,lam,[]⟩::fs) gs=.e9 lam::bo fs gs:=by simp[bo,zk]
   have hdb:=ts (l:=[p,t,bk]) (n:=bk) ai;have fL:=sq (l:=[p,t,bk]) (n:=bk) ai;obtain⟨Q,O,s,r,e,i,M,v⟩:=ahd (t:=t) (ih bk ai) (p3:=n) (p4:=n+1) ⟨aa,aa⟩ ⟨aa,aa⟩ S (D.frame aS mp lam) hb (by rw[C];exact A) (E.2 n none [.ptr b 0] aa aa (aj.2 ⟨aa,by rw[br,bV,br,ν rfl]⟩)) (E.2 (n+1) none [.vec o (bA [p,t,bk])] aa aa (aj.2 ⟨aa,by rw[br,ν rfl]⟩)) aa aa u.2;rw[C] at r e i M;refine⟨Q,s++[],?_,r,v,e.tail,i⟩;rw[Wc af af];exact O
  obtain⟨H3,J,r,v,e,i⟩:=Xp G I;simp only[go_sem,seval,P,B,F,cz,qX,J,results103];exact⟨_,rfl,_,rfl,r,e,i,k2.trans v⟩
 ·rw[ξ j] at y;rw[Vu item lam m _ j] at A⊢;simp only[go_sem,seval,B,cz,y,Α,results103];exact⟨_,rfl,_,rfl,d,D,hb,k2⟩
set_option maxHeartbeats 16000000
noncomputable def R0:=f149.c.r.r.b.r.e.r.t.r.o
def asP{b p2 p3}{a c}{n}{H H':ab}(e:H.get p2=some (.cells a [.ptr b 0]))(g:H.get p3=some (.cells c (aC n)))(f:run bu 190 [.ptr b 0,aB n] H=some (.tup [],H')):run bu 189 [.ptr p2 0,.ptr p3 0] H=some (.tup [],H'):=by obtain⟨m,L⟩:=H;obtain⟨d,g2⟩:=aj.1 e;obtain⟨h,g3⟩:=aj.1 g;obtain⟨n1,L1⟩:=H';refine qY rfl rfl func189 rfl (by rw[ntmps189];simp) ?_;simp[go_sem,aF g2,aF g3,υ d,υ h,qX,f,results189]
def Xr(item)(m)(l){n:Nd}(h:n.k=23):eJ item m l n=(eH m l n false,l):=by
 cases n with
 |mk k f t w a ks=>simp[Nd.k] at h;simp[eJ,h]
def Xs(item)(m)(l){n:Nd}(h:n.k=28):eJ item m l n=(jH item true m l n.ks,l):=by
 cases n with
 |mk k f t w a ks=>simp[Nd.k] at h;subst h;simp only[eJ,Nd.ks];rfl
def Zc(item)(m)(l){n:Nd}(h:n.k=6):eJ item m l n=((dj item m (.e9 false::l) n.ks).1,l):=by
 cases n with
 |mk k f t w a ks=>simp[Nd.k] at h;subst h;simp only[eJ,Nd.ks];rfl
def Zd(item)(m)(l){n:Nd}(h:n.k=7):eJ item m l n=(fe (dj item m l n.ks).1 (dj item m l n.ks).2 n 4 item,.nm (dj item m l n.ks).1.bs.length::(dj item m l n.ks).2):=by
 cases n with
 |mk k f t w a ks=>simp[Nd.k] at h;subst h;simp only[eJ,Nd.ks];rfl
def Ze(item)(m)(l){n:Nd}(h:n.k=8):eJ item m l n=dj item (eH m l n true) l n.ks:=by
 cases n with
 |mk k f t w a ks=>simp[Nd.k] at h;subst h;simp only[eJ,Nd.ks];rfl
def Vv(item)(m)(l){n:Nd}(e:n.k≠23)(g:n.k≠28)(c:n.k≠8)(d:n.k≠7)(b:n.k≠6):eJ item m l n=dj item m l n.ks:=by
 cases n with
 |mk k f t w a ks=>
  simp[Nd.k] at*
  simp[eJ,κ e,κ g,κ c,κ d,κ b,Nd.ks]
def ahe{b mb g item}{gs}{nd:Nd}(ih:∀x∈nd.ks,AF b mb g item gs x):AF b mb g item gs nd:=by
 intro m f r H h p hb d hd hm;obtain⟨n,L⟩:=H;have r_:∃te cs,ab.get ⟨n,L⟩ b=some (.c te cs):=by obtain⟨tb,hb⟩:=h.hb;exact⟨_,_,hb⟩
 have jb:∃te cs,ab.get ⟨n,L⟩ mb=some (.c te cs):=by obtain⟨tm,_,_,_,hb,_⟩:=h.hm;exact⟨_,_,hb⟩
 have nb:b<n:=by obtain⟨_,_,hb⟩:=r_;exact(aj.1 hb).1
 have nm:mb<n:=by obtain⟨_,_,hb⟩:=jb;exact(aj.1 hb).1
 have B:dF b mb g m item (f::r) gs ⟨n+1+1,(n+1,.z (aC nd))::(n,.z [.ptr b 0])::L⟩:=(h.push (.z [.ptr b 0])).push (.z (aC nd));have k2:Kp b mb ⟨n,L⟩ ⟨n+1+1,(n+1,.z (aC nd))::(n,.z [.ptr b 0])::L⟩:=(Kp.push (b:=b) (mb:=mb) ⟨n,L⟩ (.z [.ptr b 0])).trans (Kp.push _ (.z (aC nd)));have Z:ab.get ⟨n+1+1,(n+1,.z (aC nd))::(n,.z [.ptr b 0])::L⟩ n=some (.z [.ptr b 0]):=aj.2 ⟨aa,by rw[br,bV,br,ν rfl]⟩;have ei:ab.get ⟨n+1+1,(n+1,.z (aC nd))::(n,.z [.ptr b 0])::L⟩ (n+1)=some (.z (aC nd)):=aj.2 ⟨aa,by rw[br,ν rfl]⟩;have K:=aY (n<n+1+1);have J:=aY (n+1<n+1+1);have G:=dw (n+1=n)
 have hdk:fC nd.ks+1=dz nd:=by
  cases nd with
  |mk k f t w a ks=>rw[tI];rfl
 have yJ:fT nd.ks<=900000000000000000/\nd.ks.length<=900000000000000000:=by
  cases nd with
  |mk k f t w a ks=>rw[eN] at hm;simp[Nd.ks];omega
 have D:((nd.k:Int)==6)=decide (nd.k=6):=ez nd.k 6;have F:((nd.k:Int)==7)=decide (nd.k=7):=ez nd.k 7;have I:((nd.k:Int)==8)=decide (nd.k=8):=ez nd.k 8;have l:((nd.k:Int)==23)=decide (nd.k=23):=ez nd.k 23;have v:((nd.k:Int)==28)=decide (nd.k=28):=ez nd.k 28;suffices hh:∃q,run bu 149 [.ptr b 0,aB nd] ⟨n,L⟩=some q/\∃H',q=(.tup [],H')/\Out b mb g item gs (eJ item m (bo (f::r) gs) nd) f r ⟨n,L⟩ H' by obtain⟨_,hr,H',rfl,B⟩:=hh;exact⟨H',hr,B⟩
 obtain⟨A,hA,q1,q2,q3,q4,q5⟩:∃A,A=R0.toArray/\behind A A.size 9 0=true/\behind A A.size 9 1=true/\behind A A.size 9 4=true/\behind A A.size 9 7=true/\behind A A.size 9 8=true:=⟨_,rfl,af,af,af,af,af⟩;have hR:∀α H,aP bu (run bu) aJ (.region 7 R0.toArray true) α H=an (eP bu (run bu) A 0 [_,_,_,_,_,_,_,_,_,_] [] [] α H) λr=>some (.normal,r.1,r.2):=λα H=>by rw[m_ _ _ rfl rfl,hA];exact rfl
 refine g_ (c:=.seq _ (.seq _ (.block 0 (.seq _ (.cond _ _ (.seq _ (.cond _ (.seq _ (.region 7 R0.toArray true)) _))))))) rfl rfl func149 rfl (by rw[ntmps149];simp) ?_;by_cases Y:nd.k=6
 ·rw[π Y] at D;rw[Zc item m _ Y] at d⊢
  have Tm:RZ b mb g m (dj item m (.e9 false::bo (f::r) gs) nd.ks).1 item (f::r) gs false (.fn (.func 189) [] [.ptr n 0,.ptr (n+1) 0]) ⟨n+1+1,(n+1,.z (aC nd))::(n,.z [.ptr b 0])::L⟩:=by
   intro aS mp H1 kB yQ;have O:=yQ.2 n none [.ptr b 0] aa aa Z;have P:=yQ.2 (n+1) none (aC nd) aa aa ei;have Gj:bo (⟨aS,mp,false,[]⟩::f::r) gs=.e9 false::bo (f::r) gs:=by simp[bo,zk]
   obtain⟨H2,bE,s,X,R,U,i4,i5⟩:=II ih kB (p.frame aS mp false) hb (by rw[Gj];exact d) aX hm;rw[Gj] at X R U i4;refine⟨H2,s++[],?_,X,i5,R.tail,U⟩;rw[Wc rfl rfl];exact asP O P bE
  obtain⟨H3,hw,X,i5,R,U⟩:=Xp B Tm;simp only[go_sem,seval,K,J,G,D,qX,hw,results149];exact⟨_,rfl,_,rfl,[],X,R,U,rfl,k2.trans i5⟩
 rw[ξ Y] at D;by_cases S:nd.k=7
 ·rw[π S] at F;rw[Zd item m _ S] at d⊢;obtain⟨⟨M,N⟩,y,s,j,E,u,j4,e⟩:=II ih B p hb (d.le (ss _ _ _ _ _)) aa hm;rw[j4] at d⊢;generalize(dj item m (bo (f::r) gs) nd.ks).1=m1 at d j E u⊢;have C:ly m1:=d.le (ss _ _ _ _ _);have ha:At g (ext f s).mp (ext f s).cZ (ext f s::r) gs (ext (ext f s) [m1.bs.length]::r) gs m1.bs.length:=.inr ⟨ext f s,r,rfl,rfl,rfl,rfl,rfl⟩;obtain⟨H4,bq,l1,l5⟩:=IH j ha C.1 (C.bad u) nd 4;have R1:run bu 102 [.ptr b 0,.map f.mp,aB nd,.i 4] ⟨M,N⟩=some (.tup [],H4):=bq;have l2:gY (fe m1 (bo (ext f s::r) gs) nd 4 item).bs (ext (ext f s) [m1.bs.length]::r) gs:=E.bind j (x:=⟨nd.a,4,nd.w,item⟩) (by show 3<=4;omega);obtain⟨tb,kN⟩:=j.hb;obtain⟨⟨tf,hf⟩,_,_⟩:=j.ch;simp[ee] at kN;have R2:=e.2 n none _ aa aa Z;have FE:=e.2 (n+1) none _ aa aa ei;obtain⟨zb,gb⟩:=aj.1 kN;obtain⟨zf,gf⟩:=aj.1 hf;obtain⟨z0,O⟩:=aj.1 R2;obtain⟨z1,P⟩:=aj.1 FE;have cb:=aF gb;have cf:=aF gf;have c0:=aF O;have c1:=aF P;have yf:=υ zf;have w0:=υ z0;have w1:=υ z1;have Q:(ext f s).aS=f.aS:=rfl;have a':(ext f s).mp=f.mp:=rfl;rw[Q] at cb cf yf;rw[a'] at cf;simp only[go_sem,seval,K,J,G,D,F,qX,y,hR,q1,q2,q3,q4,q5,aDG,cb,cf,c0,c1,υ zb,yf,w0,w1,R1,results149];refine⟨_,rfl,_,rfl,[m1.bs.length]++s,?_,?_,ED u (bo (ext f s::r) gs) nd 4 item,?_,k2.trans (e.trans l5)⟩
  ·rw[<-HY];exact l1
  ·rw[<-HY];exact l2
  ·rw[<-HY,aaR]
 rw[ξ S] at F;by_cases T:nd.k=8
 ·rw[π T] at I;rw[Ze item m _ T] at d⊢;have C:ly m:=d.le ((BI m (bo (f::r) gs) nd true).trans (yg _ _ _ _));obtain⟨⟨M,N⟩,y,j,e⟩:=V' B p C.2 (C.bad hb) aX nd true;have jq:(eH m (bo (f::r) gs) nd true).bs=m.bs:=by rw[MH p]
  have E:gY (eH m (bo (f::r) gs) nd true).bs (f::r) gs:=by rw[jq];exact p
  have u:=MI hb (bo (f::r) gs) nd true;obtain⟨H4,bq,hO⟩:=II ih j E u d aa hm;have R2:=e.2 n none _ aa aa Z;have FE:=e.2 (n+1) none _ aa aa ei;obtain⟨z0,O⟩:=aj.1 R2;obtain⟨z1,P⟩:=aj.1 FE;have c0:=aF O;have c1:=aF P;have w0:=υ z0;have w1:=υ z1;simp only[go_sem,seval,K,J,G,D,F,I,qX,y,c0,c1,w0,w1,bq,results149];exact⟨_,rfl,_,rfl,Out.trans (s:=[]) (k2.trans e) hO⟩
 rw[ξ T] at I;by_cases V:nd.k=23
 ·rw[π V] at l;rw[Xr item m _ V] at d⊢;have C:ly m:=d.le (BI m (bo (f::r) gs) nd false);obtain⟨⟨M,N⟩,y,j,e⟩:=V' B p C.2 (C.bad hb) aX nd false;have jq:(eH m (bo (f::r) gs) nd false).bs=m.bs:=by rw[MH p]
  have E:gY (eH m (bo (f::r) gs) nd false).bs (f::r) gs:=by rw[jq];exact p
  have u:=MI hb (bo (f::r) gs) nd false;simp only[go_sem,seval,K,J,G,D,F,I,l,qX,y,results149];exact⟨_,rfl,_,rfl,[],j,E,u,rfl,k2.trans e⟩
 rw[ξ V] at l;by_cases W:nd.k=28
 ·rw[π W] at v;rw[Xs item m _ W] at d⊢;obtain⟨⟨M,N⟩,y,j,E,u,e⟩:=Xq (lam:=true) (o:=if nd.ks.isEmpty then .nil else .ro) ih B p hb d aX yJ.1 yJ.2;simp only[go_sem,seval,K,J,G,D,F,I,l,v,qX,y,results149];exact⟨_,rfl,_,rfl,[],j,E,u,rfl,k2.trans e⟩
 rw[ξ W] at v;rw[Vv item m _ V W T S Y] at d⊢;obtain⟨⟨M,N⟩,y,hO⟩:=II ih B p hb d aa hm;simp only[go_sem,seval,K,J,G,D,F,I,l,v,qX,y,results149];exact⟨_,rfl,_,rfl,Out.trans (s:=[]) k2 hO⟩
def Xt(b mb g item)(gs):∀n:Nd,AF b mb g item gs n
 | .mk k f t w a ks=>ahe λx c=>Xt b mb g item gs x
 termination_by n=>SizeOf.sizeOf n
 decreasing_by
  have:=List.sizeOf_lt_of_mem c;simp[Nd.ks] at this;simp[Nd.mk.sizeOf_spec];omega
def dF.item{b mb g}{m}{item j}{fs}{gs}{H:ab}{tb}{x}(h:dF b mb g m item fs gs H)(hb:H.get b=some (.cells tb [.ptr mb 0,ee fs,.map g,x])):dF b mb g m j fs gs (H.set b (.cells tb [.ptr mb 0,ee fs,.map g,.i j])):=by
 obtain⟨tm,o1,o2,bv,v,t,q,w⟩:=h.hm;have a:∀i y,i≠b->H.get i=some y->(H.set b (.cells tb [.ptr mb 0,ee fs,.map g,.i j])).get i=some y:=λi y hi f=>by rw[ab.ec,κ (λe=>hi e.symm)];exact f
 have l:∀{i n et},H.get i=some (.bB n et)->i≠b:=λ{i n et} hi e=>by rw[e,hb] at hi;cases hi
 have nm:∀{i es c},H.get i=some (.map es c)->i≠b:=λ{i es c} hi e=>by rw[e,hb] at hi;cases hi
 refine⟨⟨tb,by rw[ab.ec,ν rfl,hb];rfl⟩,⟨tm,o1,o2,bv,a _ _ (λe=>h.bm e.symm) v,t.bU λj n d=>a _ _ (l d) d,q.bU λj n d=>a _ _ (l d) d,xU w λi n et s cs hi=>a _ _ (by rintro rfl;rw[hb] at hi;cases hi) hi⟩,?_,?_,h.nd,h.fb,h.bm⟩
 ·obtain⟨o,c,k,p,u⟩:=h.hg;exact⟨o,c,a _ _ (nm k) k,p,u⟩
 ·refine h.ch.bU (λy f x z hi=>a _ _ (h.fb y f).1 hi) (λy f x z hi=> ?_);obtain⟨o,c,r,_⟩:=h.ch.at f;exact a _ _ (nm r) hi
def Kp.item{b mb}{H:ab}(x:bH):Kp b mb H (H.set b x):=⟨μ _,λi te cs a _ c=>by
 rw[ab.ec,κ (λe=>a e.symm)];exact c⟩
def gY.ads{b mb g}{m:Mp}{item}{gs}{H}(h:gY m.bs [] gs)(e:dF b mb g m item [] gs H){x:Bi}(d:x.k<3):gY (m.bs++[x]) [] (m.bs.length::gs):=by
 obtain⟨_,_,_,_,a⟩:=e.hg;refine⟨λi hi=> ?_,λf c=>by cases c⟩;rcases Ν.1 hi with rfl|hi
 ·rw[Wb];exact d
 ·rw[Hd (a i hi)];exact h.1 i hi
def zY:∀i m l ks,Le m (dO i m l ks).1
 |i,m,l,[]=>Le.refl m
 |i,m,l,n::r=>by
  simp[dO];split
  ·exact(ss m l n 1 i).trans (zY _ _ _ r)
  ·split
   ·exact(ss m l n 2 i).trans (zY _ _ _ r)
   ·exact zY _ _ _ r
def Cc(l):∀i m ks,Le m (gk l i m ks)
 |i,m,[]=>Le.refl m
 |i,m,n::r=>by
  simp[gk];split
  ·exact(Wa i false m l n.ks).trans (Cc l _ _ r)
  ·exact Cc l _ _ r
noncomputable def JP:=f68.c.r.r.r.l.r.b.b
noncomputable def JQ:=f68.c.r.r.r.r.l.r.b.b
def HZ{b mb g}{ks:List Nd}{o}{p3}(Q:ks.length<=900000000000000000):∀rest i m G gs H α,ks.drop i=rest->dF b mb g m G [] gs H->gY m.bs [] gs->Bw m->ly (dO i m (bo [] gs) rest).1->
  α 4=.ptr b 0->α 13=.vec o (bA ks)->α 14=.i ks.length->α 15=.i i->α 1=p3->α 2=.ptr 1 0->α 3=.ptr mb 0->
  aD (aJ (aO bu JP) α H) λe l H'=>e=.exit 0/\l 4=.ptr b 0/\l 1=p3/\l 2=.ptr 1 0/\l 3=.ptr mb 0/\∃d p,dF b mb g (dO i m (bo [] gs) rest).1 p [] d H'/\gY (dO i m (bo [] gs) rest).1.bs [] d/\Bw (dO i m (bo [] gs) rest).1/\(dO i m (bo [] gs) rest).2=bo [] d/\Kp b mb H H'
 |[],i,m,G,gs,H,α,r,h,A,hb,f,a4,q,je,K,a1,a2,a3=>by
  have hi:ks.length<=i:=Κ.1 r;have M:JP=.seq _ _:=rfl;have I:=bP ((i:Int)<(ks.length:Int));rw[aG,M];simp only[go_sem,seval,je,K,I];refine⟨aK,?_,?_,?_,?_,gs,G,h,A,hb,rfl,Kp.refl _ _ _⟩;all_goals simp[go_sem,a4,a1,a2,a3]
 |x::rest,i,m,G,gs,H,α,r,h,A,hb,f,a4,q,je,K,a1,a2,a3=>by
  have hi:i<ks.length:=by
   by_cases hh:i<ks.length
   ·exact hh
   ·rw[aDk aa] at r;cases r
  have nD:ks[i]? =some x:=by have:=Ο hi;rw[r] at this;rw[Φ hi];exact Λ some (aDM this).1.symm
  have S:ks.drop (i+1)=rest:=by have:=Ο hi;rw[r] at this;exact(aDM this).2.symm
  obtain⟨n,L⟩:=H;obtain⟨tb,kN⟩:=h.hb;obtain⟨zb,s⟩:=aj.1 kN;have lv:ab.get ⟨n+1,(n,.k 71 (aC x))::L⟩ b=some (.cells tb [.ptr mb 0,ee [],.map g,.i G]):=aj.2 ⟨aa,by rw[br,bV];exact s⟩;have E:=dF.item (j:=i) (H:=⟨n+1,(n,.k 71 (aC x))::L⟩) (h.push (.k 71 (aC x))) lv;have e2:ab.set ⟨n+1,(n,.k 71 (aC x))::L⟩ b (.cells tb [.ptr mb 0,ee [],.map g,.i i])=⟨n+1,(n,.k 71 (aC x))::aH L b (.cells tb [.ptr mb 0,ee [],.map g,.i i])⟩:=by simp only[ab.set,tj];rw[bV]
  have k2:Kp b mb ⟨n,L⟩ ⟨n+1,(n,.k 71 (aC x))::aH L b (.cells tb [.ptr mb 0,ee [],.map g,.i i])⟩:=by rw[<-e2];exact(Kp.push (b:=b) (mb:=mb) ⟨n,L⟩ (.k 71 (aC x))).trans (Kp.item _)
  rw[e2] at E;have cb:=aF s;simp[ee] at cb s E k2;have M:JP=.seq _ _:=rfl;have I:=bJ ((i:Int)<(ks.length:Int));have x1:=mB o nD;have ym:=aY (n<n+1);have W:=aY (b<n+1);have U:=dw (n=b);have X:=ph (n:=i) aa;have t:((x.k:Int)==2)=decide (x.k=2):=ez x.k 2;have N:((x.k:Int)==3)=decide (x.k=3):=ez x.k 3;have mX:∀k,bo [] (k::gs)=.nm k::bo [] gs:=λk=>rfl;by_cases C:x.k=2
  ·rw[π C] at t;have c:dO i m (bo [] gs) (x::rest)=dO (i+1) (fe m (bo [] gs) x 1 i) (bo [] (m.bs.length::gs)) rest:=by rw[mX];simp[dO,C]
   rw[c] at f⊢;have v:ly m:=f.le ((ss m (bo [] gs) x 1 i).trans (zY _ _ _ _));have Z:At g g gs [] gs [] (m.bs.length::gs) m.bs.length:=.inl ⟨rfl,rfl,rfl,rfl,rfl⟩;obtain⟨z,Y,R,P⟩:=IH E Z v.1 (v.bad hb) x 1;have V:run bu 102 [.ptr b 0,.map g,aB x,.i 1] ⟨n+1,(n,.k 71 (aC x))::aH L b (.cells tb [.ptr mb 0,.val (.pointer none),.map g,.i i])⟩=some (.tup [],z):=Y;have j2:gY (fe m (bo [] gs) x 1 i).bs [] (m.bs.length::gs):=A.ads h (x:=⟨x.a,1,x.w,i⟩) (by show 1<3;omega);have T:=ED hb (bo [] gs) x 1 i;rw[aG,M];simp only[go_sem,seval,a4,q,je,K,I,x1,ym,W,U,cb,s,t,X,fU,V];refine aT (HZ (o:=o) (p3:=p3) Q rest (i+1) _ i (m.bs.length::gs) z _ S R j2 T f ?_ ?_ ?_ ?_ ?_ ?_ ?_) ?_
   case refine_8=>
    rintro e l H' ⟨rfl,F,b1,b2,u,d,p,l1,J,B,D,y⟩;exact⟨rfl,F,b1,b2,u,d,p,l1,J,B,D,k2.trans (P.trans y)⟩
   all_goals simp[go_sem,a4,q,je,a1,a2,a3]
  ·rw[ξ C] at t;by_cases O:x.k=3
   ·rw[π O] at N;have c:dO i m (bo [] gs) (x::rest)=dO (i+1) (fe m (bo [] gs) x 2 i) (bo [] (m.bs.length::gs)) rest:=by rw[mX];simp[dO];rw[κ C,ν O]
    rw[c] at f⊢;have v:ly m:=f.le ((ss m (bo [] gs) x 2 i).trans (zY _ _ _ _));have Z:At g g gs [] gs [] (m.bs.length::gs) m.bs.length:=.inl ⟨rfl,rfl,rfl,rfl,rfl⟩;obtain⟨z,Y,R,P⟩:=IH E Z v.1 (v.bad hb) x 2;have V:run bu 102 [.ptr b 0,.map g,aB x,.i 2] ⟨n+1,(n,.k 71 (aC x))::aH L b (.cells tb [.ptr mb 0,.val (.pointer none),.map g,.i i])⟩=some (.tup [],z):=Y;have j2:gY (fe m (bo [] gs) x 2 i).bs [] (m.bs.length::gs):=A.ads h (x:=⟨x.a,2,x.w,i⟩) (by show 2<3;omega);have T:=ED hb (bo [] gs) x 2 i;rw[aG,M];simp only[go_sem,seval,a4,q,je,K,I,x1,ym,W,U,cb,s,t,N,X,fU,V];refine aT (HZ (o:=o) (p3:=p3) Q rest (i+1) _ i (m.bs.length::gs) z _ S R j2 T f ?_ ?_ ?_ ?_ ?_ ?_ ?_) ?_
    case refine_8=>
     rintro e l H' ⟨rfl,F,b1,b2,u,d,p,l1,J,B,D,y⟩;exact⟨rfl,F,b1,b2,u,d,p,l1,J,B,D,k2.trans (P.trans y)⟩
    all_goals simp[go_sem,a4,q,je,a1,a2,a3]
   ·rw[ξ O] at N;have c:dO i m (bo [] gs) (x::rest)=dO (i+1) m (bo [] gs) rest:=by simp[dO];rw[κ C,κ O]
    rw[c] at f⊢;rw[aG,M];simp only[go_sem,seval,a4,q,je,K,I,x1,ym,W,U,cb,s,t,N,X];refine aT (HZ (o:=o) (p3:=p3) Q rest (i+1) _ i gs _ _ S E A hb f ?_ ?_ ?_ ?_ ?_ ?_ ?_) ?_
    case refine_8=>
     rintro e l H' ⟨rfl,F,b1,b2,u,d,p,l1,J,B,D,y⟩;exact⟨rfl,F,b1,b2,u,d,p,l1,J,B,D,k2.trans y⟩
    all_goals simp[go_sem,a4,q,je,a1,a2,a3]
def Ou{b mb g}{gs}{ks:List Nd}{o}{p1}(M:ks.length<=900000000000000000)(J:∀x∈ks,dz x<=900000/\mx x<=900000000000000000):∀rest i m u H α,ks.drop i=rest->dF b mb g m u [] gs H->gY m.bs [] gs->Bw m->ly (gk (bo [] gs) i m rest)->
  α 4=.ptr b 0->α 46=.vec o (bA ks)->α 47=.i ks.length->α 48=.i i->α 1=p1->α 2=.ptr 1 0->α 3=.ptr mb 0->
  aD (aJ (aO bu JQ) α H) λe q H'=>e=.exit 3/\q 1=p1/\q 2=.ptr 1 0/\q 3=.ptr mb 0/\∃r,dF b mb g (gk (bo [] gs) i m rest) r [] gs H'/\gY (gk (bo [] gs) i m rest).bs [] gs/\Bw (gk (bo [] gs) i m rest)/\Kp b mb H H'
 |[],i,m,u,H,α,d,h,v,hb,l,a4,s,je,D,a1,a2,a3=>by
  have hi:ks.length<=i:=Κ.1 d;have E:JQ=.seq _ _:=rfl;have C:=bP ((i:Int)<(ks.length:Int));rw[aG,E];simp only[go_sem,seval,je,D,C];refine⟨aK,?_,?_,?_,u,h,v,hb,Kp.refl _ _ _⟩;all_goals simp[go_sem,a1,a2,a3]
 |x::rest,i,m,u,H,α,d,h,v,hb,l,a4,s,je,D,a1,a2,a3=>by
  have hi:i<ks.length:=by
   by_cases hh:i<ks.length
   ·exact hh
   ·rw[aDk aa] at d;cases d
  have T:ks[i]? =some x:=by have:=Ο hi;rw[d] at this;rw[Φ hi];exact Λ some (aDM this).1.symm
  have N:ks.drop (i+1)=rest:=by have:=Ο hi;rw[d] at this;exact(aDM this).2.symm
  obtain⟨F3,To⟩:=J x (Β T);obtain⟨n,L⟩:=H;obtain⟨tb,kN⟩:=h.hb;obtain⟨zb,p⟩:=aj.1 kN;have lv:ab.get ⟨n+1,(n,.k 71 (aC x))::L⟩ b=some (.cells tb [.ptr mb 0,ee [],.map g,.i u]):=aj.2 ⟨aa,by rw[br,bV];exact p⟩;have z:=dF.item (j:=i) (H:=⟨n+1,(n,.k 71 (aC x))::L⟩) (h.push (.k 71 (aC x))) lv;have R:ab.set ⟨n+1,(n,.k 71 (aC x))::L⟩ b (.cells tb [.ptr mb 0,ee [],.map g,.i i])=⟨n+1,(n,.k 71 (aC x))::aH L b (.cells tb [.ptr mb 0,ee [],.map g,.i i])⟩:=by simp only[ab.set,tj];rw[bV]
  have k2:Kp b mb ⟨n,L⟩ ⟨n+1,(n,.k 71 (aC x))::aH L b (.cells tb [.ptr mb 0,ee [],.map g,.i i])⟩:=by rw[<-R];exact(Kp.push (b:=b) (mb:=mb) ⟨n,L⟩ (.k 71 (aC x))).trans (Kp.item _)
  rw[R] at z;have cb:=aF p;simp[ee] at cb p z k2;have E:JQ=.seq _ _:=rfl;have C:=bJ ((i:Int)<(ks.length:Int));have V:=mB o T;have U:=aY (n<n+1);have P:=aY (b<n+1);have O:=dw (n=b);have S:=ph (n:=i) aa;have A:((x.k:Int)==3)=decide (x.k=3):=ez x.k 3;by_cases B:x.k=3
  ·rw[π B] at A;have c:gk (bo [] gs) i m (x::rest)=gk (bo [] gs) (i+1) (jH i false m (bo [] gs) x.ks) rest:=by simp[gk];rw[ν B]
   rw[c] at l⊢;have Z:ly (jH i false m (bo [] gs) x.ks):=l.le (Cc _ _ _ _)
   have Q:fT x.ks<=900000000000000000/\x.ks.length<=900000000000000000/\fC x.ks<=900000:=by
    cases x with
    |mk k f t w a Ds=>rw[eN] at To;rw[tI] at F3;simp[Nd.ks];omega
   obtain⟨H3,bE,X,j2,Y,W⟩:=Xq (b:=b) (mb:=mb) (g:=g) (item:=i) (gs:=gs) (ks:=x.ks) (lam:=false) (o:=if x.ks.isEmpty then .nil else .ro) (λy _=>Xt b mb g i gs y) z v hb Z aX Q.1 Q.2.1;rw[aG,E];simp only[go_sem,seval,a4,s,je,D,C,V,U,P,O,cb,p,A,S,bE];refine aT (Ou (o:=o) (p1:=p1) M J rest (i+1) _ i H3 _ N X j2 Y l ?_ ?_ ?_ ?_ ?_ ?_ ?_) ?_
   case refine_8=>
    rintro e q H' ⟨rfl,b1,b2,F,r,l1,K,I,G⟩;exact⟨rfl,b1,b2,F,r,l1,K,I,k2.trans (W.trans G)⟩
   all_goals simp[go_sem,a4,s,je,a1,a2,a3]
  ·rw[ξ B] at A;have c:gk (bo [] gs) i m (x::rest)=gk (bo [] gs) (i+1) m rest:=by simp[gk];rw[κ B]
   rw[c] at l⊢;rw[aG,E];simp only[go_sem,seval,a4,s,je,D,C,V,U,P,O,cb,p,A,S];refine aT (Ou (o:=o) (p1:=p1) M J rest (i+1) _ i _ _ N z v hb l ?_ ?_ ?_ ?_ ?_ ?_ ?_) ?_
   case refine_8=>
    rintro e q H' ⟨rfl,b1,b2,F,r,l1,K,I,G⟩;exact⟨rfl,b1,b2,F,r,l1,K,I,k2.trans G⟩
   all_goals simp[go_sem,a4,s,je,a1,a2,a3]
def Kr(id:Nat)(H H':ab):Prop:=H.next<=H'.next/\∀i x,i≠id->H.get i=some x->H'.get i=some x
def Kr.refl(id)(H:ab):Kr id H H:=⟨μ _,λ_ _ _ h=>h⟩
def Kr.trans{id}{H a b:ab}(h:Kr id H a)(g:Kr id a b):Kr id H b:=⟨aDj h.1 g.1,λi x hi c=>g.2 i x hi (h.2 i x hi c)⟩
def Kr.push{id}(H:ab)(x):Kr id H (H.push x):=⟨awF _,λi y _ hi=>by
 have a:i<H.next:=by
  unfold ab.get at hi;split at hi
  ·assumption
  ·cases hi
 obtain⟨n,L⟩:=H;obtain⟨_,q⟩:=aj.1 hi
 exact aj.2 ⟨Nat.lt_succ_of_lt a,by rw[br,κ (by intro e;exact absurd a (by rw[<-e];exact aDF _))];exact q⟩⟩
def Kr.set{id}(H:ab)(x):Kr id H (H.set id x):=⟨μ _,λi y hi a=>by rw[ab.ec,κ (λe=>hi e.symm)];exact a⟩
def Row(H:ab)(id n:Nat):Prop:=∃l:List (Nat×Nat),l.length=n/\H.get id=some (.row n 198 2 (dK l))
def NB(p)(l:List (Nat×Nat)):dK (p::l)=nJ p++dK l:=rfl
def ND:∀l i,(dK l).drop (2*i)=dK (l.drop i)
 |l,0=>by simp
 |[],i+1=>by simp[dK]
 |p::l,i+1=>by rw[NB,show 2*(i+1)=2*i+1+1 by omega];simpa[nJ] using ND l i
def Xu:∀l i,(dK l).take (2*i)=dK (l.take i)
 |l,0=>by simp[dK]
 |[],i+1=>by simp[dK]
 |p::l,i+1=>by rw[NB,show 2*(i+1)=2*i+1+1 by omega];simpa[nJ,NB] using Xu l i
def qR{l}{i}{p}(h:l[i]? =some p):iM prog 198 (dK l) (2*i)=some (.agg [.i p.1,.i p.2]):=by
 have hi:i<l.length:=by
  by_cases b:i<l.length
  ·exact b
  ·rw[aDq aa] at h;cases h
 have a:l.drop i=p::l.drop (i+1):=by rw[Ο hi];rw[Φ hi] at h;cases h;rfl
 rw[Y6,ν (by rw[tD];omega),ND,a];rfl
def zl{l:List (Nat×Nat)}{i}(h:i<l.length)(a c:Nat):eD (dK l) (2*i) [.i a,.i c]=dK (l.set i (a,c)):=by unfold eD;rw[show 2*i+[AV.i a,AV.i c].length=2*(i+1) by simp;omega,Xu,ND];rw[aFb,ν h];unfold dK;rw[aFx,ap1];simp[nJ]
def qS{id n i}(h:i<n):dC prog 74 (.sl id 2 0 n) (.i i)=some (.ptr id (2*i)):=by simp only[dC,EZ,B'];rw[ν ⟨aa,aa⟩];rw[ν ⟨trivial,aA⟩,aFF,aDz,aFy]
def Ef(n)(et)(s)(c cs):CH (some (.row n et s c)) cs=.row n et s cs:=(rfl)
def wc{l}{i n s}{et}{cs}(h:cq l i=some (.row n et s cs)):e_ l i=some cs:=by simp[e_,h]
def D1{l}{i n s}{et}{cs ds}(h:cq l i=some (.row n et s cs)):e_ (aH l i (.row n et s ds)) i=some ds:=by simp[e_,bg,h]
def ajr:=ju eh 105 rfl rfl
def ajs:=ju eh 150 rfl rfl
def ajt:=ju eh 192 rfl rfl
def aju:=ju eh 193 rfl rfl
def ajv:=ju eh 226 rfl rfl
def ajw:=ju eh 246 rfl rfl
attribute [go_sem] ajr ajs ajt aju ajv ajw
def aAU(x):aI prog (run eh) 65 [.i x]=some (.bool false):=by refine G7 (v:=.bool false) rfl rfl func65 rfl (by rw[ntmps65];simp) (bW:=[.i x]) rfl rfl ?_ rfl rfl;simp[go_sem,results65,bne_self_eq_false]
def vv(a b:Nat):Int:=if a<b then-1 else if b<a then 1 else 0
def Hz(x)(H):dX eh (run eh) (.fn (.func 65) [] []) [.i x] H=some (.bool false,H):=by rw[sf rfl,show eh.P=prog from rfl,aAU];rfl
def aAV(a b:Nat):aI prog (run eh) 34 [.i a,.i b]=some (.i (vv a b)):=by
 refine G7 (v:=.i (vv a b)) rfl rfl func34 rfl (by rw[ntmps34];simp) (bW:=[.i a,.i b]) rfl rfl ?_ rfl rfl;unfold vv;by_cases h:a<b
 ·have c:=bJ ((a:Int)<(b:Int));rw[ν h];simp only[go_sem,seval,results34,Hz,c]
 ·have c:=bP ((a:Int)<(b:Int));rw[κ h];by_cases e:b<a
  ·have d:=bJ ((a:Int)>(b:Int));rw[ν e];simp only[go_sem,seval,results34,Hz,c,d]
  ·have d:=bP ((a:Int)>(b:Int));rw[κ e];simp only[go_sem,seval,results34,Hz,c,d]
def Xv(a b:Nat)(H:ab):dX eh (run eh) (.fn (.func 34) [] []) [.i a,.i b] H=some (.i (vv a b),H):=by rw[sf rfl,show eh.P=prog from rfl,aAV];rfl
def ajx(p q:Nat×Nat)(n:Nat)(L:List (Nat×bH)):run eh 105 [.agg [.i p.1,.i p.2],.agg [.i q.1,.i q.2]] ⟨n,L⟩=some (.i (vv p.1 q.1),⟨n+1+1,(n+1,.z [.i q.1,.i q.2])::(n,.z [.i p.1,.i p.2])::L⟩):=by
 suffices hh:∃r,run eh 105 [.agg [.i p.1,.i p.2],.agg [.i q.1,.i q.2]] ⟨n,L⟩=some r/\r=(.i (vv p.1 q.1),(⟨n+1+1,(n+1,.z [.i q.1,.i q.2])::(n,.z [.i p.1,.i p.2])::L⟩:ab)) by obtain⟨r,c,rfl⟩:=hh;exact c
 refine g_ rfl rfl func105 rfl (by rw[ntmps105];simp) ?_;have a:=aY (n<n+1+1);have d:=aY (n+1<n+1+1);have e:=dw (n+1=n);have b:∀x y H,fY (.agg [.i x,.i y]) H=some (.ptr H.next 0,H.push (.z [.i x,.i y])):=λx y H=>by simp[fY,AV.width,AV.cells]
 simp only[go_sem,seval,b,a,d,e,Xv,results105];exact⟨_,rfl,rfl⟩
attribute [go_sem] ajx Hz Xv
def sP(a b:Nat)(h:a+b<=2000000000000000000):IntKind.i64.wrap ((a:Int)+(b:Int))=((a+b:Nat):Int):=by rw[aDH _ (by omega)];omega
def rR(a b:Nat)(h:b<=a)(ha:a<=2000000000000000000):IntKind.i64.wrap ((a:Int)-(b:Int))=((a-b:Nat):Int):=by rw[aDH _ (by omega)];omega
def fD(a:Nat)(h:a<=2000000000000000000):IntKind.i64.wrap ((a:Int)+1)=((a+1:Nat):Int):=by rw[aDH _ (by omega)];omega
def w8(a:Nat)(h:0<a)(ha:a<=2000000000000000000):IntKind.i64.wrap ((a:Int)-1)=((a-1:Nat):Int):=by rw[aDH _ (by omega)];omega
def dM{a b:Nat}(h:a<b):decide ((a:Int)<(b:Int))=true:=bJ _
def d_{a b:Nat}(h:¬a<b):decide ((a:Int)<(b:Int))=false:=bP _
def Row.two{n id k}{L}{l:List (Nat×Nat)}(a:l.length=k)(g:cq L id=some (.row k 198 2 (dK l)))(z:id<n):Row ⟨n,aH L id (.row k 198 2 (dK l))⟩ id k:=⟨l,a,aj.2 ⟨z,by rw[bg,ν rfl,g];rfl⟩⟩
def gh(L)(i)(x y):aH (aH L i x) i y=aH L i y:=by
 induction L with
 |nil=>rfl
 |cons p r ih=>
  obtain⟨k,v⟩:=p;simp[tj];by_cases h:k=i
  ·rw[ν h,ν h,tj,ν h]
  ·rw[κ h,κ h,tj,κ h,ih]
noncomputable def JR:=f246.c.r.b.b
def Zf{id k}{a b m:Nat}{cf:AV}(t:k<=1000000000000000000)(y:a+m<=k)(hb:b+m<=k):∀(d i:Nat) (H:ab) (α:az),i+d=m->Row H id k->
  α 0=.sl id 2 0 k->α 1=.i a->α 2=.i b->α 3=.i m->α 10=.i i->
  aD (aJ (aO eh JR) α H) λe A H'=>e=.exit 0/\Row H' id k/\Kr id H H'
 |0,i,H,α,j,h,a0,a1,a2,a3,bT=>by have f:JR=.seq _ _:=rfl;have c:decide ((i:Int)<(m:Int))=false:=d_ aa;rw[aG,f];simp only[go_sem,seval,a3,bT,c];exact⟨aK,h,Kr.refl _ _⟩
 |d+1,i,H,α,j,h,a0,a1,a2,a3,bT=>by
  have f:JR=.seq _ _:=rfl;obtain⟨n,L⟩:=H;obtain⟨l,x,hg⟩:=h;obtain⟨z,g⟩:=aj.1 hg;have c:decide ((i:Int)<(m:Int))=true:=dM aa;obtain⟨p,o⟩:=fG (show a+i<l.length by omega);obtain⟨q,v⟩:=fG (show b+i<l.length by omega);have o2:=zl (l:=l.set (a+i) (q.1,q.2)) (i:=b+i) (by rw[aDE];omega) p.1 p.2;have w:(2*(a+i)+2<=(dK l).length)=True:=υ (by rw[tD];omega);have s:(2*(b+i)+2<=(dK (l.set (a+i) (q.1,q.2))).length)=True:=υ (by rw[tD,aDE];omega);have gs:cq (aH L id (.row k 198 2 (dK (l.set (a+i) (q.1,q.2))))) id=some (.row k 198 2 (dK (l.set (a+i) (q.1,q.2)))):=by rw[bg,ν rfl,g];rfl
  rw[aG,f];simp only[go_sem,seval,a0,a1,a2,a3,bT,c,(sP a i aa),(sP b i aa),(fD i aa),(qS (id:=id) (show a+i<k by omega)),(qS (id:=id) (show b+i<k by omega)),qR o,qR v,(zl (l:=l) (i:=a+i) aa q.1 q.2),o2,w,s,υ z,wc g,g,D1 (ds:=dK (l.set (a+i) (q.1,q.2))) g,gs,Ef,gh];refine aT (Zf (cf:=cf) t y hb d (i+1) ⟨n,aH L id (.row k 198 2 (dK ((l.set (a+i) (q.1,q.2)).set (b+i) (p.1,p.2))))⟩ _ aa ⟨(l.set (a+i) (q.1,q.2)).set (b+i) (p.1,p.2),by rw[aDE,aDE];exact x,aj.2 ⟨z,by rw[bg,ν rfl,g];rfl⟩⟩ ?_ ?_ ?_ ?_ ?_) ?_
  case refine_6=>
   rintro e A H' ⟨rfl,r,u⟩;exact⟨rfl,r,(Kr.set ⟨n,L⟩ _).trans u⟩
  all_goals simp[go_sem,a0,a1,a2,a3]
def Pv{id k}{H}(h:Row H id k)(f:k<=1000000000000000000)(a b m:Nat)(cf:AV)(e:a+m<=k)(hb:b+m<=k):∃H',run eh 246 [.sl id 2 0 k,.i a,.i b,.i m,cf] H=some (.tup [],H')/\Row H' id k/\Kr id H H':=by
 suffices hh:∃r,run eh 246 [.sl id 2 0 k,.i a,.i b,.i m,cf] H=some r/\∃H',r=(.tup [],H')/\Row H' id k/\Kr id H H' by obtain⟨r,g,H',rfl,q⟩:=hh;exact⟨H',g,q⟩
 refine g_ (c:=.seq _ (.block 0 (.loop JR))) rfl rfl func246 rfl (by rw[ntmps246];simp) ?_;simp only[go_sem,seval,];refine bL (dE (Zf (cf:=cf) f e hb m 0 H _ aa h ?_ ?_ ?_ ?_ ?_)) ?_
 case refine_6=>
  rintro _ ⟨ae,H',rfl,r,d⟩;simp only[go_sem,seval,results246];exact⟨_,rfl,_,rfl,r,d⟩
 all_goals simp[go_sem,]
 all_goals rfl
noncomputable def R3:=f226.c.r.r.l.b.b
def Ov{id k}{a m b}{cf}(g:k<=1000000000000000000)(w:a<=m)(hb:b<=k):∀(d i j:Nat) (H:ab) (α:az),i+j<=d->0<i->0<j->i<=m->m+j<=k->Row H id k->
  α 0=.sl id 2 0 k->α 2=.i m->α 4=cf->α 10=.i i->α 11=.i j->
  aD (aJ (aO eh R3) α H) λe c H'=>e=.exit 0/\Row H' id k/\Kr id H H'/\c 0=.sl id 2 0 k/\c 2=.i m/\c 4=cf/\∃x:Nat,x<=m/\m+x<=k/\c 10=.i x
 |0,i,j,H,α,A,hi,B,y,C,h,a0,a2,a4,bT,f=>by omega
 |d+1,i,j,H,α,A,hi,B,y,C,h,a0,a2,a4,bT,f=>by
  have t:R3=.seq _ _:=rfl;by_cases z:i=j
  ·have l:((i:Int) != (j:Int))=false:=by rw[rO,π z];rfl
   rw[aG,t];simp only[go_sem,seval,bT,f,l];refine⟨aK,h,Kr.refl _ _,?_,?_,?_,i,y,aa,?_⟩;all_goals simp[go_sem,a0,a2,a4]
  ·have l:((i:Int) != (j:Int))=true:=by rw[rO,ξ z];rfl
   by_cases qi:j<i
   ·have v:=bJ ((i:Int)>(j:Int));have w1:=rR m i aa aa;have u:=rR i j aa aa;obtain⟨o,s,p,k1⟩:=Pv h g (m-i) m j cf aa aa;rw[aG,t];simp only[go_sem,seval,a0,a2,a4,bT,f,l,v,w1,u,s];refine aT (Ov (cf:=cf) g w hb d (i-j) j o _ aa aa aa aa aa p ?_ ?_ ?_ ?_ ?_) ?_
    case refine_6=>
     rintro e c H' ⟨rfl,r,n,q⟩;exact⟨rfl,r,k1.trans n,q⟩
    all_goals simp[go_sem,a0,a2,a4,f]
   ·have v:=bP ((i:Int)>(j:Int));have w1:=rR m i aa aa;have u:=sP m j aa;obtain⟨o,s,p,k1⟩:=Pv h g (m-i) (m+j-i) i cf aa aa;rw[aG,t];simp only[go_sem,seval,a0,a2,a4,bT,f,l,v,w1,u,(rR (m+j) i aa aa),(rR j i aa aa),s];refine aT (Ov (cf:=cf) g w hb d i (j-i) o _ aa aa aa aa aa p ?_ ?_ ?_ ?_ ?_) ?_
    case refine_6=>
     rintro e c H' ⟨rfl,r,n,q⟩;exact⟨rfl,r,k1.trans n,q⟩
    all_goals simp[go_sem,a0,a2,a4,bT]
def ajy{id k}{H}(h:Row H id k)(e:k<=1000000000000000000)(a m b)(cf)(h1:a<m)(h2:m<b)(hb:b<=k):∃H',run eh 226 [.sl id 2 0 k,.i a,.i m,.i b,cf] H=some (.tup [],H')/\Row H' id k/\Kr id H H':=by
 suffices hh:∃r,run eh 226 [.sl id 2 0 k,.i a,.i m,.i b,cf] H=some r/\∃H',r=(.tup [],H')/\Row H' id k/\Kr id H H' by obtain⟨r,d,H',rfl,q⟩:=hh;exact⟨H',d,q⟩
 refine g_ (c:=.seq _ (.seq _ (.seq (.block 0 (.loop R3)) _))) rfl rfl func226 rfl (by rw[ntmps226];simp) ?_;simp only[go_sem,seval,(rR m a aa aa),(rR b m aa aa)];simp only[cg];refine bL (dE (Ov (a:=a) (b:=b) (cf:=cf) (m:=m) e aa hb b (m-a) (b-m) H _ aa aa aa aa aa h ?_ ?_ ?_ ?_ ?_)) ?_
 case refine_6=>
  rintro _ ⟨ae,H',rfl,r,f,g,b2,n,x,x1,x2,l⟩;obtain⟨H1,d,j,k1⟩:=Pv r e (m-x) m x cf aa aa;simp only[go_sem,seval,g,b2,n,l,(rR m x aa aa),d,results226];exact⟨_,rfl,_,rfl,j,f.trans k1⟩
 all_goals simp[go_sem,]
 all_goals rfl
abbrev jQ:AV:=.fn (.func 105) [] []
noncomputable def JS:=f192.c.r.b.b
noncomputable def JT:=JS.r.l.b.r.b.b
def K6{a b:Nat}(h:b<a):decide ((a:Int)>(b:Int))=true:=bJ _
def Gk{a b:Nat}(h:¬b<a):decide ((a:Int)>(b:Int))=false:=bP _
def Xw{id k a b i}(D:k<=1000000000000000000)(hb:b<=k)(hi:i<b):∀(d j:Nat) (H:ab) (α:az),a+d=j->j<=i->Row H id k->
  α 0=.sl id 2 0 k->α 1=.i a->α 2=.i b->α 3=jQ->α 8=.i i->α 9=.i j->
  aD (aJ (aO eh JT) α H) λe f H'=>e=.exit 2/\Row H' id k/\Kr id H H'/\f 0=.sl id 2 0 k/\f 1=.i a/\f 2=.i b/\f 3=jQ/\f 8=.i i
 |0,j,H,α,C,M,h,a0,a1,a2,a3,a8,m=>by have s:JT=.seq _ _:=rfl;have o:=Gk (a:=j) (b:=a) aa;rw[aG,s];simp only[go_sem,seval,a0,a1,m,o];refine⟨aK,h,Kr.refl _ _,?_⟩;simp[go_sem,a2,a3,a8]
 |d+1,j,H,α,C,M,h,a0,a1,a2,a3,a8,m=>by
  have s:JT=.seq _ _:=rfl;obtain⟨n,L⟩:=H;obtain⟨l,v,hg⟩:=h;obtain⟨z,g⟩:=aj.1 hg;have c:=wc g;have x:=υ z;have G:=aY (id<n+1+1);have u:=dw (n=id);have n1:=dw (n+1=id);have o:=K6 (a:=j) (b:=a) aa;have w1:=w8 j aa aa;have A:=qS (id:=id) (show j<k by omega);have w:=qS (id:=id) (show j-1<k by omega);obtain⟨p,I⟩:=fG (show j<l.length by omega);obtain⟨q,E⟩:=fG (show j-1<l.length by omega);have l1:=qR I;have y:=qR E;have o2:=zl (l:=l.set j (q.1,q.2)) (i:=j-1) (by rw[aDE];omega) p.1 p.2;have F:(2*j+2<=(dK l).length)=True:=υ (by rw[tD];omega);have J:(2*(j-1)+2<=(dK (l.set j (q.1,q.2))).length)=True:=υ (by rw[tD,aDE];omega);have gs:cq (aH L id (.row k 198 2 (dK (l.set j (q.1,q.2))))) id=some (.row k 198 2 (dK (l.set j (q.1,q.2)))):=by rw[bg,ν rfl,g];rfl
  have kp:Kr id ⟨n,L⟩ ⟨n+1+1,(n+1,.z [.i q.1,.i q.2])::(n,.z [.i p.1,.i p.2])::L⟩:=(Kr.push ⟨n,L⟩ (.z [.i p.1,.i p.2])).trans (Kr.push ⟨n+1,(n,.z [.i p.1,.i p.2])::L⟩ (.z [.i q.1,.i q.2]));by_cases B:vv p.1 q.1<0
  ·have t:=π B;rw[aG,s];simp only[go_sem,seval,a0,a1,a3,m,o,w1,A,w,l1,y,(zl (l:=l) (i:=j) aa q.1 q.2),o2,F,J,x,G,u,n1,c,g,D1 (ds:=dK (l.set j (q.1,q.2))) g,gs,Ef,gh,t,br];refine aT (Xw (id:=id) (k:=k) (a:=a) (b:=b) D hb hi d (j-1) ⟨n+1+1,(n+1,.z [.i q.1,.i q.2])::(n,.z [.i p.1,.i p.2])::aH L id (.row k 198 2 (dK ((l.set j (q.1,q.2)).set (j-1) (p.1,p.2))))⟩ _ aa aa ⟨(l.set j (q.1,q.2)).set (j-1) (p.1,p.2),by rw[aDE,aDE];exact v,aj.2 ⟨aa,by rw[br,κ (show ¬n+1=id by omega),br,κ (show ¬n=id by omega),bg,ν rfl,g];rfl⟩⟩ ?_ ?_ ?_ ?_ ?_ ?_) ?_
   case refine_7=>
    rintro e f H' ⟨rfl,r,K,N⟩;refine⟨rfl,r,kp.trans (Kr.trans ?_ K),N⟩;have:=Kr.set (id:=id) ⟨n+1+1,(n+1,.z [.i q.1,.i q.2])::(n,.z [.i p.1,.i p.2])::L⟩ (.row k 198 2 (dK ((l.set j (q.1,q.2)).set (j-1) (p.1,p.2))));simpa only[ab.set,tj,u,n1,aDf] using this
   all_goals simp[go_sem,a0,a1,a2,a3,a8]
  ·have t:=ξ B;rw[aG,s];simp only[go_sem,seval,a0,a1,a2,a3,a8,m,o,w1,A,w,l1,y,x,c,t];refine⟨aK,⟨l,v,aj.2 ⟨aa,by rw[br,κ (show ¬n+1=id by omega),br,κ (show ¬n=id by omega)];exact g⟩⟩,kp,?_⟩;simp[go_sem]
def Zg{id k a b}(g:k<=1000000000000000000)(hb:b<=k):∀(d i:Nat) (H:ab) (α:az),b<=i+d->a<=i->i<=k+1->Row H id k->
  α 0=.sl id 2 0 k->α 1=.i a->α 2=.i b->α 3=jQ->α 8=.i i->
  aD (aJ (aO eh JS) α H) λe p H'=>e=.exit 0/\Row H' id k/\Kr id H H'
 |d,i,H,α,hd,hi,K7,h,a0,a1,a2,a3,a8=>by
  have j:JS=.seq _ (.seq (.block 1 (.seq _ (.block 2 (.loop JT)))) _):=rfl;by_cases f:i<b
  ·cases d with
   |zero=>omega
   |succ d=>
    have c:=dM f;rw[aG,j];simp only[go_sem,seval,a2,a8,c];simp[cg];refine bL (dE (Xw (id:=id) (k:=k) (a:=a) (b:=b) g hb f (i-a) i H _ aa aa h ?_ ?_ ?_ ?_ ?_ ?_)) ?_
    case refine_7=>
     rintro _ ⟨p,n,rfl,r,m,o,b1,b2,s,b8⟩;simp[go_sem,b8,(fD i aa)];refine aT (Zg (a:=a) (b:=b) g hb d (i+1) n _ aa aa aa r ?_ ?_ ?_ ?_ ?_) ?_
     case refine_6=>
      rintro e nZ H2 ⟨rfl,l,q⟩;exact⟨rfl,l,m.trans q⟩
     all_goals simp[go_sem,o,b1,b2,s]
    all_goals simp[go_sem,a0,a1,a2,a3,a8]
  ·have c:=d_ f;rw[aG,j];simp only[go_sem,seval,a2,a8,c];exact⟨aK,h,Kr.refl _ _⟩
def acb{id k}{H}(h:Row H id k)(hk:k<=900000000000000000)(a b)(h1:a<=k)(hb:b<=k):∃H',run eh 192 [.sl id 2 0 k,.i a,.i b,jQ] H=some (.tup [],H')/\Row H' id k/\Kr id H H':=by
 suffices hh:∃r,run eh 192 [.sl id 2 0 k,.i a,.i b,jQ] H=some r/\∃H',r=(.tup [],H')/\Row H' id k/\Kr id H H' by obtain⟨r,e,H',rfl,q⟩:=hh;exact⟨H',e,q⟩
 refine g_ (c:=.seq _ (.block 0 (.loop JS))) rfl rfl func192 rfl (by rw[ntmps192];simp) ?_;simp only[go_sem,seval,(fD a aa)];refine bL (dE (Zg (a:=a) (b:=b) aa hb b (a+1) H _ aa aa aa h ?_ ?_ ?_ ?_ ?_)) ?_
 case refine_6=>
  rintro _ ⟨ae,H',rfl,r,d⟩;simp only[go_sem,seval,results192];exact⟨_,rfl,_,rfl,r,d⟩
 all_goals simp[go_sem,]
 all_goals rfl
def Row.push{H:ab}{id k}(h:Row H id k)(x):Row (H.push x) id k:=by obtain⟨l,a,hg⟩:=h;obtain⟨n,L⟩:=H;obtain⟨z,g⟩:=aj.1 hg;exact⟨l,a,aj.2 ⟨Nat.lt_succ_of_lt z,by rw[br,κ (show ¬n=id by omega)];exact g⟩⟩
def wF{n id k}{L}(h:Row ⟨n,L⟩ id k)(x y):Row ⟨n+1+1,(n+1,x)::(n,y)::L⟩ id k/\Kr id ⟨n,L⟩ ⟨n+1+1,(n+1,x)::(n,y)::L⟩:=⟨(h.push y).push x,(Kr.push ⟨n,L⟩ y).trans (Kr.push ⟨n+1,(n,y)::L⟩ x)⟩
def Jj(n:Nat)(h:n<=2000000000000000000):rB prog 3 147 (.i n)=some (.int .u64 n):=by have:rB prog 3 147 (.i n)=some (.int .u64 (IntKind.u64.wrap (n:Int))):=af;rw[this,IntWalk.u64_in _ aa]
def IJ(n:Nat)(h:n<=2000000000000000000):rB prog 147 3 (.int .u64 n)=some (.int .i64 n):=by
 have:rB prog 147 3 (.int .u64 n)=some (.int .i64 (IntKind.i64.wrap (n:Int))):=by kernel_rfl
 rw[this,aDH _ (by omega)]
def Jk(n:Nat):ew prog .shr 147 (.int .u64 n) (.int .u64 1)=some (.int .u64 (n/2:Nat)):=by
 have:((n:Int)).fdiv 2=((n/2:Nat):Int):=by rw[Int.fdiv_eq_ediv_of_nonneg _ aa];omega
 simp[ew,pN,Im,IntKind.bits,this]
noncomputable def Qv:=f193.c.l.r.t.r.r.l.b.b
def M3{id k a b}(D:k<=900000000000000000)(J:a<k)(hb:b<=k):∀d i j H α,j<=i+d->i<=j/\j<=b->Row H id k->
  α 0=.sl id 2 0 k->α 1=.i a->α 4=jQ->α 10=.i i->α 11=.i j->
  aD (aJ (aO eh Qv) α H) λe f H'=>e=.exit 0/\Row H' id k/\Kr id H H'/\f 0=.sl id 2 0 k/\f 1=.i a/\f 4=jQ/\∃x:Nat,(i<=x/\x<=j)/\f 10=.i x
 |d,i,j,H,α,hd,hi,h,a0,a1,a4,bT,o=>by
  have C:Qv=.seq _ _:=rfl;by_cases N:i<j
  ·cases d with
   |zero=>omega
   |succ d=>
    obtain⟨n,L⟩:=H;obtain⟨r2,k2⟩:=wF h (.z []) (.z []);have P:=h;obtain⟨l,hl,hg⟩:=P;obtain⟨z,g⟩:=aj.1 hg;have c:=wc g;have G:=υ z;have s:=dM N;have w1:=sP i j aa;have E:=Jj (i+j) aa;have u:=Jk (i+j);obtain⟨m,hm⟩:∃m,m=(i+j)/2:=⟨_,rfl⟩;rw[<-hm] at u;have I:=IJ m aa;have T:=fD m aa;have M:=qS (id:=id) (show m<k by omega);have F:=qS (id:=id) (show a<k by omega);obtain⟨p,R⟩:=fG (show m<l.length by omega);obtain⟨q,Q⟩:=fG (show a<l.length by omega);have l1:=qR R;have K:=qR Q;by_cases O:vv p.1 q.1<0
    ·have w:=π O;obtain⟨t,k1⟩:=wF h (.z [.i q.1,.i q.2]) (.z [.i p.1,.i p.2]);rw[aG,C];simp only[go_sem,seval,a0,a1,a4,bT,o,s,w1,T,E,u,I,M,F,l1,K,G,c,w];refine aT (M3 (a:=a) (b:=b) D J hb d (m+1) j _ _ aa aa t ?_ ?_ ?_ ?_ ?_) ?_
     case refine_6=>
      rintro e f H' ⟨rfl,r,B,v,y,c2,x,S,A⟩;exact⟨rfl,r,k1.trans B,v,y,c2,x,aa,A⟩
     all_goals simp[go_sem,a0,a1,a4,o]
    ·have w:=ξ O;obtain⟨t,k1⟩:=wF h (.z [.i q.1,.i q.2]) (.z [.i p.1,.i p.2]);rw[aG,C];simp only[go_sem,seval,a0,a1,a4,bT,o,s,w1,E,u,I,M,F,l1,K,G,c,w];refine aT (M3 (a:=a) (b:=b) D J hb d i m _ _ aa aa t ?_ ?_ ?_ ?_ ?_) ?_
     case refine_6=>
      rintro e f H' ⟨rfl,r,B,v,y,c2,x,S,A⟩;exact⟨rfl,r,k1.trans B,v,y,c2,x,aa,A⟩
     all_goals simp[go_sem,a0,a1,a4,bT]
  ·have s:=d_ N;rw[aG,C];simp only[go_sem,seval,bT,o,s];refine⟨aK,h,Kr.refl _ _,?_,?_,?_,i,aa,?_⟩;all_goals simp[go_sem,a0,a1,a4]
noncomputable def Qw:=f193.c.r.l.r.t.r.r.l.b.b
def M4{id k a mm}(D:k<=900000000000000000)(E:mm<k):∀d i j H α,j<=i+d->i<=j/\j<=mm->Row H id k->
  α 0=.sl id 2 0 k->α 1=.i a->α 2=.i mm->α 4=jQ->α 14=.i i->α 15=.i j->
  aD (aJ (aO eh Qw) α H) λe b H'=>e=.exit 4/\Row H' id k/\Kr id H H'/\b 0=.sl id 2 0 k/\b 1=.i a/\b 2=.i mm/\b 4=jQ/\∃x:Nat,(i<=x/\x<=j)/\b 14=.i x
 |d,i,j,H,α,hd,hi,h,a0,a1,a2,a4,je,o=>by
  have C:Qw=.seq _ _:=rfl;by_cases N:i<j
  ·cases d with
   |zero=>omega
   |succ d=>
    obtain⟨n,L⟩:=H;obtain⟨r2,k2⟩:=wF h (.z []) (.z []);have P:=h;obtain⟨l,hl,hg⟩:=P;obtain⟨z,g⟩:=aj.1 hg;have c:=wc g;have I:=υ z;have f:=dM N;have w1:=sP i j aa;have F:=Jj (i+j) aa;have t:=Jk (i+j);obtain⟨m,hm⟩:∃m,m=(i+j)/2:=⟨_,rfl⟩;rw[<-hm] at t;have J:=IJ m aa;have T:=fD m aa;have M:=qS (id:=id) (show mm<k by omega);have G:=qS (id:=id) (show m<k by omega);obtain⟨p,R⟩:=fG (show mm<l.length by omega);obtain⟨q,Q⟩:=fG (show m<l.length by omega);have l1:=qR R;have K:=qR Q;by_cases O:vv p.1 q.1<0
    ·have v:=π O;obtain⟨s,k1⟩:=wF h (.z [.i q.1,.i q.2]) (.z [.i p.1,.i p.2]);rw[aG,C];simp only[go_sem,seval,a0,a2,a4,je,o,f,w1,F,t,J,M,G,l1,K,I,c,v,ω];refine aT (M4 (a:=a) (mm:=mm) D E d i m _ _ aa aa s ?_ ?_ ?_ ?_ ?_ ?_) ?_
     case refine_7=>
      rintro e b H' ⟨rfl,r,B,u,w,c2,y,x,S,A⟩;exact⟨rfl,r,k1.trans B,u,w,c2,y,x,aa,A⟩
     all_goals simp[go_sem,a0,a1,a2,a4,je]
    ·have v:=ξ O;obtain⟨s,k1⟩:=wF h (.z [.i q.1,.i q.2]) (.z [.i p.1,.i p.2]);rw[aG,C];simp only[go_sem,seval,a0,a2,a4,je,o,f,w1,T,F,t,J,M,G,l1,K,I,c,v,Α];refine aT (M4 (a:=a) (mm:=mm) D E d (m+1) j _ _ aa aa s ?_ ?_ ?_ ?_ ?_ ?_) ?_
     case refine_7=>
      rintro e b H' ⟨rfl,r,B,u,w,c2,y,x,S,A⟩;exact⟨rfl,r,k1.trans B,u,w,c2,y,x,aa,A⟩
     all_goals simp[go_sem,a0,a1,a2,a4,o]
  ·have f:=d_ N;rw[aG,C];simp only[go_sem,seval,je,o,f];refine⟨aK,h,Kr.refl _ _,?_,?_,?_,?_,i,aa,?_⟩;all_goals simp[go_sem,a0,a1,a2,a4]
noncomputable def Qx:=f193.c.r.r.r.r.r.r.r.l.b.b
def He{id k a mm b md nn pp lo}(O:k<=900000000000000000)(t:pp<=2000000000000000000)(P:pp<lo+k):∀d i j H α,j<=i+d->i<=j/\lo<=i/\j<=pp/\j<=k->Row H id k->
  α 0=.sl id 2 0 k->α 1=.i a->α 2=.i mm->α 3=.i b->α 4=jQ->α 18=.i md->α 19=.i nn->α 22=.i pp->α 20=.i i->α 21=.i j->
  aD (aJ (aO eh Qx) α H) λe f H'=>e=.exit 8/\Row H' id k/\Kr id H H'/\f 0=.sl id 2 0 k/\f 1=.i a/\f 2=.i mm/\f 3=.i b/\f 4=jQ/\f 18=.i md/\f 19=.i nn/\f 22=.i pp/\∃x:Nat,(i<=x/\x<=j)/\f 20=.i x
 |d,i,j,H,α,hd,hi,h,a0,a1,a2,a3,a4,kD,A,o,a20,s=>by
  have K:Qx=.seq _ _:=rfl;by_cases W:i<j
  ·cases d with
   |zero=>omega
   |succ d=>
    obtain⟨n,L⟩:=H;obtain⟨r2,k2⟩:=wF h (.z []) (.z []);have Y:=h;obtain⟨l,hl,hg⟩:=Y;obtain⟨z,g⟩:=aj.1 hg;have c:=wc g;have S:=υ z;have u:=dM W;have w1:=sP i j aa;have Q:=Jj (i+j) aa;have w:=Jk (i+j);obtain⟨m,hm⟩:∃m,m=(i+j)/2:=⟨_,rfl⟩;rw[<-hm] at w;have T:=IJ m aa;have w2:=fD m aa;have N:=rR pp m aa aa;have V:=qS (id:=id) (show(pp-m)<k by omega);have R:=qS (id:=id) (show m<k by omega);obtain⟨p,hp⟩:=fG (show(pp-m)<l.length by omega);obtain⟨q,Z⟩:=fG (show m<l.length by omega);have l1:=qR hp;have U:=qR Z;by_cases X:vv p.1 q.1<0
    ·have C:=π X;obtain⟨v,k1⟩:=wF h (.z [.i q.1,.i q.2]) (.z [.i p.1,.i p.2]);rw[aG,K];simp only[go_sem,seval,a0,a4,o,a20,s,u,w1,N,Q,w,T,V,R,l1,U,S,c,C,ω];refine aT (He (a:=a) (mm:=mm) (b:=b) (md:=md) (nn:=nn) (pp:=pp) (lo:=lo) O t P d i m _ _ aa aa v ?_ ?_ ?_ ?_ ?_ ?_ ?_ ?_ ?_ ?_) ?_
     case refine_11=>
      rintro e f H' ⟨rfl,r,I,B,D,c2,F,M,G,J,y,x,hx,E⟩;exact⟨rfl,r,k1.trans I,B,D,c2,F,M,G,J,y,x,aa,E⟩
     all_goals simp[go_sem,a0,a1,a2,a3,a4,kD,A,o,a20]
    ·have C:=ξ X;obtain⟨v,k1⟩:=wF h (.z [.i q.1,.i q.2]) (.z [.i p.1,.i p.2]);rw[aG,K];simp only[go_sem,seval,a0,a4,o,a20,s,u,w1,w2,N,Q,w,T,V,R,l1,U,S,c,C,Α];refine aT (He (a:=a) (mm:=mm) (b:=b) (md:=md) (nn:=nn) (pp:=pp) (lo:=lo) O t P d (m+1) j _ _ aa aa v ?_ ?_ ?_ ?_ ?_ ?_ ?_ ?_ ?_ ?_) ?_
     case refine_11=>
      rintro e f H' ⟨rfl,r,I,B,D,c2,F,M,G,J,y,x,hx,E⟩;exact⟨rfl,r,k1.trans I,B,D,c2,F,M,G,J,y,x,aa,E⟩
     all_goals simp[go_sem,a0,a1,a2,a3,a4,kD,A,o,s]
  ·have u:=d_ W;rw[aG,K];simp only[go_sem,seval,a20,s,u];refine⟨aK,h,Kr.refl _ _,?_,?_,?_,?_,?_,?_,?_,?_,i,aa,?_⟩;all_goals simp[go_sem,a0,a1,a2,a3,a4,kD,A,o]
noncomputable def Qy:=f193.c.l.r.t.r.r.r.l.r.b.b
def Wd{id k x}(w:k<=900000000000000000)(D:0<x)(f:x<=k):∀d i H α,x<=i+d->i<=k->Row H id k->
  α 0=.sl id 2 0 k->α 10=.i x->α 13=.i i->
  aD (aJ (aO eh Qy) α H) λe C H'=>e=.exit 2/\Row H' id k/\Kr id H H'
 |d,i,H,α,hd,hi,h,a0,bT,j=>by
  have m:Qy=.seq _ _:=rfl;have o:=w8 x aa aa;by_cases s:i<x-1
  ·cases d with
   |zero=>omega
   |succ d=>
    obtain⟨n,L⟩:=H;obtain⟨l,B,hg⟩:=h;obtain⟨z,g⟩:=aj.1 hg;have c:=dM (a:=i) (b:=x-1) s;obtain⟨p,u⟩:=fG (show i<l.length by omega);obtain⟨q,y⟩:=fG (show i+1<l.length by omega);have o2:=zl (l:=l.set (i) (q.1,q.2)) (i:=i+1) (by rw[aDE];omega) p.1 p.2;have A:(2*(i)+2<=(dK l).length)=True:=υ (by rw[tD];omega);have t:(2*(i+1)+2<=(dK (l.set (i) (q.1,q.2))).length)=True:=υ (by rw[tD,aDE];omega);have gs:cq (aH L id (.row k 198 2 (dK (l.set (i) (q.1,q.2))))) id=some (.row k 198 2 (dK (l.set (i) (q.1,q.2)))):=by rw[bg,ν rfl,g];rfl
    rw[aG,m];simp only[go_sem,seval,a0,bT,j,c,(fD i aa),o,(qS (id:=id) (show i<k by omega)),(qS (id:=id) (show i+1<k by omega)),qR u,qR y,(zl (l:=l) (i:=i) aa q.1 q.2),o2,A,t,υ z,wc g,g,D1 (ds:=dK (l.set (i) (q.1,q.2))) g,gs,Ef,gh];refine aT (Wd (x:=x) (id:=id) (k:=k) w D f d (i+1) ⟨n,aH L id (.row k 198 2 (dK ((l.set (i) (q.1,q.2)).set (i+1) (p.1,p.2))))⟩ _ aa aa ⟨(l.set (i) (q.1,q.2)).set (i+1) (p.1,p.2),by rw[aDE,aDE];exact B,aj.2 ⟨z,by rw[bg,ν rfl,g];rfl⟩⟩ ?_ ?_ ?_) ?_
    case refine_4=>
     rintro e C H' ⟨rfl,r,v⟩;exact⟨rfl,r,(Kr.set ⟨n,L⟩ _).trans v⟩
    all_goals simp[go_sem,a0,bT]
  ·have c:=d_ (a:=i) (b:=x-1) s;rw[aG,m];simp only[go_sem,seval,bT,j,c,o];exact⟨aK,h,Kr.refl _ _⟩
noncomputable def Qz:=f193.c.r.l.r.t.r.r.r.l.r.b.b
def We{id k x}(u:k<=900000000000000000):∀(d i:Nat) (H:ab) (α:az),i<=x+d->i<k->Row H id k->
  α 0=.sl id 2 0 k->α 14=.i x->α 17=.i i->
  aD (aJ (aO eh Qz) α H) λe A H'=>e=.exit 6/\Row H' id k/\Kr id H H'
 |d,i,H,α,hd,hi,h,a0,je,c=>by
  have j:Qz=.seq _ _:=rfl;by_cases m:x<i
  ·cases d with
   |zero=>omega
   |succ d=>
    obtain⟨n,L⟩:=H;obtain⟨l,y,hg⟩:=h;obtain⟨z,g⟩:=aj.1 hg;have f:=K6 (a:=i) (b:=x) m;obtain⟨p,s⟩:=fG (show i<l.length by omega);obtain⟨q,v⟩:=fG (show i-1<l.length by omega);have o2:=zl (l:=l.set (i) (q.1,q.2)) (i:=i-1) (by rw[aDE];omega) p.1 p.2;have w:(2*(i)+2<=(dK l).length)=True:=υ (by rw[tD];omega);have o:(2*(i-1)+2<=(dK (l.set (i) (q.1,q.2))).length)=True:=υ (by rw[tD,aDE];omega);have gs:cq (aH L id (.row k 198 2 (dK (l.set (i) (q.1,q.2))))) id=some (.row k 198 2 (dK (l.set (i) (q.1,q.2)))):=by rw[bg,ν rfl,g];rfl
    rw[aG,j];simp only[go_sem,seval,a0,je,c,f,(w8 i aa aa),(qS (id:=id) (show i<k by omega)),(qS (id:=id) (show i-1<k by omega)),qR s,qR v,(zl (l:=l) (i:=i) aa q.1 q.2),o2,w,o,υ z,wc g,g,D1 (ds:=dK (l.set (i) (q.1,q.2))) g,gs,Ef,gh];refine aT (We (x:=x) (id:=id) (k:=k) u d (i-1) ⟨n,aH L id (.row k 198 2 (dK ((l.set (i) (q.1,q.2)).set (i-1) (p.1,p.2))))⟩ _ aa aa ⟨(l.set (i) (q.1,q.2)).set (i-1) (p.1,p.2),by rw[aDE,aDE];exact y,aj.2 ⟨z,by rw[bg,ν rfl,g];rfl⟩⟩ ?_ ?_ ?_) ?_
    case refine_4=>
     rintro e A H' ⟨rfl,r,t⟩;exact⟨rfl,r,(Kr.set ⟨n,L⟩ _).trans t⟩
    all_goals simp[go_sem,a0,je]
  ·have f:=Gk (a:=i) (b:=x) m;rw[aG,j];simp only[go_sem,seval,je,c,f];exact⟨aK,h,Kr.refl _ _⟩
def adt{a:Nat}(h:a=1):((a:Int)==1)=true:=by subst h;rfl
def adu{a:Nat}(h:a≠1):((a:Int)==1)=false:=by rw[aDL];omega
noncomputable def C6:=f193.c.r.r.r.r.r.r.r.r
noncomputable def QB:=C6.r.l
noncomputable def QC:=C6.r.r.l
noncomputable def QD:=C6.r.r.r
structure FG(id k a m b md x en:Nat)(α:az):Prop where
 a0:α 0=.sl id 2 0 k
 a1:α 1=.i a
 a2:α 2=.i m
 a3:α 3=.i b
 a4:α 4=jQ
 kD:α 18=.i md
 a20:α 20=.i x
 a24:α 24=.i en
def aw4{id k a m b md x en}{α}{H}(hk:k<=900000000000000000)(h:Row H id k)(s:FG id k a m b md x en α)(hb:en<=k):aD (aO eh QB α H) λe g H'=>e=.normal/\Row H' id k/\Kr id H H'/\FG id k a m b md x en g:=by
 have l:QB=.seq _ (.cond _ _ _):=rfl;obtain⟨a0,a1,a2,a3,a4,kD,a20,a24⟩:=s;rw[l];by_cases f:x<m
 ·have c:=dM f;by_cases c2:m<en
  ·have d:=dM c2;obtain⟨H1,j,i,k1⟩:=ajy h aa x m en jQ f c2 hb;simp only[go_sem,seval,a0,a2,a4,a20,a24,c,d,j];refine⟨aK,i,k1,?_⟩;constructor;all_goals simp[go_sem,a0,a1,a2,a3,a4,kD,a20,a24]
  ·have d:=d_ c2;simp only[go_sem,seval,a2,a20,a24,c,d];refine⟨aK,h,Kr.refl _ _,?_⟩;constructor;all_goals simp[go_sem,a0,a1,a2,a3,a4,kD,a20,a24]
 ·have c:=d_ f;simp only[go_sem,seval,a2,a20,c];refine⟨aK,h,Kr.refl _ _,?_⟩;constructor;all_goals simp[go_sem,a0,a1,a2,a3,a4,kD,a20,a24]
def Jl(id k w:Nat):Prop:=∀a m b H,b<a+w->a<m->m<b->b<=k->Row H id k->∃H',run eh 193 [.sl id 2 0 k,.i a,.i m,.i b,jQ] H=some (.tup [],H')/\Row H' id k/\Kr id H H'
def aw5{id k a m b md x en w}{α}{H}(ih:Jl id k w)(g:md<a+w)(h:Row H id k)(s:FG id k a m b md x en α)(hb:md<=k):aD (aO eh QC α H) λe i H'=>e=.normal/\Row H' id k/\Kr id H H'/\FG id k a m b md x en i:=by
 have n:QC=.seq _ (.cond _ _ _):=rfl;obtain⟨a0,a1,a2,a3,a4,kD,a20,a24⟩:=s;rw[n];by_cases f:a<x
 ·have c:=dM f;by_cases c2:x<md
  ·have d:=dM c2;obtain⟨H1,l,j,k1⟩:=ih a x md H g f c2 hb h;simp only[go_sem,seval,a0,a1,a4,kD,a20,c,d,l];refine⟨aK,j,k1,?_⟩;constructor;all_goals simp[go_sem,a0,a1,a2,a3,a4,kD,a20,a24]
  ·have d:=d_ c2;simp only[go_sem,seval,a1,kD,a20,c,d];refine⟨aK,h,Kr.refl _ _,?_⟩;constructor;all_goals simp[go_sem,a0,a1,a2,a3,a4,kD,a20,a24]
 ·have c:=d_ f;simp only[go_sem,seval,a1,a20,c];refine⟨aK,h,Kr.refl _ _,?_⟩;constructor;all_goals simp[go_sem,a0,a1,a2,a3,a4,kD,a20,a24]
def aw6{id k a m b md x en w}{α}{H}(ih:Jl id k w)(g:b<md+w)(h:Row H id k)(s:FG id k a m b md x en α)(hb:b<=k):aD (aO eh QD α H) λe ae H'=>e=.normal/\Row H' id k/\Kr id H H':=by
 have l:QD=.seq _ (.cond _ _ _):=rfl;obtain⟨a0,a1,a2,a3,a4,kD,a20,a24⟩:=s;rw[l];by_cases f:md<en
 ·have c:=dM f;by_cases c2:en<b
  ·have d:=dM c2;obtain⟨H1,j,i,k1⟩:=ih md en b H g f c2 hb h;simp only[go_sem,seval,a0,a3,a4,kD,a24,c,d,j];exact⟨aK,i,k1⟩
  ·have d:=d_ c2;simp only[go_sem,seval,a3,kD,a24,c,d];exact⟨aK,h,Kr.refl _ _⟩
 ·have c:=d_ f;simp only[go_sem,seval,kD,a24,c];exact⟨aK,h,Kr.refl _ _⟩
def adw{id k a m b md nn x w:Nat}{α:az}{H:ab}(g:k<=900000000000000000)(ih:Jl id k w)(f:md<a+w)(s:b<md+w)(hb:b<=k)(hm:md<=k)(u:x<=nn)(t:nn<=2000000000000000000)(c:nn-x<=k)(h:Row H id k)
  (a0:α 0=.sl id 2 0 k) (a1:α 1=.i a) (a2:α 2=.i m) (a3:α 3=.i b) (a4:α 4=jQ) (kD:α 18=.i md) (p:α 19=.i nn) (a20:α 20=.i x):
  aD (aO eh C6 α H) λe ae H'=>e=.normal/\Row H' id k/\Kr id H H':=by
 have q:C6=.seq _ (.seq QB (.seq QC QD)):=rfl;rw[q];refine Nr _ _ _ _ _ ?_;simp only[go_sem,seval,p,a20,rR nn x u t];refine⟨trivial,?_⟩;refine Nr _ _ _ _ _ (aT (aw4 (a:=a) (m:=m) (b:=b) (md:=md) (x:=x) (en:=nn-x) g h ?_ c) ?_)
 ·constructor;all_goals simp[go_sem,a0,a1,a2,a3,a4,kD,a20]
 rintro e aM H1 ⟨rfl,o,k1,r⟩;refine⟨rfl,Nr _ _ _ _ _ (aT (aw5 ih f o r hm) ?_)⟩;rintro e gH H2 ⟨rfl,d,k2,n⟩;refine⟨rfl,aT (aw6 ih s d n hb) ?_⟩;rintro e vR H3 ⟨rfl,j,l⟩;exact⟨rfl,j,(k1.trans k2).trans l⟩
def aaS{x}{Q}(h:aD x Q):∃r,x=some r/\∃e a H',r=(e,a,H')/\Q e a H':=by obtain⟨e,a,H',b,c⟩:=kf h;exact⟨_,b,e,a,H',rfl,c⟩
def Ow{id k}(d:k<=900000000000000000):∀w,Jl id k w
 |0,a,m,b,H,R,P,O,hb,h=>by omega
 |w+1,a,m,b,H,R,P,O,hb,h=>by
  have ih:=Ow (id:=id) d w;suffices hh:∃r,run eh 193 [.sl id 2 0 k,.i a,.i m,.i b,jQ] H=some r/\∃H',r=(.tup [],H')/\Row H' id k/\Kr id H H' by obtain⟨r,S,H',rfl,q⟩:=hh;exact⟨H',S,q⟩
  refine g_ (c:=.seq (.seq _ (.cond _ (.seq _ (.seq _ (.seq (.block 0 (.loop Qv)) (.seq (.seq _ (.block 2 (.loop Qy))) .ret)))) .skip)) (.seq (.seq _ (.cond _ (.seq _ (.seq _ (.seq (.block 4 (.loop Qw)) (.seq (.seq _ (.block 6 (.loop Qz))) .ret)))) .skip)) (.seq _ (.seq _ (.seq _ (.seq (.seq _ (.cond _ (.seq _ _) (.seq _ _))) (.seq _ (.seq (.block 8 (.loop Qx)) C6)))))))) rfl rfl func193 rfl (by rw[ntmps193];simp) ?_;have w1:=rR m a aa aa;have F:=rR b m aa aa;by_cases K:m-a=1
  ·have n:=adt K;simp only[go_sem,seval,w1,n];simp only[cg];refine bL (dE (M3 (id:=id) (k:=k) (a:=a) (b:=b) d aa hb b m b H _ aa aa h ?_ ?_ ?_ ?_ ?_)) ?_
   case refine_6=>
    rintro _ ⟨y,j,rfl,e,k1,f,b1,l,x,B,U⟩;simp only[go_sem,seval,b1];simp only[cg];refine bL (dE (Wd (id:=id) (k:=k) (x:=x) d aa aa x a j _ aa aa e ?_ ?_ ?_)) ?_
    case refine_4=>
     rintro _ ⟨Q,C,rfl,g,k2⟩;simp only[go_sem,seval,results193];exact⟨_,rfl,_,rfl,g,k1.trans k2⟩
    all_goals simp only[go_sem,seval,f,U]
   all_goals simp only[go_sem,seval,]
   all_goals rfl
  ·have n:=adu K;by_cases c2:b-m=1
   ·have o:=adt c2;simp only[go_sem,seval,w1,n,F,o];simp only[cg];refine bL (dE (M4 (id:=id) (k:=k) (a:=a) (mm:=m) d aa m a m H _ aa aa h ?_ ?_ ?_ ?_ ?_ ?_)) ?_
    case refine_7=>
     rintro _ ⟨y,j,rfl,e,k1,f,b1,b2,l,x,B,s⟩;simp only[go_sem,seval,b2];simp only[cg];refine bL (dE (We (id:=id) (k:=k) (x:=x) d m m j _ aa aa e ?_ ?_ ?_)) ?_
     case refine_4=>
      rintro _ ⟨Q,C,rfl,g,k2⟩;simp only[go_sem,seval,results193];exact⟨_,rfl,_,rfl,g,k1.trans k2⟩
     all_goals simp only[go_sem,seval,f,s]
    all_goals simp only[go_sem,seval,]
    all_goals rfl
   ·have o:=adu c2;have I:=sP a b aa;have M:=Jj (a+b) aa;have v:=Jk (a+b);obtain⟨md,D⟩:∃md,md=(a+b)/2:=⟨_,rfl⟩;rw[<-D] at v;have N:=IJ md aa;have G:=sP md m aa;have J:=w8 (md+m) aa aa;by_cases L:md<m
    ·have E:=K6 L;simp only[go_sem,seval,w1,n,F,o,I,M,v,N,G,J,E,(rR (md+m) b aa aa)];simp only[cg];refine bL (dE (He (id:=id) (k:=k) (a:=a) (mm:=m) (b:=b) (md:=md) (nn:=md+m) (pp:=md+m-1) (lo:=md+m-b) d aa aa md (md+m-b) md H _ aa aa h ?_ ?_ ?_ ?_ ?_ ?_ ?_ ?_ ?_ ?_)) ?_
     case refine_11=>
      rintro _ ⟨y,j,rfl,e,k1,f,b1,b2,u,l,p,A,t,x,B,z⟩;simp only[go_sem,seval,];refine aT (adw (id:=id) (k:=k) (a:=a) (m:=m) (b:=b) (md:=md) (nn:=md+m) (x:=x) (w:=w) d ih aa aa hb aa aa aa aa e f b1 b2 u l p A z) ?_;rintro _ T C ⟨rfl,g,k2⟩;simp only[go_sem,seval,results193];exact⟨_,rfl,_,rfl,g,k1.trans k2⟩
     all_goals simp only[go_sem,seval,]
     all_goals rfl
    ·have E:=Gk L;simp only[go_sem,seval,w1,n,F,o,I,M,v,N,G,J,E];simp only[cg];refine bL (dE (He (id:=id) (k:=k) (a:=a) (mm:=m) (b:=b) (md:=md) (nn:=md+m) (pp:=md+m-1) (lo:=a) d aa aa m a m H _ aa aa h ?_ ?_ ?_ ?_ ?_ ?_ ?_ ?_ ?_ ?_)) ?_
     case refine_11=>
      rintro _ ⟨y,j,rfl,e,k1,f,b1,b2,u,l,p,A,t,x,B,z⟩;simp only[go_sem,seval,];refine aT (adw (id:=id) (k:=k) (a:=a) (m:=m) (b:=b) (md:=md) (nn:=md+m) (x:=x) (w:=w) d ih aa aa hb aa aa aa aa e f b1 b2 u l p A z) ?_;rintro _ T C ⟨rfl,g,k2⟩;simp only[go_sem,seval,results193];exact⟨_,rfl,_,rfl,g,k1.trans k2⟩
     all_goals simp only[go_sem,seval,]
     all_goals rfl
def leT{a b:Nat}(h:a<=b):decide ((a:Int)<=(b:Int))=true:=bJ _
def leF{a b:Nat}(h:¬a<=b):decide ((a:Int)<=(b:Int))=false:=bP _
def ady(a:Nat)(h:a<=2000000000000000000):IntKind.i64.wrap (2*(a:Int))=((2*a:Nat):Int):=by rw[aDH _ (by omega)];omega
def aAW(a:Nat)(h:a<=2000000000000000000):IntKind.i64.wrap ((a:Int)*2)=((2*a:Nat):Int):=by rw[aDH _ (by omega)];omega
noncomputable def QE:=f150.c.r.r.l.b.b
noncomputable def Jm:=f150.c.r.r.r.r.b.b
noncomputable def R4:=Jm.r.b.r.l.b.b
def Xx{id k:Nat}(j:k<=900000000000000000):∀d a H α,k<a+d->a<=k->Row H id k->
  α 0=.sl id 2 0 k->α 1=.i k->α 2=jQ->α 6=.i (20:Nat)->α 7=.i a->α 8=.i (a+20:Nat)->
  aD (aJ (aO eh QE) α H) λe c H'=>e=.exit 0/\Row H' id k/\Kr id H H'/\c 0=.sl id 2 0 k/\c 1=.i k/\c 2=jQ/\c 6=.i (20:Nat)/\∃x:Nat,x<=k/\c 7=.i x
 |0,a,H,α,m,g,h,a0,a1,a2,a6,a7,a8=>by omega
 |d+1,a,H,α,m,g,h,a0,a1,a2,a6,a7,a8=>by
  have l:QE=.seq _ _:=rfl;by_cases b:a+20<=k
  ·have f:=leT b;obtain⟨o,s,p,k1⟩:=acb h j a (a+20) g b;rw[aG,l];simp only[go_sem,↓reduceIte,Nat.reduceEqDiff,reduceCtorEq,a0,a1,a2,a6,a7,a8,f,s,(sP (a+20) 20 aa)];refine aT (Xx (id:=id) (k:=k) j d (a+20) o _ aa b p ?_ ?_ ?_ ?_ ?_ ?_) ?_
   case refine_7=>
    rintro e c H' ⟨rfl,r,n,q⟩;exact⟨rfl,r,k1.trans n,q⟩
   all_goals simp only[go_sem,↓reduceIte,Nat.reduceEqDiff,reduceCtorEq,a0,a1,a2,a6]
  ·have f:=leF b;rw[aG,l];simp only[go_sem,↓reduceIte,Nat.reduceEqDiff,reduceCtorEq,a1,a8,f];refine⟨aK,h,Kr.refl _ _,?_,?_,?_,?_,a,g,?_⟩;all_goals simp only[go_sem,a0,a2,a6,a7]
def Xy{id k bs:Nat}(g:k<=900000000000000000)(hb:0<bs)(p:bs<=k):∀d a H α,k<a+d->a<=k->Row H id k->
  α 0=.sl id 2 0 k->α 1=.i k->α 2=jQ->α 6=.i bs->α 7=.i a->α 8=.i (a+2*bs:Nat)->
  aD (aJ (aO eh R4) α H) λe c H'=>e=.exit 4/\Row H' id k/\Kr id H H'/\c 0=.sl id 2 0 k/\c 1=.i k/\c 2=jQ/\c 6=.i bs/\∃x:Nat,x<=k/\c 7=.i x
 |0,a,H,α,m,j,h,a0,a1,a2,a6,a7,a8=>by omega
 |d+1,a,H,α,m,j,h,a0,a1,a2,a6,a7,a8=>by
  have l:R4=.seq _ _:=rfl;by_cases b:a+2*bs<=k
  ·have f:=leT b;obtain⟨o,t,s,k1⟩:=Ow (id:=id) g (k+1) a (a+bs) (a+2*bs) H aa aa aa b h;rw[aG,l];simp only[go_sem,seval,a0,a1,a2,a6,a7,a8,f,t,(sP (a+2*bs) (2*bs) aa),(ady bs aa),(sP a bs aa)];refine aT (Xy (id:=id) (k:=k) (bs:=bs) g hb p d (a+2*bs) o _ aa b s ?_ ?_ ?_ ?_ ?_ ?_) ?_
   case refine_7=>
    rintro e c H' ⟨rfl,r,n,q⟩;exact⟨rfl,r,k1.trans n,q⟩
   all_goals simp[go_sem,a0,a1,a2,a6]
  ·have f:=leF b;rw[aG,l];simp only[go_sem,seval,a1,a8,f];refine⟨aK,h,Kr.refl _ _,?_,?_,?_,?_,a,j,?_⟩;all_goals simp[go_sem,a0,a2,a6,a7]
def NF{id k:Nat}(a:k<=900000000000000000):∀d bs H α,k<=bs+d->0<bs->Row H id k->
  α 0=.sl id 2 0 k->α 1=.i k->α 2=jQ->α 6=.i bs->
  aD (aJ (aO eh Jm) α H) λe t H'=>e=.exit 2/\Row H' id k/\Kr id H H'
 |d,bs,H,α,hd,v,h,a0,a1,a2,a6=>by
  have p:Jm=.seq _ (.block 3 (.seq _ (.seq (.block 4 (.loop R4)) _))):=rfl;by_cases r:bs<k
  ·cases d with
   |zero=>omega
   |succ d=>
    have j:=dM r;have q:=aAW bs aa;rw[aG,p];simp only[go_sem,seval,a1,a6,j,(ady bs aa)];simp[cg];refine bL (dE (Xy (id:=id) (k:=k) (bs:=bs) a v aa (k+1) 0 H _ aa aa h ?_ ?_ ?_ ?_ ?_ ?_)) ?_
    case refine_7=>
     rintro _ ⟨t,o,rfl,l,k1,f,b1,b2,n,x,hx,b7⟩;have m:=sP x bs aa;by_cases hm:x+bs<k
     ·have g:=dM hm;obtain⟨y,z,w,k2⟩:=Ow (id:=id) a (k+1) x (x+bs) k o aa aa hm (μ _) l;simp only[go_sem,seval,f,b1,b2,n,b7,q,m,g,z];refine aT (NF (id:=id) (k:=k) a d (2*bs) y _ aa aa w ?_ ?_ ?_ ?_) ?_
      case refine_5=>
       rintro e u s ⟨rfl,b,c⟩;exact⟨rfl,b,(k1.trans k2).trans c⟩
      all_goals simp[go_sem,f,b1,b2]
     ·have g:=d_ hm;simp only[go_sem,seval,b1,n,b7,q,m,g];refine aT (NF (id:=id) (k:=k) a d (2*bs) o _ aa aa l ?_ ?_ ?_ ?_) ?_
      case refine_5=>
       rintro e u s ⟨rfl,b,c⟩;exact⟨rfl,b,k1.trans c⟩
      all_goals simp[go_sem,f,b1,b2]
    all_goals simp[go_sem,a0,a1,a2,a6]
    all_goals first|rfl|simp
  ·have j:=d_ r;rw[aG,p];simp only[go_sem,seval,a1,a6,j];exact⟨aK,h,Kr.refl _ _⟩
def ajz{id k:Nat}{H:ab}(h:Row H id k)(a:k<=900000000000000000):∃H',run eh 150 [.sl id 2 0 k,.i k,jQ] H=some (.tup [],H')/\Row H' id k/\Kr id H H':=by
 suffices hh:∃r,run eh 150 [.sl id 2 0 k,.i k,jQ] H=some r/\∃H',r=(.tup [],H')/\Row H' id k/\Kr id H H' by obtain⟨r,l,H',rfl,q⟩:=hh;exact⟨H',l,q⟩
 refine g_ (c:=.seq _ (.seq _ (.seq (.block 0 (.loop QE)) (.seq _ (.block 2 (.loop Jm)))))) rfl rfl func150 rfl (by rw[ntmps150];simp) ?_;simp only[go_sem,seval,];simp only[cg];refine bL (dE (Xx (id:=id) (k:=k) a (k+1) 0 H _ aa aa h ?_ ?_ ?_ ?_ ?_ ?_)) ?_
 case refine_7=>
  rintro _ ⟨ae,H1,rfl,j,k1,b,b1,b2,m,x,o,b7⟩;obtain⟨e,n,d,k2⟩:=acb j a x k o (μ _);simp only[go_sem,seval,b,b1,b2,b7,n];refine bL (dE (NF (id:=id) (k:=k) a k 20 e _ aa aa d ?_ ?_ ?_ ?_)) ?_
  case refine_5=>
   rintro _ ⟨nZ,H3,rfl,f,g⟩;simp only[go_sem,seval,results150];exact⟨_,rfl,_,rfl,f,(k1.trans k2).trans g⟩
  all_goals simp[go_sem,b,b1,b2,m]
 all_goals simp[go_sem,]
 all_goals rfl
def asQ{id k:Nat}{H:ab}(h:Row H id k)(a:k<=900000000000000000):∃H',run eh 104 [.sl id 2 0 k,jQ] H=some (.tup [],H')/\Row H' id k/\Kr id H H':=by
 suffices hh:∃r,run eh 104 [.sl id 2 0 k,jQ] H=some r/\∃H',r=(.tup [],H')/\Row H' id k/\Kr id H H' by obtain⟨r,e,H',rfl,q⟩:=hh;exact⟨H',e,q⟩
 refine g_ rfl rfl func104 rfl (by rw[ntmps104];simp) ?_;obtain⟨H1,d,b,k1⟩:=ajz h a;have c:gD prog #[74] [.sl id 2 0 k]=some (.i k):=by simp[gD,EZ]
 simp only[go_sem,seval,c,d,results104];exact⟨_,rfl,_,rfl,b,k1⟩
def ajA(H:ab):run eh 104 [.vec .nil [],jQ] H=some (.tup [],H):=nO.2 ⟨20,af⟩
def ajB{H:ab}{bad:List (Nat×Nat)}{v}(h:vb H bad v)(f:bad.length<=900000000000000000):∃H' e,AE 104 [v,jQ] H=some (.tup [],H')/\e.length=bad.length/\vb H' e v/\H.next<=H'.next/\∀i x,NR x->H.get i=some x->H'.get i=some x:=by
 rw[ajl];rcases h with⟨rfl,rfl⟩|⟨g,id,rfl,d⟩
 ·exact⟨H,[],ajA H,rfl,.inl ⟨rfl,rfl⟩,μ _,λ_ _ _ h=>h⟩
 ·obtain⟨H',q,⟨l,a,hg⟩,c⟩:=asQ (k:=bad.length) ⟨bad,rfl,d⟩ f;refine⟨H',l,q,a,.inr ⟨?_,id,by rw[a],by rw[a];exact hg⟩,c.1,λi x j b=>c.2 i _ ?_ b⟩
  ·rintro rfl;exact g (Ψ.1 a.symm)
  ·rintro rfl;rw[d] at b;cases b;exact j _ _ _ _ rfl
end Go.Proofs.YtmehamiifalmaaaGreatDoor
namespace Go.Ab
open Go
def uO{E:Env}{f}{fn:Func}{c}{args bW:List AV}{Q:AV->Prop}(q:E.G f=true)(o:E.df f=false)(n:E.P.funcs[f]? =some fn)(l:fn.body=some c)(r:args.length<=fn.ntmps)(d:args.map AV.erase=bW)
  (j:AV.aq.go bW=true) (m:aD (aP E (run E) aJ c (jy bW) .empty) λe h H'=>∃v b a,finish E.P fn.results.toList (e,h,H')=some (v,b)/\(if v.erase.aq=true then some v.erase else an (cH E.P b 1000 v) λw=>if w.aq=true then some w else none)=some a/\Q a):
  ∃a,aI E.P (run E) f args=some a/\Q a:=by
 obtain⟨e,h,H',p,v,b,a,g,i,k⟩:=kf m;refine⟨a,?_,k⟩;unfold aI;rw[d,ν j,BX q o n l (by rw[<-d];simpa using r),p];simp[an] at g i⊢;rw[g];exact i
end Go.Ab
namespace Go.Proofs.YtmehamiifalmaaaGreatDoor
open Go Go.Ab Go.Proofs.Tryz
set_option maxRecDepth 100000
set_option maxHeartbeats 8000000
def au(n:Nat):Ab.Own:=if n=0 then .nil else .ro
def cw(l:List (Nat×Nat)):List AV:=l.map λp=>.agg (nJ p)
def mapA(m:Mp)(bad:List (Nat×Nat)):AV:=.agg [.vec (au m.bs.length) (m.bs.map a_),.vec (au m.ms.length) (m.ms.map cv),.vec (au bad.length) (cw bad)]
def go_bi:∀l:List Bi,AV.aq.go (l.map a_)=true
 |[]=>rfl
 |x::l=>by show((a_ x).aq&&AV.aq.go (l.map a_))=true;rw[go_bi l];rfl
def go_me:∀l:List Me,AV.aq.go (l.map cv)=true
 |[]=>rfl
 |x::l=>by show((cv x).aq&&AV.aq.go (l.map cv))=true;rw[go_me l];rfl
def go_ba:∀l:List (Nat×Nat),AV.aq.go (cw l)=true
 |[]=>rfl
 |x::l=>by show((AV.agg (nJ x)).aq&&AV.aq.go (cw l))=true;rw[go_ba l];rfl
def yh(m)(bad):(mapA m bad).aq=true:=by unfold mapA;simp only[AV.aq,AV.aq.go,go_bi,go_me,go_ba,au];by_cases a:m.bs.length=0<;>by_cases b:m.ms.length=0<;>by_cases c:bad.length=0<;>simp[a,b,c]
def QF(P)(H)(k):∀l:List Bi,dt (cH P H (k+3)) (l.map a_)=some (l.map a_)
 |[]=>rfl
 |x::l=>by simp[dt];rw[QF P H k l];rfl
def QG(P)(H)(k):∀l:List Me,dt (cH P H (k+3)) (l.map cv)=some (l.map cv)
 |[]=>rfl
 |x::l=>by simp[dt];rw[QG P H k l];rfl
def QH(P)(H)(k):∀l:List (Nat×Nat),dt (cH P H (k+3)) (cw l)=some (cw l)
 |[]=>rfl
 |x::l=>by have ih:=QH P H k l;simp[cw,dt] at ih⊢;rw[ih];rfl
def acd:∀l:List (Nat×Nat),nT true 2 l.length (dK l)=cw l
 |[]=>rfl
 |x::l=>by show AV.agg [.i x.1,.i x.2]::nT true 2 l.length (dK l)=_;rw[acd l];rfl
def Pw(P)(H)(k)(l):cH P H (k+1) (.agg l)=an (dt (cH P H k) l) λds=>some (.agg ds):=by simp[cH]
def yq(P)(H)(k)(o:Ab.Own)(l):cH P H (k+1) (.vec o l)=an (dt (cH P H k) l) λds=>some (.vec o.bare ds):=by simp[cH]
def aw7(P)(H:ab)(k id s off len m s')(et)(cs:List AV)(h:H.get id=some (.row m et s' cs))(b:cu P et=some true)(a:s'=s/\off+len<=m):cH P H (k+1) (.sl id s off len)=an (dt (cH P H k) (nT true s len (cs.drop (off*s)))) λds=>some (.vec .ro ds):=by simp only[cH,h,b];rw[ν ⟨a.1,a.2,.inl trivial⟩]
def asR{H}{bs:List Bi}{ms:List Me}{o1 o2}{bad}{bv}(g:bY H 102 o1 bs.length)(g2:bY H 138 o2 ms.length)(hb:vb H bad bv)(b0):
  (if(AV.agg [.vec o1 (bs.map a_),.vec o2 (ms.map cv),bv]).erase.aq=true then some (AV.agg [.vec o1 (bs.map a_),.vec o2 (ms.map cv),bv]).erase else an (cH prog H 1000 (AV.agg [.vec o1 (bs.map a_),.vec o2 (ms.map cv),bv])) λw=>if w.aq=true then some w else none)=some (mapA ⟨bs,ms,b0⟩ bad):=by
 have c:=g.bare;have d:=g2.bare;rcases hb with⟨rfl,rfl⟩|⟨j,id,rfl,i⟩
 ·have b:(AV.agg [.vec o1 (bs.map a_),.vec o2 (ms.map cv),.vec .nil []]).erase=mapA ⟨bs,ms,b0⟩ []:=by
   simp only[AV.erase,aDm,aEr,AV.bare,c,d];rfl
  rw[b,ν (yh _ _)]
 ·have b:(AV.agg [.vec o1 (bs.map a_),.vec o2 (ms.map cv),.sl id 2 0 bad.length]).erase.aq=false:=by
   simp only[AV.erase,aDm,aEr,AV.bare,AV.aq,AV.aq.go,go_bi,go_me];simp
  have a:bad.length≠0:=λe=>j (Ψ.1 e)
  have f:cH prog H (995+5) (AV.agg [.vec o1 (bs.map a_),.vec o2 (ms.map cv),.sl id 2 0 bad.length])=some (mapA ⟨bs,ms,b0⟩ bad):=by
   generalize 995=k;have h:dt (cH prog H (k+4)) [.vec o1 (bs.map a_),.vec o2 (ms.map cv),.sl id 2 0 bad.length]=some [.vec o1.bare (bs.map a_),.vec o2.bare (ms.map cv),.vec .ro (cw bad)]:=by simp only[dt];rw[yq,yq,aw7 prog H (k+3) id 2 0 bad.length bad.length 2 198 (dK bad) i Xl ⟨rfl,aa⟩,QF prog H k bs,QG prog H k ms];simp only[Nat.zero_mul,aEk,acd,QH prog H k bad,an]
   rw[Pw,h];simp only[an,c,d,mapA,au,κ a]
  rw[b,show(1000:Nat)=995+5 from rfl,f];simp only[τ,aDf,an];rw[ν (yh _ _)]
def ajC(args)(H):dX bu (run bu) (.fn (.func 104) [] []) args H=AE 104 args H:=by rw[tg rfl rfl];exact zS rfl args H
def aw8{n}:dF 4 2 3 ⟨[],[],[]⟩ 0 [] [] ⟨5,[(4,.z [.ptr 2 0,.val (.pointer none),.map 3,.i 0]),(3,.map [] 0),(2,.k 76 [.vec .nil [],.vec .nil [],.vec .nil []]),(1,.k 76 [.vec .nil [],.vec .nil [],.vec .nil []]),(0,.z (aC n))]⟩:=by refine⟨⟨none,rfl⟩,⟨some 76,.nil,.nil,.vec .nil [],rfl,.inl ⟨rfl,rfl⟩,.inl ⟨rfl,rfl⟩,.inl ⟨rfl,rfl⟩⟩,⟨[],0,rfl,λw=>rfl,λi hi=>by cases hi⟩,trivial,?_,λf a=>(by cases a),aA⟩;simp
def aAX{n:Nd}(F:n.ks.length<=900000000000000000)(u:∀x∈n.ks,dz x<=900000/\mx x<=900000000000000000)(d:ly (iK n)):∃v,aI prog (run bu) 68 [aB n]=some v/\∃bad,bad.length=(iK n).bad.length/\v=mapA (iK n) bad:=by
 refine uO (c:=.seq _ (.seq _ (.seq _ (.seq (.seq _ (.block 0 (.loop JP))) (.seq (.seq _ (.block 3 (.loop JQ))) _))))) rfl rfl func68 rfl (by rw[ntmps68];simp) (bW:=[aB n]) (by simp[xP]) (by rw[Ew];rfl) ?_;have C:=rF n;have q:sx prog 193 [(0,.ptr 2 0),(2,.map 3)]=some (.agg [.ptr 2 0,.val (.pointer none),.map 3,.i 0]):=af;have S:ly (dO 0 ⟨[],[],[]⟩ (bo [] []) n.ks).1:=d.le (Cc _ _ _ _);simp only[go_sem,seval,ab.empty,C,cz,q];simp only[cg];refine bL (dE (HZ (b:=4) (mb:=2) (g:=3) (ks:=n.ks) (p3:=.ptr 0 0) (o:=if n.ks.isEmpty then .nil else .ro) F n.ks 0 ⟨[],[],[]⟩ 0 [] ⟨5,[(4,.z [.ptr 2 0,.val (.pointer none),.map 3,.i 0]),(3,.map [] 0),(2,.k 76 [.vec .nil [],.vec .nil [],.vec .nil []]),(1,.k 76 [.vec .nil [],.vec .nil [],.vec .nil []]),(0,.z (aC n))]⟩ _ rfl aw8 ⟨λi hi=>(by cases hi),λf V=>(by cases V)⟩ (by unfold Bw;simp) S ?_ ?_ ?_ ?_ ?_ ?_ ?_)) ?_
 case refine_8=>
  rintro _ ⟨aM,⟨n1,L1⟩,rfl,a4,a1,a2,a3,gs,it,Z,k1,w1,e1,h⟩;obtain⟨Y,P⟩:=aj.1 (h.2 0 none _ aA aA rfl);have A:iK n=gk (bo [] gs) 0 (dO 0 ⟨[],[],[]⟩ (bo [] []) n.ks).1 n.ks:=by rw[<-e1];rfl
  rw[A] at d⊢;simp only[go_sem,seval,a1,aF P,υ Y,C,cz];simp only[cg];refine bL (dE (Ou (b:=4) (mb:=2) (g:=3) (ks:=n.ks) (p1:=.ptr 0 0) (o:=if n.ks.isEmpty then .nil else .ro) F u n.ks 0 _ it ⟨n1,L1⟩ _ rfl Z k1 w1 d ?_ ?_ ?_ ?_ ?_ ?_ ?_)) ?_
  case refine_8=>
   rintro _ ⟨gH,⟨n2,I⟩,rfl,b1,b2,M,qQ,J,k2,w2,W⟩;obtain⟨tm,o1,o2,bv,H,Q,lr,D⟩:=J.hm;obtain⟨O,g2⟩:=aj.1 H;obtain⟨B,E⟩:=aj.1 (W.2 1 _ _ aA aA (h.2 1 (some 76) _ aA aA rfl));obtain⟨⟨L,N⟩,T,R,X,r,oV,w⟩:=ajB D (aDj (d.bad w2) aA);obtain⟨z4,U⟩:=aj.1 (w _ _ xT H);obtain⟨K,y⟩:=aj.1 (w 1 _ xT (aj.2 ⟨B,E⟩));have ao:eE [bv]=true:=by rcases D with⟨_,rfl⟩|⟨_,id,rfl,_⟩<;>rfl
   simp only[go_sem,seval,b2,M,aF g2,υ O,ajC,R,aF U,υ z4,aF y,υ K,ao,y,fU,results68];have l:∀i x,NR x->i≠1->ab.get ⟨n2,I⟩ i=some x->ab.get ⟨L,aH N 1 (.k 76 [.vec o1 ((gk (bo [] gs) 0 (dO 0 ⟨[],[],[]⟩ (bo [] []) n.ks).1 n.ks).bs.map a_),.vec o2 ((gk (bo [] gs) 0 (dO 0 ⟨[],[],[]⟩ (bo [] []) n.ks).1 n.ks).ms.map cv),bv])⟩ i=some x:=λi x u hi d=>by obtain⟨t,p⟩:=aj.1 (w i x u d);exact aj.2 ⟨t,by rw[bg,κ (λe=>hi e.symm)];exact p⟩
   have G:∀j m et,ab.get ⟨n2,I⟩ j=some (.bB m et)->j≠1:=by rintro j m et a rfl;rw[aj.2 ⟨B,E⟩] at a;cases a
   refine⟨_,_,_,rfl,asR (Q.bU λj m a=>l _ _ Ps (G _ _ _ a) a) (lr.bU λj m a=>l _ _ Ps (G _ _ _ a) a) ?_ [],T,X,rfl⟩;refine xU r λi m et s cs hi=> ?_;obtain⟨t,p⟩:=aj.1 hi;exact aj.2 ⟨t,by rw[bg,κ (by rintro rfl;rw[y] at p;cases p)];exact p⟩
  all_goals simp[go_sem,a1,a2,a3,a4]
  all_goals first|rfl|simp
 all_goals simp[go_sem,]
 all_goals rfl
end Go.Proofs.YtmehamiifalmaaaGreatDoor
