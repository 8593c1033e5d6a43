/- LintFinds: part 15 of its proof. -/
import Derived.Test.YtmehamiifalmaaaGreatDoorG13
set_option linter.all false
namespace Go.Proofs.YtmehamiifalmaaaGreatDoor
open Go Go.Ab Go.Proofs.Tryz
set_option maxRecDepth 100000
set_option maxHeartbeats 8000000
def dL.push{b mb g}{m}{item}{fs}{gs}{H:ab}(h:dL b mb g m item fs gs H)(y):dL b mb g m item fs gs (H.push y):=by
 have a:∀i x,H.get i=some x->(H.push y).get i=some x:=λi x hi=>by rw[ab.fL,κ (by have:=ab.ep hi;omega)];exact hi
 obtain⟨tm,o1,o2,bv,k,d,f,e⟩:=h.hm;exact h.cj (λi x _ _ hi=>a i x hi) ⟨tm,o1,o2,bv,a _ _ k,d.cj λj n c=>a _ _ c,f.cj λj n c=>a _ _ c,yr e λi n et s cs hi=>a _ _ hi⟩
def Kp.push{b mb}(H:ab)(y):Kp b mb H (H.push y):=⟨aEg _,λi te cs _ _ hi=>by
 rw[ab.fL,κ (by have:=ab.ep hi;omega)];exact hi⟩
def call146:=gI bA 146 rfl rfl
def anV:=gI bA 225 rfl rfl
def call102:=gI bA 102 rfl rfl
def call191:=gI bA 191 rfl rfl
def call190:=gI bA 190 rfl rfl
def call149:=gI bA 149 rfl rfl
def call103:=gI bA 103 rfl rfl
def call147:=gI bA 147 rfl rfl
attribute [go_sem] call146 anV call102 call191 call190 call149 call103 call147
def atw:bA.cl 102=false:=af
def atx:bA.cl 149=false:=af
attribute [go_sem] atw atx
def At.n{g id n b}{dh gs c}{fs a}(h:At g id dh fs gs a c n)(e:n=b):At g id dh fs gs a c b:=e▸h
def Ju{b mb g id}{m:Mp}{item}{dh gs o}{fs s}{H}(h:dL b mb g m item fs gs H)(l:At g id dh fs gs s o m.bs.length)(x:m.bs.length<=1000000)(J:m.bad.length<=1000000000)(nd)(k:Nat):
  ∃H',run bA 102 [.ptr b 0,.map id,aw nd,.i k] H=some (.tup [],H')/\dL b mb g (fz m (bq fs gs) nd k item) item s o H'/\Kp b mb H H':=by
 obtain⟨n,L⟩:=H;have p:=h.push (.z (aB nd));have k1:=Kp.push (b:=b) (mb:=mb) ⟨n,L⟩ (.z (aB nd));obtain⟨kv,c,m1,A,m3⟩:=l.map p;have v:=Oi m1 nd.w;rw[A nd.w] at v;have f:Aw prog ⟨n+1,(n,.z (aB nd))::L⟩ 190 (.map id) (.str nd.w) true=some (D7 (dh.find? λi=>jh m.bs i nd.w)):=v;have C:∃te cs,ab.get ⟨n,L⟩ b=some (.c te cs):=by obtain⟨tb,hb⟩:=h.hb;exact⟨_,_,hb⟩
 have N:∃te cs,ab.get ⟨n,L⟩ mb=some (.c te cs):=by obtain⟨tm,_,_,_,hb,_⟩:=h.hm;exact⟨_,_,hb⟩
 have E:n≠b:=by obtain⟨_,_,hb⟩:=C;have:=(ai.1 hb).1;omega
 have nm:n≠mb:=by obtain⟨_,_,hb⟩:=N;have:=(ai.1 hb).1;omega
 have u:ab.get ⟨n+1,(n,.z (aB nd))::L⟩ n=some (.z (aB nd)):=ai.2 ⟨aa,by rw[bo,μ rfl]⟩;have y:=bf (n<n+1);have j:=l.dup m.bs nd.w;suffices hh:∃r,run bA 102 [.ptr b 0,.map id,aw nd,.i k] ⟨n,L⟩=some r/\∃H',r=(.tup [],H')/\dL b mb g (fz m (bq fs gs) nd k item) item s o H'/\Kp b mb ⟨n,L⟩ H' by obtain⟨_,M,H',rfl,d,h3⟩:=hh;exact⟨H',M,d,h3⟩
 refine fM (c:=.seq _ (.seq _ Sm)) rfl rfl func102 rfl (by rw[ntmps102];simp) ?_
 cases hs:dh.find? λi=>jh m.bs i nd.w with
 |none=>
  rw[hs] at f j;have t:fz m (bq fs gs) nd k item=⟨m.bs++[⟨nd.a,k,nd.w,item⟩],m.ms,m.bad⟩:=by simp[fz,j]
  rw[t];simp only[go_sem,seval,y,f,Β];refine aW (Wt (k:=k) (nd:=nd) (q:=n) p l x u nm ?_ ?_ ?_ ?_) ?_
  case refine_5=>
   rintro e G ⟨B,D⟩ ⟨rfl,d,h3⟩;simp only[go_sem,seval,results102];exact⟨_,rfl,_,rfl,d,k1.trans h3⟩
  all_goals simp[go_sem,]
 |some i=>
  rw[hs] at f j;have t:fz m (bq fs gs) nd k item=⟨m.bs++[⟨nd.a,k,nd.w,item⟩],m.ms,m.bad++[(nd.a,31)]⟩:=by simp[fz,j]
  rw[t];obtain⟨⟨n2,O⟩,K,d,k2⟩:=Pe p J nd.a 31;have I:run bA 146 [.ptr b 0,.i nd.a,.i 31] ⟨n+1,(n,.z (aB nd))::L⟩=some (.tup [],⟨n2,O⟩):=K;simp only[go_sem,seval,y,f,aEf,I];refine aW (Wt (k:=k) (nd:=nd) (q:=n) d (l.n rfl) x (k2.2 n none _ E nm u) nm ?_ ?_ ?_ ?_) ?_
  case refine_5=>
   rintro e G ⟨B,D⟩ ⟨rfl,h3,F⟩;simp only[go_sem,seval,results102];exact⟨_,rfl,_,rfl,h3,k1.trans (k2.trans F)⟩
  all_goals simp[go_sem,]
def gW(bs:List Bi)(fs:List gn)(gs:List Nat):Prop:=(∀i∈gs,rV bs i<3)/\∀f∈fs,∀i∈f.dh,3<=rV bs i
def NL(bs)(w)(rest)(bK):∀dh:List Nat,nQ bs w (dh.map RN.nm++rest) bK=match dh.find? λi=>jh bs i w with|some i=>some (i,bK)|none=>nQ bs w rest bK
 |[]=>rfl
 |i::s=>by
  simp[nQ,aE0]
  cases jh bs i w with
  |true=>rfl
  |false=>exact(NL bs w rest bK s)
def Wu(bs)(w)(gs:List Nat):∀fs bK,∃d,nQ bs w (bq fs gs) bK=match findF bs w fs bK with|some q=>some q|none=>(gs.find? λi=>jh bs i w).map λi=>(i,d)
 |[],bK=>⟨bK,by
  have:=NL bs w [] bK gs;rw[Η] at this;simp[bq,zQ,findF,this]
  cases gs.find? λi=>jh bs i w<;>rfl⟩
 |f::r,bK=>by
  obtain⟨d,ih⟩:=Wu bs w gs r (if f.lam then bK+1 else bK);refine⟨d,?_⟩;have a:bq (f::r) gs=f.dh.map RN.nm++.fu f.lam::bq r gs:=by simp[bq,zQ]
  rw[a,NL bs w (.fu f.lam::bq r gs) bK f.dh];simp[findF,nQ]
  cases f.dh.find? λi=>jh bs i w with
  |some i=>rfl
  |none=>exact ih
def Oj{bs}{w}:∀{fs:List gn} {bK i d:Nat},findF bs w fs bK=some (i,d)->∃f∈fs,i∈f.dh
 |f::r,bK,i,d,h=>by
  simp[findF] at h
  cases hs:f.dh.find? λi=>jh bs i w with
  |some j=>simp[hs] at h;obtain⟨rfl,rfl⟩:=h;exact⟨f,ah,aE2 hs⟩
  |none=>simp[hs] at h;obtain⟨g,hg,hi⟩:=Oj h;exact⟨g,by simp[hg],hi⟩
def uE(m:Mp)(n:Nd)(wr:Bool)(to:Option Nat):List (Nat×Nat):=match to with
 |none=>m.bad++[(n.a,30)]
 |some i=>if wr=true/\rV m.bs i<3 then m.bad++[(n.a,35)] else m.bad
def Nl{m:Mp}{fs}{gs:List Nat}(b:gW m.bs fs gs)(n:Nd)(wr):fg m (bq fs gs) n wr=⟨m.bs,m.ms++[⟨n.a,(pW m.bs n.w fs gs).1,wr,(pW m.bs n.w fs gs).2⟩],uE m n wr (pW m.bs n.w fs gs).1⟩:=by
 obtain⟨d,h⟩:=Wu m.bs n.w gs fs 0;unfold fg;rw[h];unfold pW
 cases hf:findF m.bs n.w fs 0 with
 |some q=>obtain⟨i,bK⟩:=q;obtain⟨f,c,hi⟩:=Oj hf;have:=b.2 f c i hi;simp[uE];rw[μ this,bM]
 |none=>
  cases hg:gs.find? λi=>jh m.bs i n.w with
  |none=>rfl
  |some i=>
   have:=b.1 i (aE2 hg);simp[uE];rw[bM]
   cases wr with
   |true=>rw[μ rfl,μ ⟨rfl,this⟩]
   |false=>rw[κ aA,κ ah]
def qN.an{H}{bs:List Bi}:∀{fs:List gn} {f:gn} {i:Nat},qN H bs fs->f∈fs->i∈f.dh->i<bs.length:=λa hf hi=>by obtain⟨_,_,_,_,h⟩:=a.at hf;exact h _ hi
def dL.lt{b mb g}{m:Mp}{item}{fs}{gs}{H}(h:dL b mb g m item fs gs H){w}{i}(hi:(pW m.bs w fs gs).1=some i):i<m.bs.length:=by
 unfold pW at hi
 cases hf:findF m.bs w fs 0 with
 |some q=>obtain⟨j,bK⟩:=q;simp[hf] at hi;subst hi;obtain⟨f,c,a⟩:=Oj hf;exact h.ch.an c a
 |none=>simp[hf] at hi;obtain⟨_,_,_,_,d⟩:=h.hg;exact d i (aE2 hi)
noncomputable def Sq:=f191.c.r.r.r.o
noncomputable def Sr:=f191.c.r.r.r
def HA{b mb g q}{m:Mp}{item}{gs}{fs}{H:ab}{nd:Nd}{α}{x:Me}(h:dL b mb g m item fs gs H)(hn:m.ms.length<=1000000)(I:x.at_=nd.a)
  (R:H.get q=some (.z (aB nd))) (hqb:q≠mb) (a0:α 0=.ptr b 0) (a2:α 2=.bool x.wr) (a4:α 4=.ptr q 0) (a6:α 6=.i (dS x.to)) (a7:α 7=.i x.bK):
  aF (aN bA (run bA) aL Sr α H) λe ae H'=>e=.normal/\dL b mb g ⟨m.bs,m.ms++[x],m.bad⟩ item fs gs H'/\Kp b mb H H':=by
 obtain⟨n2,l⟩:=H;obtain⟨tb,hb⟩:=h.hb;obtain⟨tm,o1,o2,bv,p,gE,V,U⟩:=h.hm;obtain⟨j,⟨n4,L4⟩,W,u,J,p4⟩:=wE anA (m:=λt=>t==74) rfl (o:=o2) (o2:=.full) (es:=m.ms.map ck) (xs:=[ck x]) (H:=⟨n2,l⟩) (by rw[Θ];exact V) (It _) (It [_]) ah aP aP;obtain⟨Q,P⟩:=ai.1 hb;obtain⟨X,gm⟩:=ai.1 p;obtain⟨zq,S⟩:=ai.1 R;obtain⟨TA,TB⟩:=ai.1 (p4 _ _ ah hb);obtain⟨K,fJ⟩:=ai.1 (p4 _ _ ah p);have w:=λH=>aBU x H;rw[I] at w;obtain⟨B,hB,O,r2,N,s0,s1,T,s3⟩:∃A,A=Sq.toArray/\behind A A.size 18 7=true/\behind A A.size 18 10=true/\behind A A.size 18 12=true/\behind A A.size 21 3=true/\behind A A.size 21 7=true/\behind A A.size 21 10=true/\behind A A.size 21 12=true:=⟨_,rfl,af,af,af,af,af,af,af⟩;rw[show Sr=.region 6 Sq.toArray true from rfl,nG _ _ rfl rfl,<-hB];rw[show Sq=[_,_,_,_,_,_,_,_,_,_,_,_,_,_,_,_,_,_,_,_,_,_] from rfl];simp only[go_sem,seval,O,r2,N,s0,s1,T,s3,aEO,a0,a2,a4,a6,a7,fJ,aC P,aC gm,aC S,aC TB,aC fJ,ο Q,ο X,ο zq,ο TA,ο K,aQ,w,cG,W];have d:∀i y,i≠mb->(∀n,y≠.bQ n 138)->ab.get ⟨n2,l⟩ i=some y->ab.get ⟨n4,aH L4 mb (.cells tm [.vec o1 (m.bs.map bg),.vec (.own j) (m.ms.map ck++[ck x]),bv])⟩ i=some y:=λi y D h3 G=>by obtain⟨k,C⟩:=ai.1 (p4 i y h3 G);exact ai.2 ⟨k,by rw[aR,κ (λe=>D e.symm)];exact C⟩
 have Y:ab.get ⟨n4,aH L4 mb (.cells tm [.vec o1 (m.bs.map bg),.vec (.own j) (m.ms.map ck++[ck x]),bv])⟩ mb=some (.cells tm [.vec o1 (m.bs.map bg),.vec (.own j) (m.ms.map ck++[ck x]),bv]):=ai.2 ⟨K,by rw[aR,μ rfl,fJ];rfl⟩;have nm:∀{i es c},ab.get ⟨n2,l⟩ i=some (.map es c)->i≠mb:=λ{i es c} hi e=>by rw[e,p] at hi;cases hi
 refine⟨aI,⟨⟨tb,d _ _ h.bm ah hb⟩,⟨tm,o1,.own j,bv,by rw[aF7];exact Y,?_,?_,?_⟩,?_,?_,h.nd,h.fb,h.bm⟩,J,λi te cs _ F hc=>d i _ F ah hc⟩
 ·exact gE.cj λi n hi=>d _ _ (by rintro rfl;rw[p] at hi;cases hi) (λM e=>by cases e) hi
 ·have tL:((m.ms.map ck)++[ck x]).length=(m.ms++[x]).length:=ah;rw[tL] at u;exact u.cj λi n hi=>by obtain⟨k,C⟩:=ai.1 hi;exact ai.2 ⟨k,by rw[aR,κ (by rintro rfl;rw[fJ] at C;cases C)];exact C⟩
 ·exact yr U λi n et s cs hi=>d _ _ (by rintro rfl;rw[p] at hi;cases hi) (λM e=>by cases e) hi
 ·obtain⟨L,c,D,F,h3⟩:=h.hg;exact⟨L,c,d _ _ (nm D) ah D,F,h3⟩
 ·refine h.ch.cj (λf hf y G hi=> ?_) (λf hf y G hi=> ?_)
  ·have E:∃te cs,ab.get ⟨n2,l⟩ f.aX=some (.c te cs):=by
    have:∀{fs:List gn},qN ⟨n2,l⟩ m.bs fs->f∈fs->∃te cs,ab.get ⟨n2,l⟩ f.aX=some (.c te cs):=by
     intro fs
     induction fs with
     |nil=>intro _ v;cases v
     |cons x r ih=>
      rintro⟨⟨tf,I⟩,_,Z⟩ v;rcases Υ.1 v with rfl|v
      ·exact⟨_,_,I⟩
      ·exact ih Z v
    exact this h.ch hf
   obtain⟨te,cs,E⟩:=E;rw[E] at hi;cases hi;exact d _ _ (h.fb f hf).2 ah E
  ·obtain⟨L,c,k,_⟩:=h.ch.at hf;rw[k] at hi;cases hi;exact d _ _ (nm k) ah k
def ad1(o){bs:List Bi}{i:Nat}{x:Bi}(h:bs[i]? =some x):dW prog 72 (.vec o (bs.map bg)) (.i i)=some (.rptr [.i x.at_,.i x.k,.str x.w,.i x.item]):=by
 have:(bs.map bg)[i]? =some (bg x):=by simp[h]
 simp[dW,Js,E6,this,bg,AV.width,AV.cells]
def XX:dS none= -1:=(rfl)
def Cu(i):dS (some i)=(i:Int):=(rfl)
def Wv{b mb g}{m:Mp}{item}{gs}{fs:List gn}{H}(h:dL b mb g m item fs gs H)(X:gW m.bs fs gs)(y:m.ms.length<=1000000)(P:m.bad.length<=1000000000)(Y:fs.length<=1000000)(nd)(wr:Bool):
  ∃H',run bA 191 [.ptr b 0,aw nd,.bool wr] H=some (.tup [],H')/\dL b mb g (fg m (bq fs gs) nd wr) item fs gs H'/\Kp b mb H H':=by
 obtain⟨n,L⟩:=H;have f:=h.push (.z (aB nd));have k1:=Kp.push (b:=b) (mb:=mb) ⟨n,L⟩ (.z (aB nd));have U:∃te cs,ab.get ⟨n,L⟩ b=some (.c te cs):=by obtain⟨tb,hb⟩:=h.hb;exact⟨_,_,hb⟩
 have iS:∃te cs,ab.get ⟨n,L⟩ mb=some (.c te cs):=by obtain⟨tm,_,_,_,hb,_⟩:=h.hm;exact⟨_,_,hb⟩
 have u:n≠b:=by obtain⟨_,_,hb⟩:=U;have:=(ai.1 hb).1;omega
 have nm:n≠mb:=by obtain⟨_,_,hb⟩:=iS;have:=(ai.1 hb).1;omega
 have v:ab.get ⟨n+1,(n,.z (aB nd))::L⟩ n=some (.z (aB nd)):=ai.2 ⟨aa,by rw[bo,μ rfl]⟩;have B:=bf (n<n+1);have hf:run bA 225 [.ptr b 0,.str nd.w] ⟨n+1,(n,.z (aB nd))::L⟩=some (.tup [.i (dS (pW m.bs nd.w fs gs).1),.i ((pW m.bs nd.w fs gs).2:Int)],⟨n+1,(n,.z (aB nd))::L⟩):=atv f Y nd.w;rw[Nl X];have M:∀i,(pW m.bs nd.w fs gs).1=some i->i<m.bs.length:=λi hi=>h.lt hi;generalize GU:pW m.bs nd.w fs gs=q at hf M;obtain⟨to,bK⟩:=q;simp only at hf M;suffices hh:∃r,run bA 191 [.ptr b 0,aw nd,.bool wr] ⟨n,L⟩=some r/\∃H',r=(.tup [],H')/\dL b mb g ⟨m.bs,m.ms++[⟨nd.a,to,wr,bK⟩],uE m nd wr to⟩ item fs gs H'/\Kp b mb ⟨n,L⟩ H' by obtain⟨_,hr,H',rfl,j,h3⟩:=hh;exact⟨H',hr,j,h3⟩
 refine fM (c:=.seq _ (.seq _ (.seq _ Sr))) rfl rfl func191 rfl (by rw[ntmps191];simp) ?_
 cases to with
 |none=>
  obtain⟨⟨n2,O⟩,K,j,k2⟩:=Pe f P nd.a 30;have I:run bA 146 [.ptr b 0,.i nd.a,.i 30] ⟨n+1,(n,.z (aB nd))::L⟩=some (.tup [],⟨n2,O⟩):=K;have N:=k2.2 n none _ u nm v;have A:decide ((-1:Int)<0)=true:=rfl;simp only[uE];simp only[go_sem,seval,B,hf,XX,I];refine aW (HA (x:=⟨nd.a,none,wr,bK⟩) (nd:=nd) (q:=n) j y rfl N nm ?_ ?_ ?_ ?_ ?_) ?_
  case refine_6=>
   rintro e G ⟨C,E⟩ ⟨rfl,h3,d⟩;simp only[go_sem,seval,results191];exact⟨_,rfl,_,rfl,h3,k1.trans (k2.trans d)⟩
  all_goals simp[go_sem,XX]
 |some i=>
  obtain⟨x,R⟩:=fo (M i rfl);have Q:rV m.bs i=x.k:=by simp[rV,R]
  have A:=bU ((i:Int)<0);obtain⟨tb,hb⟩:=f.hb;obtain⟨tm,o1,o2,bv,fw,_⟩:=f.hm;have Z:ab.get ⟨n+1,(n,.z (aB nd))::L⟩ b=some (.cells tb [.ptr mb 0,ei fs,.map g,.i item]):=hb;have D:ab.get ⟨n+1,(n,.z (aB nd))::L⟩ mb=some (.cells tm [.vec o1 (m.bs.map bg),.vec o2 (m.ms.map ck),bv]):=fw;obtain⟨W,V⟩:=ai.1 Z;obtain⟨zm,gm⟩:=ai.1 D;have cb:=aC V;have F:=aC gm;rw[HC,κ u] at cb;rw[HC,κ nm] at F;have s:=ο W;have o:=ο zm;have l:=aGw u;have t:=aGw nm;have S:=ad1 o1 R
  cases wr with
  |true=>
   by_cases T:x.k<3
   ·have J:=bH ((x.k:Int)<3);have p:uE m nd true (some i)=m.bad++[(nd.a,35)]:=by simp only[uE,Q];rw[μ ⟨trivial,T⟩]
    rw[p];obtain⟨⟨n2,O⟩,K,j,k2⟩:=Pe f P nd.a 35;have I:run bA 146 [.ptr b 0,.i nd.a,.i 35] ⟨n+1,(n,.z (aB nd))::L⟩=some (.tup [],⟨n2,O⟩):=K;have N:=k2.2 n none _ u nm v;simp only[go_sem,seval,B,hf,Cu,A,cb,F,s,o,l,t,S,J,I];refine aW (HA (x:=⟨nd.a,some i,true,bK⟩) (nd:=nd) (q:=n) j y rfl N nm ?_ ?_ ?_ ?_ ?_) ?_
    case refine_6=>
     rintro e G ⟨C,E⟩ ⟨rfl,h3,d⟩;simp only[go_sem,seval,results191];exact⟨_,rfl,_,rfl,h3,k1.trans (k2.trans d)⟩
    all_goals simp[go_sem,Cu]
   ·have J:=bU ((x.k:Int)<3);have p:uE m nd true (some i)=m.bad:=by simp only[uE,Q];rw[κ (λh=>T h.2)]
    rw[p];simp only[go_sem,seval,B,hf,Cu,A,cb,F,s,o,l,t,S,J];refine aW (HA (x:=⟨nd.a,some i,true,bK⟩) (nd:=nd) (q:=n) f y rfl v nm ?_ ?_ ?_ ?_ ?_) ?_
    case refine_6=>
     rintro e G ⟨C,E⟩ ⟨rfl,h3,d⟩;simp only[go_sem,seval,results191];exact⟨_,rfl,_,rfl,h3,k1.trans d⟩
    all_goals simp[go_sem,Cu]
  |false=>
   have p:uE m nd false (some i)=m.bad:=by simp[uE]
   rw[p];simp only[go_sem,seval,B,hf,Cu,A];refine aW (HA (x:=⟨nd.a,some i,false,bK⟩) (nd:=nd) (q:=n) f y rfl v nm ?_ ?_ ?_ ?_ ?_) ?_
   case refine_6=>
    rintro e G ⟨C,E⟩ ⟨rfl,h3,d⟩;simp only[go_sem,seval,results191];exact⟨_,rfl,_,rfl,h3,k1.trans d⟩
   all_goals simp[go_sem,Cu]
def Le(m m':Mp):Prop:=m.bs.length<=m'.bs.length/\m.ms.length<=m'.ms.length
def Le.refl(m):Le m m:=⟨ν _,ν _⟩
def Le.trans{a b c}(h:Le a b)(d:Le b c):Le a c:=⟨atB h.1 d.1,atB h.2 d.2⟩
def sR(m)(l)(n)(k item):Le m (fz m l n k item):=⟨by simp[fz],ν _⟩
def B'(m)(l)(n)(wr):Le m (fg m l n wr):=by
 unfold fg;split
 ·exact⟨ν _,ah⟩
 ·split<;>exact⟨ν _,ah⟩
def Cj(item):∀ks m l,Le m (iB item m l ks).1
 |[],m,l=>Le.refl m
 |n::r,m,l=>by simp[iB];exact(sR m l n 3 item).trans (Cj item r _ _)
mutual
def CE(item)(m)(l)(n):Le m (eP item m l n).1:=by
 match n with
 | .mk k f t w a ks=>
  simp[eP];split
  ·exact B' _ _ _ _
  ·split
   ·exact Ww item true m l ks
   ·have h1:Le m (if k=8 then fg m l (.mk k f t w a ks) true else m):=by
     split
     ·exact B' _ _ _ _
     ·exact Le.refl m
    have h2:=h1.trans (yD item (if k=8 then fg m l (.mk k f t w a ks) true else m) (if k=6 then .fu false::l else l) ks);by_cases h7:k=7
    ·rw[μ h7];exact h2.trans (sR _ _ _ _ _)
    ·rw[κ h7];by_cases h6:k=6
     ·simp[h6] at h2⊢;exact h2
     ·simp[h6] at h2⊢;exact h2
def yD(item)(m)(l)(ks):Le m (dE item m l ks).1:=by
 match ks with
 |[]=>exact Le.refl m
 |n::r=>simp[dE];exact(CE item m l n).trans (yD item _ _ r)
def Ww(item)(lam)(m)(l)(ks):Le m (kf item lam m l ks):=by
 match ks with
 |[]=>exact Le.refl m
 |[_]=>exact Le.refl m
 |[_,_]=>exact Le.refl m
 |[p,_,b]=>simp[kf];exact(Cj item p.ks m _).trans (CE item _ _ b)
 |_::_::_::_::_=>exact Le.refl m
end
def Bw(m:Mp):Prop:=m.bad.length<=m.bs.length+m.ms.length
def E9{m}(h:Bw m)(l)(n)(k item):Bw (fz m l n k item):=by
 unfold Bw fz at*
 simp only;split<;>simp<;>omega
def Nn{m}(h:Bw m)(l)(n)(wr):Bw (fg m l n wr):=by
 unfold Bw fg at*
 split
 ·simp;omega
 ·split
  ·simp;omega
  ·split<;>simp<;>omega
def HX{bs:List Bi}{i}(h:i<bs.length)(x):rV (bs++[x]) i=rV bs i:=by unfold rV;rw[atI h]
def Wx(bs:List Bi)(x:Bi):rV (bs++[x]) bs.length=x.k:=by simp[rV]
def gW.bind{b mb g}{m:Mp}{item}{gs}{f:gn}{r}{H}(h:gW m.bs (f::r) gs)(c:dL b mb g m item (f::r) gs H){x:Bi}(d:3<=x.k):gW (m.bs++[x]) (⟨f.aX,f.mp,f.lam,m.bs.length::f.dh⟩::r) gs:=by
 obtain⟨_,_,_,_,e⟩:=c.hg;refine⟨λi hi=>by rw[HX (e i hi)];exact h.1 i hi,λy a i hi=> ?_⟩;rcases Υ.1 a with rfl|a
 ·rcases Υ.1 hi with rfl|hi
  ·rw[Wx];exact d
  ·rw[HX (c.ch.an ah hi)];exact h.2 f ah i hi
 ·rw[HX (c.ch.an (Κ _ a) hi)];exact h.2 y (by simp[a]) i hi
def gW.tail{bs}{f}{fs}{gs}(h:gW bs (f::fs) gs):gW bs fs gs:=⟨h.1,λy a=>h.2 y (by simp[a])⟩
def gW.frame{bs}{fs}{gs}(h:gW bs fs gs)(aX mp)(lam):gW bs (⟨aX,mp,lam,[]⟩::fs) gs:=⟨h.1,λy a i hi=>by
 rcases Υ.1 a with rfl|a
 ·cases hi
 ·exact h.2 y a i hi⟩
end Go.Proofs.YtmehamiifalmaaaGreatDoor
namespace Go.Ab
open Go
section
variable {E:Env} {call:cu} {loop:(az->ab->Option ef)->az->ab->Option ef} {α:az} {H:ab}
def ZH{a b}{c}{H'}{r}(h:A1 a=none)(d:aN E call loop a α H=some (.normal,c,H'))(h3:ik E call loop b c H'=r):ik E call loop (.seq a b) α H=r:=by rw[ik];simp[h,d,an];exact h3
def anW{a b}{o d:Oper}{v}{H1}{q}(h:A1 a=some (o,d))(c:bh E call o.op (ev α) H=some (v,H1))(e:aN E call loop b (put α o.dst v) H1=some q):ik E call loop (.seq a b) α H=some (q,v):=by rw[ik];simp[h,c,an,e]
end
end Go.Ab
namespace Go.Proofs.YtmehamiifalmaaaGreatDoor
open Go Go.Ab Go.Proofs.Tryz
set_option maxRecDepth 100000
set_option maxHeartbeats 8000000
def Su(b mb g:Nat)(m a:Mp)(item:Nat)(fs:List gn)(gs:List Nat)(lam:Bool)(c:AV)(H:ab):Prop:=
 ∀aX mp H1,dL b mb g m item (⟨aX,mp,lam,[]⟩::fs) gs H1->Kp b mb H H1->∃H2 s,dD bA (run bA) c [] H1=some (.tup [],H2)/\dL b mb g a item (⟨aX,mp,lam,s⟩::fs) gs H2/\Kp b mb H1 H2/\gW a.bs fs gs/\Bw a
def dL.pop{b mb g}{m}{item}{fs}{gs}{f}{H H':ab}(h:dL b mb g m item (f::fs) gs H)(a:∀i x,i≠b->H.get i=some x->H'.get i=some x)(hb:∃tb,H'.get b=some (.cells tb [.ptr mb 0,ei fs,.map g,.i item])):dL b mb g m item fs gs H':=by
 obtain⟨tb,l⟩:=h.hb;obtain⟨tm,o1,o2,bv,z,r,w,v⟩:=h.hm;have p:∀{i n et},H.get i=some (.bQ n et)->i≠b:=λ{i n et} hi e=>by rw[e,l] at hi;cases hi
 have nm:∀{i es c},H.get i=some (.map es c)->i≠b:=λ{i es c} hi e=>by rw[e,l] at hi;cases hi
 refine⟨hb,⟨tm,o1,o2,bv,a _ _ (λe=>h.bm e.symm) z,r.cj λj n d=>a _ _ (p d) d,w.cj λj n d=>a _ _ (p d) d,yr v λi n et s cs hi=>a _ _ (by rintro rfl;rw[l] at hi;cases hi) hi⟩,?_,?_,?_,λy k=>h.fb y (by simp[k]),h.bm⟩
 ·obtain⟨q,c,o,t,h3⟩:=h.hg;exact⟨q,c,a _ _ (nm o) o,t,h3⟩
 ·refine h.ch.2.2.cj (λy k x A hi=>a _ _ (h.fb y (by simp[k])).1 hi) (λy k x A hi=> ?_);obtain⟨q,c,u,_⟩:=h.ch.2.2.at k;exact a _ _ (nm u) hi
 ·have:=h.nd;simp[aF8] at this⊢;exact⟨this.1.2,this.2.2⟩
def dL.enter{b mb g}{m}{item}{fs}{gs}{H H':ab}{aX mp}{lam}(h:dL b mb g m item fs gs H)(d:∀i x,i≠b->H.get i=some x->H'.get i=some x)(hb:∃tb,H'.get b=some (.cells tb [.ptr mb 0,.ptr aX 0,.map g,.i item]))
  (l:∃B,H'.get aX=some (.cells B [.map mp,.bool lam,ei fs])) (z:H'.get mp=some (.map [] 0)) (n1:aX≠b) (n2:aX≠mb) (n3:H.next<=mp):dL b mb g m item (⟨aX,mp,lam,[]⟩::fs) gs H':=by
 obtain⟨tb,p⟩:=h.hb;obtain⟨tm,o1,o2,bv,F,E,A,v⟩:=h.hm;have t:∀{i n et},H.get i=some (.bQ n et)->i≠b:=λ{i n et} hi e=>by rw[e,p] at hi;cases hi
 have nm:∀{i es c},H.get i=some (.map es c)->i≠b:=λ{i es c} hi e=>by rw[e,p] at hi;cases hi
 have q:pa H' g m.bs gs:=by obtain⟨o,c,r,u,h3⟩:=h.hg;exact⟨o,c,d _ _ (nm r) r,u,h3⟩
 have lt:∀{i es c},H.get i=some (.map es c)->mp≠i:=λ{i es c} hi e=>by have:=ab.ep hi;omega
 refine⟨hb,⟨tm,o1,o2,bv,d _ _ (λe=>h.bm e.symm) F,E.cj λj n k=>d _ _ (t k) k,A.cj λj n k=>d _ _ (t k) k,yr v λi n et s cs hi=>d _ _ (by rintro rfl;rw[p] at hi;cases hi) hi⟩,q,⟨l,⟨[],0,z,λw=>rfl,λi hi=>by cases hi⟩,?_⟩,?_,?_,h.bm⟩
 ·refine h.ch.cj (λy a x C hi=>d _ _ (h.fb y a).1 hi) (λy a x C hi=> ?_);obtain⟨o,c,f,_⟩:=h.ch.at a;exact d _ _ (nm f) hi
 ·have:=h.nd;simp only[aEv,aF8,Υ,not_or] at this⊢;obtain⟨o,c,f,_⟩:=h.hg;refine⟨⟨λe=>lt f e.symm,this.1⟩,λD=> ?_,this.2⟩;obtain⟨y,a,e⟩:=aEI.1 D;obtain⟨o,c,f,_⟩:=h.ch.at a;exact lt f e.symm
 ·intro y a;rcases Υ.1 a with rfl|a
  ·exact⟨n1,n2⟩
  ·exact h.fb y a
def rJ(p):iP prog 188 [.ptr p 0] 0=some (.ptr p 0):=by rw[ZE];rfl
def aty(fs):(ei fs).width=some 1:=by cases fs<;>(simp[ei];rfl)
def atz(fs):(ei fs).cells=[ei fs]:=by cases fs<;>(simp[ei];rfl)
def atA(fs):eo [ei fs]=true:=by cases fs<;>(simp[ei];rfl)
attribute [go_sem] aty atz atA
noncomputable def QV:=f147.c.l
noncomputable def QW:=f147.c.r.l
noncomputable def acS:=f147.c.r.r.l
noncomputable def QX:=f147.c.r.r.r.l
noncomputable def QY:=f147.c.r.r.r.r
def agL(i)(es)(c)(l)(k):eF ((i,.map es c)::l) k=if i=k then none else eF l k:=by by_cases h:i=k<;>simp[eF,cg,h]
attribute [go_sem] agL
def aj4(ρ:Operand->AV)(H:ab):∃o d,A1 acS=some (o,d)/\o.dst=some 11/\∀α H a b,α 6=a->α 3=b->bh bA (run bA) o.op (ev α) H=some (.fn (.func 188) [] [a,b],H):=by refine⟨_,_,rfl,rfl,λα H a b c h3=> ?_⟩;subst c;subst h3;rfl
def atC{H:ab}{b mb g a d}{tb j f}{x}{item}{fs}(o:H.get a=some (.cells j [ei fs]))(l:H.get d=some (.cells f [.ptr b 0]))(hb:H.get b=some (.cells tb [.ptr mb 0,x,.map g,.i item])):
  run bA 188 [.ptr a 0,.ptr d 0] H=some (.tup [],H.set b (.cells tb [.ptr mb 0,ei fs,.map g,.i item])):=by
 obtain⟨n,L⟩:=H;obtain⟨m,k⟩:=ai.1 o;obtain⟨h,g2⟩:=ai.1 l;obtain⟨e,c⟩:=ai.1 hb;refine ow rfl rfl func188 rfl (by rw[ntmps188];simp) ?_;simp[go_sem,aC k,aC g2,aC c,c,ο m,ο h,ο e,rJ,results188]
def XY{b mb g}{m u:Mp}{item}{fs}{gs}{H}{lam}{fd:FuncId}{f c:List AV}(h:dL b mb g m item fs gs H)(T:Su b mb g m u item fs gs lam (.fn (.func fd) f c) H):
  ∃H',run bA 147 [.ptr b 0,.bool lam,.fn (.func fd) f c] H=some (.tup [],H')/\dL b mb g u item fs gs H'/\Kp b mb H H'/\gW u.bs fs gs/\Bw u:=by
 obtain⟨n,L⟩:=H;obtain⟨tb,hb⟩:=h.hb;obtain⟨zb,y⟩:=ai.1 hb;have zm:mb<n:=by obtain⟨tm,_,_,_,fw,_⟩:=h.hm;exact(ai.1 fw).1
 have cb:=aC y;try simp only at zb
 have t0:=bf (n<n+1);have t1:=bf (b<n+1);have V:=bf (n+1<n+1+1);have X:=bf (n<n+1+1);have Z:=bf (n+1<n+1+1+1);have t5:=bf (b<n+1+1+1+1);have t6:=bf (n<n+1+1+1);have O:=dJ (n=b);have e1:=dJ (n+1=b);have e2:=dJ (n+1=n);have e3:=dJ (n+1+1=b);have e4:=dJ (n+1+1+1=b);have W:=dJ (n+1+1=n+1);have e6:=dJ (n+1+1=n);have s0:aF (aN bA (run bA) aL QV (jq [.ptr b 0,.bool lam,.fn (.func fd) f c]) ⟨n,L⟩) λe t H'=>e=.normal/\H'=⟨n+1,(n,.z [.ptr b 0])::L⟩/\t 1=.bool lam/\t 2=.fn (.func fd) f c/\t 3=.ptr n 0:=by rw[show QV=.region _ [_].toArray false from rfl];simp[go_sem,]
 obtain⟨_,t,_,U,rfl,rfl,bY,a12,cq⟩:=ke s0;have s1:aF (aN bA (run bA) aL QW t ⟨n+1,(n,.z [.ptr b 0])::L⟩) λe a H'=>e=.normal/\H'=⟨n+1+1,(n+1,.k 191 [ei fs])::(n,.z [.ptr b 0])::L⟩/\a 1=.bool lam/\a 2=.fn (.func fd) f c/\a 3=.ptr n 0/\a 6=.ptr (n+1) 0:=by rw[show QW=.region _ [_,_,_,_,_,_].toArray false from rfl];simp[go_sem,bY,a12,cq,t0,t1,V,O,cb,rJ]
 obtain⟨_,a,_,x1,rfl,rfl,J,N,j,p⟩:=ke s1;obtain⟨o,d,x2,G,x3⟩:=aj4 (ev a) ⟨n,L⟩;have s2:aF (aN bA (run bA) aL QX (put a o.dst (.fn (.func 188) [] [.ptr (n+1) 0,.ptr n 0])) ⟨n+1+1,(n+1,.k 191 [ei fs])::(n,.z [.ptr b 0])::L⟩) λe F H'=>e=.normal/\H'=⟨n+1+1+1+1,(n+1+1+1,.z [.map (n+1+1),.bool lam,ei fs])::(n+1+1,.map [] 0)::(n+1,.k 191 [ei fs])::(n,.z [.ptr b 0])::aH L b (.cells tb [.ptr mb 0,.ptr (n+1+1+1) 0,.map g,.i item])⟩/\F 2=.fn (.func fd) f c:=by rw[show QX=.region _ [_,_,_,_,_,_,_,_,_].toArray false from rfl,G];simp[go_sem,J,N,j,p,X,Z,t5,O,e1,e2,e3,e4,W,cb,y,rJ,aQ]
 obtain⟨_,F,_,x5,rfl,rfl,A⟩:=ke s2;have p3:∀i x,i≠b->ab.get ⟨n,L⟩ i=some x->ab.get ⟨n+1+1+1+1,(n+1+1+1,.z [.map (n+1+1),.bool lam,ei fs])::(n+1+1,.map [] 0)::(n+1,.k 191 [ei fs])::(n,.z [.ptr b 0])::aH L b (.cells tb [.ptr mb 0,.ptr (n+1+1+1) 0,.map g,.i item])⟩ i=some x:=λi x hi K=>by obtain⟨q1,q2⟩:=ai.1 K;exact ai.2 ⟨aa,by rw[bo,bM,bo,bM,bo,bM,bo,bM,aR,κ (λe=>hi e.symm)];exact q2⟩
 have I:dL b mb g m item (⟨n+1+1+1,n+1+1,lam,[]⟩::fs) gs ⟨n+1+1+1+1,(n+1+1+1,.z [.map (n+1+1),.bool lam,ei fs])::(n+1+1,.map [] 0)::(n+1,.k 191 [ei fs])::(n,.z [.ptr b 0])::aH L b (.cells tb [.ptr mb 0,.ptr (n+1+1+1) 0,.map g,.i item])⟩:=
  h.enter p3 ⟨tb,ai.2 ⟨aa,by rw[bo,bM,bo,bM,bo,bM,bo,bM,aR,μ rfl,y];rfl⟩⟩ ⟨none,ai.2 ⟨aa,by rw[bo,μ rfl]⟩⟩ (ai.2 ⟨aa,by rw[bo,bM,bo,μ rfl]⟩) aa aa (by show n<=n+1+1;omega)
 have oR:ab.get ⟨n+1+1+1+1,(n+1+1+1,.z [.map (n+1+1),.bool lam,ei fs])::(n+1+1,.map [] 0)::(n+1,.k 191 [ei fs])::(n,.z [.ptr b 0])::aH L b (.cells tb [.ptr mb 0,.ptr (n+1+1+1) 0,.map g,.i item])⟩ n=some (.z [.ptr b 0]):=ai.2 ⟨aa,by rw[bo,bM,bo,bM,bo,bM,bo,μ rfl]⟩;have LM:ab.get ⟨n+1+1+1+1,(n+1+1+1,.z [.map (n+1+1),.bool lam,ei fs])::(n+1+1,.map [] 0)::(n+1,.k 191 [ei fs])::(n,.z [.ptr b 0])::aH L b (.cells tb [.ptr mb 0,.ptr (n+1+1+1) 0,.map g,.i item])⟩ (n+1)=some (.k 191 [ei fs]):=ai.2 ⟨aa,by rw[bo,bM,bo,bM,bo,μ rfl]⟩;have D:Kp b mb ⟨n,L⟩ ⟨n+1+1+1+1,(n+1+1+1,.z [.map (n+1+1),.bool lam,ei fs])::(n+1+1,.map [] 0)::(n+1,.k 191 [ei fs])::(n,.z [.ptr b 0])::aH L b (.cells tb [.ptr mb 0,.ptr (n+1+1+1) 0,.map g,.i item])⟩:=⟨by show n<=n+1+1+1+1;omega,λi te cs l _ E=>p3 i _ l E⟩;obtain⟨B,s,rU,q,v,M,C⟩:=T _ _ _ I D;have s3:aF (aN bA (run bA) aL QY F ⟨n+1+1+1+1,(n+1+1+1,.z [.map (n+1+1),.bool lam,ei fs])::(n+1+1,.map [] 0)::(n+1,.k 191 [ei fs])::(n,.z [.ptr b 0])::aH L b (.cells tb [.ptr mb 0,.ptr (n+1+1+1) 0,.map g,.i item])⟩) λe R H'=>e=.normal/\H'=B:=by rw[show QY=.region _ [_,_].toArray false from rfl];simp[go_sem,A,rU]
 obtain⟨_,R,H5,S,rfl,w⟩:=ke s3;rw[w] at S;obtain⟨r,Q⟩:=q.hb
 have Y:ik bA (run bA) aL (.seq QV (.seq QW (.seq acS (.seq QX QY)))) (jq [.ptr b 0,.bool lam,.fn (.func fd) f c]) ⟨n,L⟩=some ((.normal,R,B),.fn (.func 188) [] [.ptr (n+1) 0,.ptr n 0]):=
  ZH rfl U (ZH rfl x1 (anW x2 (x3 a ⟨n+1+1,(n+1,.k 191 [ei fs])::(n,.z [.ptr b 0])::L⟩ _ _ p j) (by rw[vv,x5];exact S)))
 refine⟨B.set b (.cells r [.ptr mb 0,ei fs,.map g,.i item]),?_,?_,?_,M,C⟩
 ·exact ar7 rfl rfl func147 rfl (by rw[ntmps147];simp) Y (.inl rfl) (g:=188) (first:=[]) (cap:=[.ptr (n+1) 0,.ptr n 0]) rfl rfl rfl (atC (v.2 (n+1) (some 191) _ aa aa LM) (v.2 n none _ aa aa oR) Q) (by rw[results147];rfl)
 ·exact q.pop (λi x hi K=>by rw[ab.eE,κ (λe=>hi e.symm)];exact K) ⟨r,by rw[ab.eE,μ rfl,Q];rfl⟩
 ·refine⟨atB D.1 v.1,λi te cs l P E=> ?_⟩;rw[ab.eE,κ (λe=>l e.symm)];exact v.2 i te cs l P (D.2 i te cs l P E)
def ext(f:gn)(s:List Nat):gn:=⟨f.aX,f.mp,f.lam,s++f.dh⟩
def IY(f)(s t):ext (ext f s) t=ext f (t++s):=by simp[ext]
def lg(m:Mp):Prop:=m.bs.length<=1000000/\m.ms.length<=1000000
def lg.le{m m':Mp}(h:lg m')(a:Le m m'):lg m:=⟨atB a.1 h.1,atB a.2 h.2⟩
def lg.bad{m:Mp}(h:lg m)(hb:Bw m):m.bad.length<=1000000000:=by unfold Bw at hb;have:=h.1;have:=h.2;omega
def Out(b mb g item:Nat)(gs:List Nat)(q:Mp×List RN)(f:gn)(r:List gn)(H H':ab):Prop:=
 ∃s,dL b mb g q.1 item (ext f s::r) gs H'/\gW q.1.bs (ext f s::r) gs/\Bw q.1/\q.2=bq (ext f s::r) gs/\Kp b mb H H'
def Out.trans{b mb g item}{gs}{q}{f:gn}{r:List gn}{H H1 H':ab}{s:List Nat}(e:Kp b mb H H1)(h:Out b mb g item gs q (ext f s) r H1 H'):Out b mb g item gs q f r H H':=by obtain⟨t,a,c,h3,d,h5⟩:=h;rw[IY] at a c d;exact⟨t++s,a,c,h3,d,e.trans h5⟩
def A9(b mb g item:Nat)(gs:List Nat)(n:Nd):Prop:=∀m f r H,dL b mb g m item (f::r) gs H->gW m.bs (f::r) gs->Bw m->lg (eP item m (bq (f::r) gs) n).1->r.length+db n<=900000->mx n<=900000000000000000->
 ∃H',run bA 149 [.ptr b 0,aw n] H=some (.tup [],H')/\Out b mb g item gs (eP item m (bq (f::r) gs) n) f r H H'
noncomputable def KB:=f190.c.r.r.b.b
def ZI{b mb g item:Nat}{gs:List Nat}{ks:List Nd}{o:Ab.Own}(J:ks.length<=900000000000000000):∀rest i m f r H α,ks.drop i=rest->(∀x∈rest,A9 b mb g item gs x)->(∀x∈rest,r.length+db x<=900000/\mx x<=900000000000000000)->
  dL b mb g m item (f::r) gs H->gW m.bs (f::r) gs->Bw m->lg (dE item m (bq (f::r) gs) rest).1->α 0=.ptr b 0->α 7=.vec o (br ks)->α 8=.i ks.length->α 9=.i i->
  aF (aL (aT bA KB) α H) λe z H'=>e=.exit 0/\Out b mb g item gs (dE item m (bq (f::r) gs) rest) f r H H'
 |[],i,m,f,r,H,α,a,ih,c,h,l,hb,d,a0,a7,a8,a9=>by have hi:ks.length<=i:=aED.1 a;have t:KB=.seq _ _:=rfl;have q:=bU ((i:Int)<(ks.length:Int));rw[aJ,t];simp only[go_sem,seval,a8,a9,q];exact⟨aI,[],h,l,hb,rfl,Kp.refl _ _ _⟩
 |x::rest,i,m,f,r,H,α,a,ih,c,h,l,hb,d,a0,a7,a8,a9=>by
  have hi:i<ks.length:=by
   by_cases G:i<ks.length
   ·exact G
   ·rw[aEk aa] at a;cases a
  have E:ks[i]? =some x:=by have:=Μ hi;rw[a] at this;rw[Ν hi];exact Ι some (aEJ this).1.symm
  have A:ks.drop (i+1)=rest:=by have:=Μ hi;rw[a] at this;exact(aEJ this).2.symm
  obtain⟨n,L⟩:=H;have C:lg (eP item m (bq (f::r) gs) x).1:=d.le (yD _ _ _ _);obtain⟨H2,v,s,K,u,F,I,w⟩:=ih x ah m f r _ (h.push (.k 71 (aB x))) l hb C (c x ah).1 (c x ah).2;have D:run bA 149 [.ptr b 0,aw x] ⟨n+1,(n,.k 71 (aB x))::L⟩=some (.tup [],H2):=v;have t:KB=.seq _ _:=rfl;have q:=bH ((i:Int)<(ks.length:Int));have M:=bf (n<n+1);have j:dE item m (bq (f::r) gs) (x::rest)=dE item (eP item m (bq (f::r) gs) x).1 (bq (ext f s::r) gs) rest:=by simp[dE];rw[I]
  rw[j] at d⊢;rw[aJ,t];simp only[go_sem,seval,a0,a7,a8,a9,q,kD o E,M,D,(o8 (n:=i) aa)];refine aW (ZI (o:=o) J rest (i+1) _ (ext f s) r H2 _ A (λy p=>ih y (by simp[p])) (λy p=>c y (by simp[p])) K u F d ?_ ?_ ?_ ?_) ?_
  case refine_5=>
   rintro e z H' ⟨rfl,B⟩;exact⟨rfl,Out.trans ((Kp.push (b:=b) (mb:=mb) ⟨n,L⟩ (.k 71 (aB x))).trans w) B⟩
  all_goals simp[go_sem,a0,a7,a8]
def Jv{b mb g item:Nat}{gs:List Nat}{nd:Nd}(ih:∀x∈nd.ks,A9 b mb g item gs x){m:Mp}{f:gn}{r:List gn}{H:ab}(h:dL b mb g m item (f::r) gs H)(i:gW m.bs (f::r) gs)(hb:Bw m)(y:lg (dE item m (bq (f::r) gs) nd.ks).1)(hd:r.length+eS nd.ks<=900000)(hm:mx nd<=900000000000000000):
  ∃H',run bA 190 [.ptr b 0,aw nd] H=some (.tup [],H')/\Out b mb g item gs (dE item m (bq (f::r) gs) nd.ks) f r H H':=by
 obtain⟨n,L⟩:=H;have p:=bf (n<n+1)
 have u:nd.ks.length<=900000000000000000/\fl nd.ks<=900000000000000000:=by
  cases nd with
  |mk k f t w a ks=>rw[ew] at hm;simp[Nd.ks];omega
 suffices hh:∃q,run bA 190 [.ptr b 0,aw nd] ⟨n,L⟩=some q/\∃H',q=(.tup [],H')/\Out b mb g item gs (dE item m (bq (f::r) gs) nd.ks) f r ⟨n,L⟩ H' by obtain⟨_,l,H',rfl,j⟩:=hh;exact⟨H',l,j⟩
 refine fM (c:=.seq _ (.seq _ (.block 0 (.loop KB)))) rfl rfl func190 rfl (by rw[ntmps190];simp) ?_;simp only[go_sem,seval,p,bL];try simp only[bW]
 refine bz (oW (ZI (o:=if nd.ks.isEmpty then .nil else .ro) u.1 nd.ks 0 m f r _ _ rfl ih (λx d=>⟨by have:=sN d;omega,by have:=qC d;omega⟩) (h.push (.z (aB nd))) i hb y ?_ ?_ ?_ ?_)) ?_
 case refine_5=>
  rintro _ ⟨e,ae,⟨n5,L5⟩,rfl,rfl,v⟩;simp only[go_sem,seval,results190];exact⟨_,rfl,_,rfl,Out.trans (s:=[]) (Kp.push (b:=b) (mb:=mb) ⟨n,L⟩ (.z (aB nd))) v⟩
 all_goals simp[go_sem,]
 all_goals rfl
def wW(n:Nd):bV prog 71 5 (.rptr (aB n))=some (.rptr [.vec (if n.ks.isEmpty then .nil else .ro) (br n.ks)]):=by
 cases n with
 |mk k f t w a ks=>exact O0 _ _ _ _ _ _
attribute [go_sem] wW
noncomputable def Gc:=f148.c.l.r.b.b
noncomputable def QZ:=Gc.r.r.l.b.r.o
noncomputable def Q0:=f148.c.r.o
def abw(f)(r)(gs)(k):bq (ext f [k]::r) gs=.nm k::bq (f::r) gs:=by simp[bq,zQ,ext]
def ZJ{b mb g item}{gs}{ps:List Nd}{o}{p3 p4}{z B}{E}(S:ps.length<=900000000000000000)(v:p3≠b/\p3≠mb)(t:p4≠b/\p4≠mb):
  ∀rest i m f r H α,ps.drop i=rest->dL b mb g m item (f::r) gs H->gW m.bs (f::r) gs->Bw m->lg (iB item m (bq (f::r) gs) rest).1->H.get p3=some (.cells z [.ptr b 0])->H.get p4=some (.cells B E)->
  α 0=.ptr p4 0->α 1=.ptr p3 0->α 7=.vec o (br ps)->α 8=.i ps.length->α 9=.i i->
  aF (aL (aN bA (run bA) aL Gc) α H) λe s H'=>e=.exit 0/\s 0=.ptr p4 0/\s 1=.ptr p3 0/\H'.get p3=some (.cells z [.ptr b 0])/\H'.get p4=some (.cells B E)/\Out b mb g item gs (iB item m (bq (f::r) gs) rest) f r H H'
 |[],i,m,f,r,H,α,c,h,l,hb,d,h3,q,a0,a1,a7,a8,a9=>by
  have hi:ps.length<=i:=aED.1 c;have y:Gc=.seq _ _:=rfl;have u:=bU ((i:Int)<(ps.length:Int));rw[aJ,y];simp only[go_sem,seval,a8,a9,u];refine⟨aI,?_,?_,h3,q,[],h,l,hb,rfl,Kp.refl _ _ _⟩;all_goals simp[go_sem,a0,a1]
 |x::rest,i,m,f,r,H,α,c,h,l,hb,d,h3,q,a0,a1,a7,a8,a9=>by
  have hi:i<ps.length:=by
   by_cases hh:i<ps.length
   ·exact hh
   ·rw[aEk aa] at c;cases c
  have oS:ps[i]? =some x:=by have:=Μ hi;rw[c] at this;rw[Ν hi];exact Ι some (aEJ this).1.symm
  have V:ps.drop (i+1)=rest:=by have:=Μ hi;rw[c] at this;exact(aEJ this).2.symm
  obtain⟨n,L⟩:=H;have D:lg m:=d.le (Cj item (x::rest) m _);have ha:At g f.mp f.dh (f::r) gs (ext f [m.bs.length]::r) gs m.bs.length:=.inr ⟨f,r,rfl,rfl,rfl,rfl,rfl⟩;obtain⟨H2,O,i1,R⟩:=Ju (h.push (.k 71 (aB x))) ha D.1 (D.bad hb) x 3;have Z:run bA 102 [.ptr b 0,.map f.mp,aw x,.i 3] ⟨n+1,(n,.k 71 (aB x))::L⟩=some (.tup [],H2):=O;have G:gW (fz m (bq (f::r) gs) x 3 item).bs (ext f [m.bs.length]::r) gs:=l.bind h (x:=⟨x.a,3,x.w,item⟩) (ν 3);have p:=(Kp.push (b:=b) (mb:=mb) ⟨n,L⟩ (.k 71 (aB x))).trans R;have y:Gc=.seq _ (.seq _ (.seq (.block _ (.seq _ (.region 3 QZ.toArray true))) _)):=rfl;have u:=bH ((i:Int)<(ps.length:Int));have j:iB item m (bq (f::r) gs) (x::rest)=iB item (fz m (bq (f::r) gs) x 3 item) (bq (ext f [m.bs.length]::r) gs) rest:=by simp[iB];rw[abw]
  rw[j] at d⊢;obtain⟨tb,C⟩:=h.hb;obtain⟨⟨tf,hf⟩,_,_⟩:=h.ch;simp[ei] at C;obtain⟨zb,I⟩:=ai.1 C;obtain⟨zf,gf⟩:=ai.1 hf;obtain⟨z3,g3⟩:=ai.1 h3;have ym:=bf (n<n+1);have N:=bf (b<n+1);have F:=bf (f.aX<n+1);have P:=bf (p3<n+1);have M:=dJ (n=b);have nf:=dJ (n=f.aX);have J:=dJ (n=p3);obtain⟨A,X,T,q2,U,q4,Y⟩:∃A,A=QZ.toArray/\behind A A.size 9 0=true/\behind A A.size 9 1=true/\behind A A.size 9 4=true/\behind A A.size 9 7=true/\behind A A.size 9 8=true:=⟨_,rfl,af,af,af,af,af⟩;have hR:∀α H,aN bA (run bA) aL (.region 3 QZ.toArray true) α H=an (eY bA (run bA) A 0 [_,_,_,_,_,_,_,_,_,_] [] [] α H) λr=>some (.normal,r.1,r.2):=λα H=>by rw[nG _ _ rfl rfl,X];exact rfl
  rw[aJ,y];simp only[go_sem,seval,hR,T,q2,U,q4,Y,aEO,a1,a7,a8,a9,u,kD o oS,ym,N,F,P,M,nf,J,aC I,aC gf,aC g3,rJ,Z,(o8 (n:=i) aa)];refine aW (ZJ (o:=o) S v t rest (i+1) _ (ext f [m.bs.length]) r H2 _ V i1 G (E9 hb (bq (f::r) gs) x 3 item) d (p.2 _ _ _ v.1 v.2 h3) (p.2 _ _ _ t.1 t.2 q) ?_ ?_ ?_ ?_ ?_) ?_
  case refine_6=>
   rintro e s H' ⟨rfl,Q,b1,K,b4,W⟩;exact⟨rfl,Q,b1,K,b4,Out.trans p W⟩
  all_goals simp[go_sem,a0,a1,a7,a8]
def Wy{f}(h:bA.cl f=false)(a:bA.io f=false)(ar cap)(H):dD bA (run bA) (.fn (.func f) [] cap) ar H=run bA f (ar++cap) H:=by simp[dD,target,h,a,sV]
def anX(o)(l)(H:ab):eQ (.vec o l) H=some (.ptr H.next 0,H.push (.z [.vec o l])):=by simp[eQ,AV.width,AV.cells]
attribute [go_sem] anX
def ahP{b mb g item}{gs}{p t bk:Nd}(ih:A9 b mb g item gs bk){p3 p4}{z D}{o}(X:p3≠b/\p3≠mb)(V:p4≠b/\p4≠mb){m:Mp}{f}{r:List gn}{H:ab}(h:dL b mb g m item (f::r) gs H)(E:gW m.bs (f::r) gs)(hb:Bw m)
  (v:lg (eP item (iB item m (bq (f::r) gs) p.ks).1 (iB item m (bq (f::r) gs) p.ks).2 bk).1) (h3:H.get p3=some (.cells z [.ptr b 0])) (w:H.get p4=some (.cells D [.vec o (br [p,t,bk])])) (x:r.length+db bk<=900000) (hm:mx bk<=900000000000000000) (K:p.ks.length<=900000000000000000):
  ∃H',run bA 148 [.ptr p4 0,.ptr p3 0] H=some (.tup [],H')/\Out b mb g item gs (eP item (iB item m (bq (f::r) gs) p.ks).1 (iB item m (bq (f::r) gs) p.ks).2 bk) f r H H':=by
 obtain⟨n,L⟩:=H;obtain⟨z3,g3⟩:=ai.1 h3;obtain⟨z4,P⟩:=ai.1 w;have y:dW prog 69 (.vec o (br [p,t,bk])) (.i 0)=some (.rptr (aB p)):=kD (i:=0) o rfl;have T:dW prog 69 (.vec o (br [p,t,bk])) (.i 2)=some (.rptr (aB bk)):=kD (i:=2) o rfl;suffices hh:∃q,run bA 148 [.ptr p4 0,.ptr p3 0] ⟨n,L⟩=some q/\∃H',q=(.tup [],H')/\Out b mb g item gs (eP item (iB item m (bq (f::r) gs) p.ks).1 (iB item m (bq (f::r) gs) p.ks).2 bk) f r ⟨n,L⟩ H' by obtain⟨_,S,H',rfl,B⟩:=hh;exact⟨H',S,B⟩
 obtain⟨A,O,J,Y,M⟩:∃A,A=Q0.toArray/\behind A A.size 4 0=true/\behind A A.size 4 1=true/\behind A A.size 4 3=true:=⟨_,rfl,af,af,af⟩;have W:∀α H,aN bA (run bA) aL (.region 5 Q0.toArray true) α H=an (eY bA (run bA) A 0 [_,_,_,_,_] [] [] α H) λr=>some (.normal,r.1,r.2):=λα H=>by rw[nG _ _ rfl rfl,O];exact rfl
 refine fM (c:=.seq (.seq _ (.block 0 (.loop Gc))) (.region 5 Q0.toArray true)) rfl rfl func148 rfl (by rw[ntmps148];simp) ?_;simp only[go_sem,seval,ο z4,aC P,y,bL];try simp only[bW]
 refine bz (oW (ZJ (o:=if p.ks.isEmpty then .nil else .ro) (p3:=p3) (p4:=p4) K X V p.ks 0 m f r _ _ rfl h E hb (v.le (CE _ _ _ _)) h3 w ?_ ?_ ?_ ?_ ?_)) ?_
 case refine_6=>
  rintro _ ⟨e,ae,⟨n5,L5⟩,rfl,rfl,G,b1,a,d,s,U,C,Q,R,I⟩;rw[R] at v⊢;obtain⟨H6,F,N⟩:=ih _ (ext f s) r _ U C Q v x hm;obtain⟨l,j⟩:=ai.1 a;obtain⟨k,u⟩:=ai.1 d;simp only[go_sem,seval,W,J,Y,M,aEO,G,b1,ο l,ο k,aC j,aC u,T,rJ,F,results148];exact⟨_,rfl,_,rfl,Out.trans I N⟩
 all_goals simp[go_sem,]
 all_goals rfl
def acT{ks:List Nd}(h:ks.length=3):∃p t b,ks=[p,t,b]:=by
 match ks,h with
 |[p,t,b],_=>exact⟨p,t,b,rfl⟩
def VQ(item)(lam)(m)(l){ks:List Nd}(h:ks.length≠3):kf item lam m l ks=m:=by
 match ks with
 |[]=>rfl
 |[_]=>rfl
 |[_,_]=>rfl
 |[_,_,_]=>simp at h
 |_::_::_::_::_=>rfl
def ad2(b mb g item:Nat)(gs:List Nat)(m:Mp)(fs:List gn)(H H':ab):Prop:=dL b mb g m item fs gs H'/\gW m.bs fs gs/\Bw m/\Kp b mb H H'
def XZ{b mb g item}{gs}{ks:List Nd}(ih:∀x∈ks,A9 b mb g item gs x){o}{m:Mp}{fs:List gn}{H}{lam}(h:dL b mb g m item fs gs H)(C:gW m.bs fs gs)(hb:Bw m)(y:lg (kf item lam m (bq fs gs) ks))(hd:fs.length+eS ks<=900000)(hm:fl ks<=900000000000000000)(hl:ks.length<=900000000000000000):
  ∃H',run bA 103 [.ptr b 0,.vec o (br ks),.bool lam] H=some (.tup [],H')/\ad2 b mb g item gs (kf item lam m (bq fs gs) ks) fs H H':=by
 obtain⟨n,L⟩:=H;have F:∃te cs,ab.get ⟨n,L⟩ b=some (.c te cs):=by obtain⟨tb,hb⟩:=h.hb;exact⟨_,_,hb⟩
 have O:∃te cs,ab.get ⟨n,L⟩ mb=some (.c te cs):=by obtain⟨tm,_,_,_,hb,_⟩:=h.hm;exact⟨_,_,hb⟩
 have nb:b<n:=by obtain⟨_,_,hb⟩:=F;exact(ai.1 hb).1
 have nm:mb<n:=by obtain⟨_,_,hb⟩:=O;exact(ai.1 hb).1
 have d:=(h.push (.z [.ptr b 0])).push (.z [.vec o (br ks)]);have k2:=(Kp.push (b:=b) (mb:=mb) ⟨n,L⟩ (.z [.ptr b 0])).trans (Kp.push _ (.z [.vec o (br ks)]));have P:=bf (n<n+1+1);have B:=bf (n+1<n+1+1);have E:=dJ (n+1=n);suffices hh:∃q,run bA 103 [.ptr b 0,.vec o (br ks),.bool lam] ⟨n,L⟩=some q/\∃H',q=(.tup [],H')/\ad2 b mb g item gs (kf item lam m (bq fs gs) ks) fs ⟨n,L⟩ H' by obtain⟨_,N,H',rfl,d⟩:=hh;exact⟨H',N,d⟩
 refine fM rfl rfl func103 rfl (by rw[ntmps103];simp) ?_;have v:((ks.length:Int) != 3)= !decide (ks.length=3):=sf ks.length 3;by_cases h3:ks.length=3
 ·rw[π h3] at v;obtain⟨p,t,bk,rfl⟩:=acT h3;have J:dL b mb g m item fs gs ⟨n+1+1,(n+1,.z [.vec o (br [p,t,bk])])::(n,.z [.ptr b 0])::L⟩:=d;simp only[kf] at y⊢
  have r:fl p.ks<=900000000000000000/\p.ks.length<=900000000000000000:=by
   have:=qC (l:=[p,t,bk]) (n:=p) ah
   cases p with
   |mk k f t w a ks=>rw[ew] at this;simp only[Nd.ks];omega
  have Q:Su b mb g m (eP item (iB item m (.fu lam::bq fs gs) p.ks).1 (iB item m (.fu lam::bq fs gs) p.ks).2 bk).1 item fs gs lam (.fn (.func 148) [] [.ptr (n+1) 0,.ptr n 0]) ⟨n+1+1,(n+1,.z [.vec o (br [p,t,bk])])::(n,.z [.ptr b 0])::L⟩:=by
   intro aX mp H1 I D;have A:bq (⟨aX,mp,lam,[]⟩::fs) gs=.fu lam::bq fs gs:=by simp[bq,zQ]
   have hdb:=sN (l:=[p,t,bk]) (n:=bk) ah;have fw:=qC (l:=[p,t,bk]) (n:=bk) ah;obtain⟨H2,G,s,j,e,i,M,u⟩:=ahP (t:=t) (ih bk ah) (p3:=n) (p4:=n+1) ⟨aa,aa⟩ ⟨aa,aa⟩ I (C.frame aX mp lam) hb (by rw[A];exact y) (D.2 n none [.ptr b 0] aa aa (ai.2 ⟨aa,by rw[bo,bM,bo,μ rfl]⟩)) (D.2 (n+1) none [.vec o (br [p,t,bk])] aa aa (ai.2 ⟨aa,by rw[bo,μ rfl]⟩)) aa aa r.2;rw[A] at j e i M;refine⟨H2,s++[],?_,j,u,e.tail,i⟩;rw[Wy af af];exact G
  obtain⟨H3,K,j,u,e,i⟩:=XY J Q;simp only[go_sem,seval,P,B,E,bL,rJ,K,results103];exact⟨_,rfl,_,rfl,j,e,i,k2.trans u⟩
 ·rw[ξ h3] at v;rw[VQ item lam m _ h3] at y⊢;simp only[go_sem,seval,B,bL,v,χ,results103];exact⟨_,rfl,_,rfl,d,C,hb,k2⟩
set_option maxHeartbeats 16000000
noncomputable def Sv:=f149.c.r.r.b.r.e.r.t.r.o
def atD{b a p3}{c d}{n}{H H':ab}(f:H.get a=some (.cells c [.ptr b 0]))(h3:H.get p3=some (.cells d (aB n)))(g:run bA 190 [.ptr b 0,aw n] H=some (.tup [],H')):run bA 189 [.ptr a 0,.ptr p3 0] H=some (.tup [],H'):=by obtain⟨m,L⟩:=H;obtain⟨e,g2⟩:=ai.1 f;obtain⟨h,g3⟩:=ai.1 h3;obtain⟨n1,L1⟩:=H';refine ow rfl rfl func189 rfl (by rw[ntmps189];simp) ?_;simp[go_sem,aC g2,aC g3,ο e,ο h,rJ,g,results189]
def X0(item)(m)(l){n:Nd}(h:n.k=23):eP item m l n=(fg m l n false,l):=by
 cases n with
 |mk k f t w a ks=>simp[Nd.k] at h;simp[eP,h]
def X1(item)(m)(l){n:Nd}(h:n.k=28):eP item m l n=(kf item true m l n.ks,l):=by
 cases n with
 |mk k f t w a ks=>simp[Nd.k] at h;subst h;simp only[eP,Nd.ks];rfl
def ZK(item)(m)(l){n:Nd}(h:n.k=6):eP item m l n=((dE item m (.fu false::l) n.ks).1,l):=by
 cases n with
 |mk k f t w a ks=>simp[Nd.k] at h;subst h;simp only[eP,Nd.ks];rfl
def ZL(item)(m)(l){n:Nd}(h:n.k=7):eP item m l n=(fz (dE item m l n.ks).1 (dE item m l n.ks).2 n 4 item,.nm (dE item m l n.ks).1.bs.length::(dE item m l n.ks).2):=by
 cases n with
 |mk k f t w a ks=>simp[Nd.k] at h;subst h;simp only[eP,Nd.ks];rfl
def ZM(item)(m)(l){n:Nd}(h:n.k=8):eP item m l n=dE item (fg m l n true) l n.ks:=by
 cases n with
 |mk k f t w a ks=>simp[Nd.k] at h;subst h;simp only[eP,Nd.ks];rfl
def VR(item)(m)(l){n:Nd}(e:n.k≠23)(c:n.k≠28)(b:n.k≠8)(h7:n.k≠7)(d:n.k≠6):eP item m l n=dE item m l n.ks:=by
 cases n with
 |mk k f t w a ks=>
  simp[Nd.k] at*
  simp[eP,κ e,κ c,κ b,κ h7,κ d,Nd.ks]
def ahQ{b mb g item}{gs}{nd:Nd}(ih:∀x∈nd.ks,A9 b mb g item gs x):A9 b mb g item gs nd:=by
 intro m f r H h p hb d hd hm;obtain⟨n,L⟩:=H;have sE:∃te cs,ab.get ⟨n,L⟩ b=some (.c te cs):=by obtain⟨tb,hb⟩:=h.hb;exact⟨_,_,hb⟩
 have iS:∃te cs,ab.get ⟨n,L⟩ mb=some (.c te cs):=by obtain⟨tm,_,_,_,hb,_⟩:=h.hm;exact⟨_,_,hb⟩
 have nb:b<n:=by obtain⟨_,_,hb⟩:=sE;exact(ai.1 hb).1
 have nm:mb<n:=by obtain⟨_,_,hb⟩:=iS;exact(ai.1 hb).1
 have B:dL b mb g m item (f::r) gs ⟨n+1+1,(n+1,.z (aB nd))::(n,.z [.ptr b 0])::L⟩:=(h.push (.z [.ptr b 0])).push (.z (aB nd));have k2:Kp b mb ⟨n,L⟩ ⟨n+1+1,(n+1,.z (aB nd))::(n,.z [.ptr b 0])::L⟩:=(Kp.push (b:=b) (mb:=mb) ⟨n,L⟩ (.z [.ptr b 0])).trans (Kp.push _ (.z (aB nd)));have Z:ab.get ⟨n+1+1,(n+1,.z (aB nd))::(n,.z [.ptr b 0])::L⟩ n=some (.z [.ptr b 0]):=ai.2 ⟨aa,by rw[bo,bM,bo,μ rfl]⟩;have gE:ab.get ⟨n+1+1,(n+1,.z (aB nd))::(n,.z [.ptr b 0])::L⟩ (n+1)=some (.z (aB nd)):=ai.2 ⟨aa,by rw[bo,μ rfl]⟩;have K:=bf (n<n+1+1);have J:=bf (n+1<n+1+1);have G:=dJ (n+1=n)
 have hdk:eS nd.ks+1=db nd:=by
  cases nd with
  |mk k f t w a ks=>rw[s9];rfl
 have zt:fl nd.ks<=900000000000000000/\nd.ks.length<=900000000000000000:=by
  cases nd with
  |mk k f t w a ks=>rw[ew] at hm;simp[Nd.ks];omega
 have D:((nd.k:Int)==6)=decide (nd.k=6):=dF nd.k 6;have F:((nd.k:Int)==7)=decide (nd.k=7):=dF nd.k 7;have I:((nd.k:Int)==8)=decide (nd.k=8):=dF nd.k 8;have l:((nd.k:Int)==23)=decide (nd.k=23):=dF nd.k 23;have v:((nd.k:Int)==28)=decide (nd.k=28):=dF nd.k 28;suffices hh:∃q,run bA 149 [.ptr b 0,aw nd] ⟨n,L⟩=some q/\∃H',q=(.tup [],H')/\Out b mb g item gs (eP item m (bq (f::r) gs) nd) f r ⟨n,L⟩ H' by obtain⟨_,hr,H',rfl,B⟩:=hh;exact⟨H',hr,B⟩
 obtain⟨A,hA,q1,q2,q3,q4,q5⟩:∃A,A=Sv.toArray/\behind A A.size 9 0=true/\behind A A.size 9 1=true/\behind A A.size 9 4=true/\behind A A.size 9 7=true/\behind A A.size 9 8=true:=⟨_,rfl,af,af,af,af,af⟩;have hR:∀α H,aN bA (run bA) aL (.region 7 Sv.toArray true) α H=an (eY bA (run bA) A 0 [_,_,_,_,_,_,_,_,_,_] [] [] α H) λr=>some (.normal,r.1,r.2):=λα H=>by rw[nG _ _ rfl rfl,hA];exact rfl
 refine fM (c:=.seq _ (.seq _ (.block 0 (.seq _ (.cond _ _ (.seq _ (.cond _ (.seq _ (.region 7 Sv.toArray true)) _))))))) rfl rfl func149 rfl (by rw[ntmps149];simp) ?_;by_cases X:nd.k=6
 ·rw[π X] at D;rw[ZK item m _ X] at d⊢
  have TD:Su b mb g m (dE item m (.fu false::bq (f::r) gs) nd.ks).1 item (f::r) gs false (.fn (.func 189) [] [.ptr n 0,.ptr (n+1) 0]) ⟨n+1+1,(n+1,.z (aB nd))::(n,.z [.ptr b 0])::L⟩:=by
   intro aX mp H1 kC zD;have O:=zD.2 n none [.ptr b 0] aa aa Z;have P:=zD.2 (n+1) none (aB nd) aa aa gE;have GX:bq (⟨aX,mp,false,[]⟩::f::r) gs=.fu false::bq (f::r) gs:=by simp[bq,zQ]
   obtain⟨H2,bP,s,W,R,U,i4,i5⟩:=Jv ih kC (p.frame aX mp false) hb (by rw[GX];exact d) aP hm;rw[GX] at W R U i4;refine⟨H2,s++[],?_,W,i5,R.tail,U⟩;rw[Wy rfl rfl];exact atD O P bP
  obtain⟨H3,hw,W,i5,R,U⟩:=XY B TD;simp only[go_sem,seval,K,J,G,D,rJ,hw,results149];exact⟨_,rfl,_,rfl,[],W,R,U,rfl,k2.trans i5⟩
 rw[ξ X] at D;by_cases h7:nd.k=7
 ·rw[π h7] at F;rw[ZL item m _ h7] at d⊢;obtain⟨⟨M,N⟩,y,s,j,E,u,j4,e⟩:=Jv ih B p hb (d.le (sR _ _ _ _ _)) aa hm;rw[j4] at d⊢;generalize(dE item m (bq (f::r) gs) nd.ks).1=m1 at d j E u⊢;have C:lg m1:=d.le (sR _ _ _ _ _);have ha:At g (ext f s).mp (ext f s).dh (ext f s::r) gs (ext (ext f s) [m1.bs.length]::r) gs m1.bs.length:=.inr ⟨ext f s,r,rfl,rfl,rfl,rfl,rfl⟩;obtain⟨H4,bO,l1,l5⟩:=Ju j ha C.1 (C.bad u) nd 4;have Y:run bA 102 [.ptr b 0,.map f.mp,aw nd,.i 4] ⟨M,N⟩=some (.tup [],H4):=bO;have l2:gW (fz m1 (bq (ext f s::r) gs) nd 4 item).bs (ext (ext f s) [m1.bs.length]::r) gs:=E.bind j (x:=⟨nd.a,4,nd.w,item⟩) (by show 3<=4;omega);obtain⟨tb,kI⟩:=j.hb;obtain⟨⟨tf,hf⟩,_,_⟩:=j.ch;simp[ei] at kI;have Sw:=e.2 n none _ aa aa Z;have Gb:=e.2 (n+1) none _ aa aa gE;obtain⟨zb,gb⟩:=ai.1 kI;obtain⟨zf,gf⟩:=ai.1 hf;obtain⟨z0,O⟩:=ai.1 Sw;obtain⟨z1,P⟩:=ai.1 Gb;have cb:=aC gb;have cf:=aC gf;have c0:=aC O;have c1:=aC P;have yf:=ο zf;have w0:=ο z0;have w1:=ο z1;have Q:(ext f s).aX=f.aX:=rfl;have a':(ext f s).mp=f.mp:=rfl;rw[Q] at cb cf yf;rw[a'] at cf;simp only[go_sem,seval,K,J,G,D,F,rJ,y,hR,q1,q2,q3,q4,q5,aEO,cb,cf,c0,c1,ο zb,yf,w0,w1,Y,results149];refine⟨_,rfl,_,rfl,[m1.bs.length]++s,?_,?_,E9 u (bq (ext f s::r) gs) nd 4 item,?_,k2.trans (e.trans l5)⟩
  ·rw[<-IY];exact l1
  ·rw[<-IY];exact l2
  ·rw[<-IY,abw]
 rw[ξ h7] at F;by_cases T:nd.k=8
 ·rw[π T] at I;rw[ZM item m _ T] at d⊢;have C:lg m:=d.le ((B' m (bq (f::r) gs) nd true).trans (yD _ _ _ _));obtain⟨⟨M,N⟩,y,j,e⟩:=Wv B p C.2 (C.bad hb) aP nd true;have jX:(fg m (bq (f::r) gs) nd true).bs=m.bs:=by rw[Nl p]
  have E:gW (fg m (bq (f::r) gs) nd true).bs (f::r) gs:=by rw[jX];exact p
  have u:=Nn hb (bq (f::r) gs) nd true;obtain⟨H4,bO,hO⟩:=Jv ih j E u d aa hm;have Sw:=e.2 n none _ aa aa Z;have Gb:=e.2 (n+1) none _ aa aa gE;obtain⟨z0,O⟩:=ai.1 Sw;obtain⟨z1,P⟩:=ai.1 Gb;have c0:=aC O;have c1:=aC P;have w0:=ο z0;have w1:=ο z1;simp only[go_sem,seval,K,J,G,D,F,I,rJ,y,c0,c1,w0,w1,bO,results149];exact⟨_,rfl,_,rfl,Out.trans (s:=[]) (k2.trans e) hO⟩
 rw[ξ T] at I;by_cases V:nd.k=23
 ·rw[π V] at l;rw[X0 item m _ V] at d⊢;have C:lg m:=d.le (B' m (bq (f::r) gs) nd false);obtain⟨⟨M,N⟩,y,j,e⟩:=Wv B p C.2 (C.bad hb) aP nd false;have jX:(fg m (bq (f::r) gs) nd false).bs=m.bs:=by rw[Nl p]
  have E:gW (fg m (bq (f::r) gs) nd false).bs (f::r) gs:=by rw[jX];exact p
  have u:=Nn hb (bq (f::r) gs) nd false;simp only[go_sem,seval,K,J,G,D,F,I,l,rJ,y,results149];exact⟨_,rfl,_,rfl,[],j,E,u,rfl,k2.trans e⟩
 rw[ξ V] at l;by_cases S:nd.k=28
 ·rw[π S] at v;rw[X1 item m _ S] at d⊢;obtain⟨⟨M,N⟩,y,j,E,u,e⟩:=XZ (lam:=true) (o:=if nd.ks.isEmpty then .nil else .ro) ih B p hb d aP zt.1 zt.2;simp only[go_sem,seval,K,J,G,D,F,I,l,v,rJ,y,results149];exact⟨_,rfl,_,rfl,[],j,E,u,rfl,k2.trans e⟩
 rw[ξ S] at v;rw[VR item m _ V S T h7 X] at d⊢;obtain⟨⟨M,N⟩,y,hO⟩:=Jv ih B p hb d aa hm;simp only[go_sem,seval,K,J,G,D,F,I,l,v,rJ,y,results149];exact⟨_,rfl,_,rfl,Out.trans (s:=[]) k2 hO⟩
def X2(b mb g item)(gs):∀n:Nd,A9 b mb g item gs n
 | .mk k f t w a ks=>ahQ λx c=>X2 b mb g item gs x
 termination_by n=>SizeOf.sizeOf n
 decreasing_by
  have:=List.sizeOf_lt_of_mem c;simp[Nd.ks] at this;simp[Nd.mk.sizeOf_spec];omega
def dL.item{b mb g}{m}{item j}{fs}{gs}{H:ab}{tb}{x}(h:dL b mb g m item fs gs H)(hb:H.get b=some (.cells tb [.ptr mb 0,ei fs,.map g,x])):dL b mb g m j fs gs (H.set b (.cells tb [.ptr mb 0,ei fs,.map g,.i j])):=by
 obtain⟨tm,o1,o2,bv,v,p,u,t⟩:=h.hm;have a:∀i y,i≠b->H.get i=some y->(H.set b (.cells tb [.ptr mb 0,ei fs,.map g,.i j])).get i=some y:=λi y hi f=>by rw[ab.eE,κ (λe=>hi e.symm)];exact f
 have l:∀{i n et},H.get i=some (.bQ n et)->i≠b:=λ{i n et} hi e=>by rw[e,hb] at hi;cases hi
 have nm:∀{i es c},H.get i=some (.map es c)->i≠b:=λ{i es c} hi e=>by rw[e,hb] at hi;cases hi
 refine⟨⟨tb,by rw[ab.eE,μ rfl,hb];rfl⟩,⟨tm,o1,o2,bv,a _ _ (λe=>h.bm e.symm) v,p.cj λj n d=>a _ _ (l d) d,u.cj λj n d=>a _ _ (l d) d,yr t λi n et s cs hi=>a _ _ (by rintro rfl;rw[hb] at hi;cases hi) hi⟩,?_,?_,h.nd,h.fb,h.bm⟩
 ·obtain⟨o,c,k,q,h3⟩:=h.hg;exact⟨o,c,a _ _ (nm k) k,q,h3⟩
 ·refine h.ch.cj (λy f x w hi=>a _ _ (h.fb y f).1 hi) (λy f x w hi=> ?_);obtain⟨o,c,r,_⟩:=h.ch.at f;exact a _ _ (nm r) hi
def Kp.item{b mb}{H:ab}(x:bB):Kp b mb H (H.set b x):=⟨ν _,λi te cs a _ c=>by
 rw[ab.eE,κ (λe=>a e.symm)];exact c⟩
def gW.ad3{b mb g}{m:Mp}{item}{gs}{H}(h:gW m.bs [] gs)(c:dL b mb g m item [] gs H){x:Bi}(a:x.k<3):gW (m.bs++[x]) [] (m.bs.length::gs):=by
 obtain⟨_,_,_,_,d⟩:=c.hg;refine⟨λi hi=> ?_,λf hf=>by cases hf⟩;rcases Υ.1 hi with rfl|hi
 ·rw[Wx];exact a
 ·rw[HX (d i hi)];exact h.1 i hi
def AG:∀i m l ks,Le m (eh i m l ks).1
 |i,m,l,[]=>Le.refl m
 |i,m,l,n::r=>by
  simp[eh];split
  ·exact(sR m l n 1 i).trans (AG _ _ _ r)
  ·split
   ·exact(sR m l n 2 i).trans (AG _ _ _ r)
   ·exact AG _ _ _ r
def CF(l):∀i m ks,Le m (hC l i m ks)
 |i,m,[]=>Le.refl m
 |i,m,n::r=>by
  simp[hC];split
  ·exact(Ww i false m l n.ks).trans (CF l _ _ r)
  ·exact CF l _ _ r
noncomputable def KC:=f68.c.r.r.r.l.r.b.b
noncomputable def KD:=f68.c.r.r.r.r.l.r.b.b
def IZ{b mb g}{ks:List Nd}{o}{p3}(Y:ks.length<=900000000000000000):∀rest i m E gs H α,ks.drop i=rest->dL b mb g m E [] gs H->gW m.bs [] gs->Bw m->lg (eh i m (bq [] gs) rest).1->
  α 4=.ptr b 0->α 13=.vec o (br ks)->α 14=.i ks.length->α 15=.i i->α 1=p3->α 2=.ptr 1 0->α 3=.ptr mb 0->
  aF (aL (aT bA KC) α H) λe p H'=>e=.exit 0/\p 4=.ptr b 0/\p 1=p3/\p 2=.ptr 1 0/\p 3=.ptr mb 0/\∃d l,dL b mb g (eh i m (bq [] gs) rest).1 l [] d H'/\gW (eh i m (bq [] gs) rest).1.bs [] d/\Bw (eh i m (bq [] gs) rest).1/\(eh i m (bq [] gs) rest).2=bq [] d/\Kp b mb H H'
 |[],i,m,E,gs,H,α,q,h,y,hb,f,a4,cq,eJ,K,a1,a2,a3=>by
  have hi:ks.length<=i:=aED.1 q;have I:KC=.seq _ _:=rfl;have F:=bU ((i:Int)<(ks.length:Int));rw[aJ,I];simp only[go_sem,seval,eJ,K,F];refine⟨aI,?_,?_,?_,?_,gs,E,h,y,hb,rfl,Kp.refl _ _ _⟩;all_goals simp[go_sem,a4,a1,a2,a3]
 |x::rest,i,m,E,gs,H,α,q,h,y,hb,f,a4,cq,eJ,K,a1,a2,a3=>by
  have hi:i<ks.length:=by
   by_cases hh:i<ks.length
   ·exact hh
   ·rw[aEk aa] at q;cases q
  have oS:ks[i]? =some x:=by have:=Μ hi;rw[q] at this;rw[Ν hi];exact Ι some (aEJ this).1.symm
  have V:ks.drop (i+1)=rest:=by have:=Μ hi;rw[q] at this;exact(aEJ this).2.symm
  obtain⟨n,L⟩:=H;obtain⟨tb,kI⟩:=h.hb;obtain⟨zb,r⟩:=ai.1 kI;have k_:ab.get ⟨n+1,(n,.k 71 (aB x))::L⟩ b=some (.cells tb [.ptr mb 0,ei [],.map g,.i E]):=ai.2 ⟨aa,by rw[bo,bM];exact r⟩;have B:=dL.item (j:=i) (H:=⟨n+1,(n,.k 71 (aB x))::L⟩) (h.push (.k 71 (aB x))) k_;have e2:ab.set ⟨n+1,(n,.k 71 (aB x))::L⟩ b (.cells tb [.ptr mb 0,ei [],.map g,.i i])=⟨n+1,(n,.k 71 (aB x))::aH L b (.cells tb [.ptr mb 0,ei [],.map g,.i i])⟩:=by simp only[ab.set,tW];rw[bM]
  have k2:Kp b mb ⟨n,L⟩ ⟨n+1,(n,.k 71 (aB x))::aH L b (.cells tb [.ptr mb 0,ei [],.map g,.i i])⟩:=by rw[<-e2];exact(Kp.push (b:=b) (mb:=mb) ⟨n,L⟩ (.k 71 (aB x))).trans (Kp.item _)
  rw[e2] at B;have cb:=aC r;simp[ei] at cb r B k2;have I:KC=.seq _ _:=rfl;have F:=bH ((i:Int)<(ks.length:Int));have x1:=kD o oS;have ym:=bf (n<n+1);have S:=bf (b<n+1);have R:=dJ (n=b);have W:=o8 (n:=i) aa;have s:((x.k:Int)==2)=decide (x.k=2):=dF x.k 2;have M:((x.k:Int)==3)=decide (x.k=3):=dF x.k 3;have tL:∀k,bq [] (k::gs)=.nm k::bq [] gs:=λk=>rfl;by_cases J:x.k=2
  ·rw[π J] at s;have c:eh i m (bq [] gs) (x::rest)=eh (i+1) (fz m (bq [] gs) x 1 i) (bq [] (m.bs.length::gs)) rest:=by rw[tL];simp[eh,J]
   rw[c] at f⊢;have D:lg m:=f.le ((sR m (bq [] gs) x 1 i).trans (AG _ _ _ _));have Z:At g g gs [] gs [] (m.bs.length::gs) m.bs.length:=.inl ⟨rfl,rfl,rfl,rfl,rfl⟩;obtain⟨v,T,P,O⟩:=Ju B Z D.1 (D.bad hb) x 1;have X:run bA 102 [.ptr b 0,.map g,aw x,.i 1] ⟨n+1,(n,.k 71 (aB x))::aH L b (.cells tb [.ptr mb 0,.val (.pointer none),.map g,.i i])⟩=some (.tup [],v):=T;have U:gW (fz m (bq [] gs) x 1 i).bs [] (m.bs.length::gs):=y.ad3 h (x:=⟨x.a,1,x.w,i⟩) (by show 1<3;omega);have Q:=E9 hb (bq [] gs) x 1 i;rw[aJ,I];simp only[go_sem,seval,a4,cq,eJ,K,F,x1,ym,S,R,cb,r,s,W,fV,X];refine aW (IZ (o:=o) (p3:=p3) Y rest (i+1) _ i (m.bs.length::gs) v _ V P U Q f ?_ ?_ ?_ ?_ ?_ ?_ ?_) ?_
   case refine_8=>
    rintro e p H' ⟨rfl,C,b1,b2,t,d,l,l1,G,z,A,u⟩;exact⟨rfl,C,b1,b2,t,d,l,l1,G,z,A,k2.trans (O.trans u)⟩
   all_goals simp[go_sem,a4,cq,eJ,a1,a2,a3]
  ·rw[ξ J] at s;by_cases N:x.k=3
   ·rw[π N] at M;have c:eh i m (bq [] gs) (x::rest)=eh (i+1) (fz m (bq [] gs) x 2 i) (bq [] (m.bs.length::gs)) rest:=by rw[tL];simp[eh];rw[κ J,μ N]
    rw[c] at f⊢;have D:lg m:=f.le ((sR m (bq [] gs) x 2 i).trans (AG _ _ _ _));have Z:At g g gs [] gs [] (m.bs.length::gs) m.bs.length:=.inl ⟨rfl,rfl,rfl,rfl,rfl⟩;obtain⟨v,T,P,O⟩:=Ju B Z D.1 (D.bad hb) x 2;have X:run bA 102 [.ptr b 0,.map g,aw x,.i 2] ⟨n+1,(n,.k 71 (aB x))::aH L b (.cells tb [.ptr mb 0,.val (.pointer none),.map g,.i i])⟩=some (.tup [],v):=T;have U:gW (fz m (bq [] gs) x 2 i).bs [] (m.bs.length::gs):=y.ad3 h (x:=⟨x.a,2,x.w,i⟩) (by show 2<3;omega);have Q:=E9 hb (bq [] gs) x 2 i;rw[aJ,I];simp only[go_sem,seval,a4,cq,eJ,K,F,x1,ym,S,R,cb,r,s,M,W,fV,X];refine aW (IZ (o:=o) (p3:=p3) Y rest (i+1) _ i (m.bs.length::gs) v _ V P U Q f ?_ ?_ ?_ ?_ ?_ ?_ ?_) ?_
    case refine_8=>
     rintro e p H' ⟨rfl,C,b1,b2,t,d,l,l1,G,z,A,u⟩;exact⟨rfl,C,b1,b2,t,d,l,l1,G,z,A,k2.trans (O.trans u)⟩
    all_goals simp[go_sem,a4,cq,eJ,a1,a2,a3]
   ·rw[ξ N] at M;have c:eh i m (bq [] gs) (x::rest)=eh (i+1) m (bq [] gs) rest:=by simp[eh];rw[κ J,κ N]
    rw[c] at f⊢;rw[aJ,I];simp only[go_sem,seval,a4,cq,eJ,K,F,x1,ym,S,R,cb,r,s,M,W];refine aW (IZ (o:=o) (p3:=p3) Y rest (i+1) _ i gs _ _ V B y hb f ?_ ?_ ?_ ?_ ?_ ?_ ?_) ?_
    case refine_8=>
     rintro e p H' ⟨rfl,C,b1,b2,t,d,l,l1,G,z,A,u⟩;exact⟨rfl,C,b1,b2,t,d,l,l1,G,z,A,k2.trans u⟩
    all_goals simp[go_sem,a4,cq,eJ,a1,a2,a3]
def Ph{b mb g}{gs}{ks:List Nd}{o}{p1}(S:ks.length<=900000000000000000)(I:∀x∈ks,db x<=900000/\mx x<=900000000000000000):∀rest i m s H α,ks.drop i=rest->dL b mb g m s [] gs H->gW m.bs [] gs->Bw m->lg (hC (bq [] gs) i m rest)->
  α 4=.ptr b 0->α 46=.vec o (br ks)->α 47=.i ks.length->α 48=.i i->α 1=p1->α 2=.ptr 1 0->α 3=.ptr mb 0->
  aF (aL (aT bA KD) α H) λe r H'=>e=.exit 3/\r 1=p1/\r 2=.ptr 1 0/\r 3=.ptr mb 0/\∃p,dL b mb g (hC (bq [] gs) i m rest) p [] gs H'/\gW (hC (bq [] gs) i m rest).bs [] gs/\Bw (hC (bq [] gs) i m rest)/\Kp b mb H H'
 |[],i,m,s,H,α,d,h,u,hb,l,a4,cq,eJ,D,a1,a2,a3=>by
  have hi:ks.length<=i:=aED.1 d;have B:KD=.seq _ _:=rfl;have A:=bU ((i:Int)<(ks.length:Int));rw[aJ,B];simp only[go_sem,seval,eJ,D,A];refine⟨aI,?_,?_,?_,s,h,u,hb,Kp.refl _ _ _⟩;all_goals simp[go_sem,a1,a2,a3]
 |x::rest,i,m,s,H,α,d,h,u,hb,l,a4,cq,eJ,D,a1,a2,a3=>by
  have hi:i<ks.length:=by
   by_cases hh:i<ks.length
   ·exact hh
   ·rw[aEk aa] at d;cases d
  have R:ks[i]? =some x:=by have:=Μ hi;rw[d] at this;rw[Ν hi];exact Ι some (aEJ this).1.symm
  have O:ks.drop (i+1)=rest:=by have:=Μ hi;rw[d] at this;exact(aEJ this).2.symm
  obtain⟨X,Y⟩:=I x (Δ R);obtain⟨n,L⟩:=H;obtain⟨tb,kI⟩:=h.hb;obtain⟨zb,q⟩:=ai.1 kI;have k_:ab.get ⟨n+1,(n,.k 71 (aB x))::L⟩ b=some (.cells tb [.ptr mb 0,ei [],.map g,.i s]):=ai.2 ⟨aa,by rw[bo,bM];exact q⟩;have z:=dL.item (j:=i) (H:=⟨n+1,(n,.k 71 (aB x))::L⟩) (h.push (.k 71 (aB x))) k_;have P:ab.set ⟨n+1,(n,.k 71 (aB x))::L⟩ b (.cells tb [.ptr mb 0,ei [],.map g,.i i])=⟨n+1,(n,.k 71 (aB x))::aH L b (.cells tb [.ptr mb 0,ei [],.map g,.i i])⟩:=by simp only[ab.set,tW];rw[bM]
  have k2:Kp b mb ⟨n,L⟩ ⟨n+1,(n,.k 71 (aB x))::aH L b (.cells tb [.ptr mb 0,ei [],.map g,.i i])⟩:=by rw[<-P];exact(Kp.push (b:=b) (mb:=mb) ⟨n,L⟩ (.k 71 (aB x))).trans (Kp.item _)
  rw[P] at z;have cb:=aC q;simp[ei] at cb q z k2;have B:KD=.seq _ _:=rfl;have A:=bH ((i:Int)<(ks.length:Int));have U:=kD o R;have T:=bf (n<n+1);have N:=bf (b<n+1);have K:=dJ (n=b);have Q:=o8 (n:=i) aa;have v:((x.k:Int)==3)=decide (x.k=3):=dF x.k 3;by_cases C:x.k=3
  ·rw[π C] at v;have c:hC (bq [] gs) i m (x::rest)=hC (bq [] gs) (i+1) (kf i false m (bq [] gs) x.ks) rest:=by simp[hC];rw[μ C]
   rw[c] at l⊢;have cD:lg (kf i false m (bq [] gs) x.ks):=l.le (CF _ _ _ _)
   have M:fl x.ks<=900000000000000000/\x.ks.length<=900000000000000000/\eS x.ks<=900000:=by
    cases x with
    |mk k f t w a D4=>rw[ew] at Y;rw[s9] at X;simp[Nd.ks];omega
   obtain⟨H3,bP,W,j2,Z,V⟩:=XZ (b:=b) (mb:=mb) (g:=g) (item:=i) (gs:=gs) (ks:=x.ks) (lam:=false) (o:=if x.ks.isEmpty then .nil else .ro) (λy _=>X2 b mb g i gs y) z u hb cD aP M.1 M.2.1;rw[aJ,B];simp only[go_sem,seval,a4,cq,eJ,D,A,U,T,N,K,cb,q,v,Q,bP];refine aW (Ph (o:=o) (p1:=p1) S I rest (i+1) _ i H3 _ O W j2 Z l ?_ ?_ ?_ ?_ ?_ ?_ ?_) ?_
   case refine_8=>
    rintro e r H' ⟨rfl,b1,b2,E,p,l1,J,G,F⟩;exact⟨rfl,b1,b2,E,p,l1,J,G,k2.trans (V.trans F)⟩
   all_goals simp[go_sem,a4,cq,eJ,a1,a2,a3]
  ·rw[ξ C] at v;have c:hC (bq [] gs) i m (x::rest)=hC (bq [] gs) (i+1) m rest:=by simp[hC];rw[κ C]
   rw[c] at l⊢;rw[aJ,B];simp only[go_sem,seval,a4,cq,eJ,D,A,U,T,N,K,cb,q,v,Q];refine aW (Ph (o:=o) (p1:=p1) S I rest (i+1) _ i _ _ O z u hb l ?_ ?_ ?_ ?_ ?_ ?_ ?_) ?_
   case refine_8=>
    rintro e r H' ⟨rfl,b1,b2,E,p,l1,J,G,F⟩;exact⟨rfl,b1,b2,E,p,l1,J,G,k2.trans F⟩
   all_goals simp[go_sem,a4,cq,eJ,a1,a2,a3]
def Kr(id:Nat)(H H':ab):Prop:=H.next<=H'.next/\∀i x,i≠id->H.get i=some x->H'.get i=some x
def Kr.refl(id)(H:ab):Kr id H H:=⟨ν _,λ_ _ _ h=>h⟩
def Kr.trans{id}{H H1 H2:ab}(h:Kr id H H1)(g:Kr id H1 H2):Kr id H H2:=⟨atB h.1 g.1,λi x hi a=>g.2 i x hi (h.2 i x hi a)⟩
def Kr.push{id}(H:ab)(x):Kr id H (H.push x):=⟨aEg _,λi y _ hi=>by
 have a:i<H.next:=by
  unfold ab.get at hi;split at hi
  ·assumption
  ·cases hi
 obtain⟨n,L⟩:=H;obtain⟨_,q⟩:=ai.1 hi
 exact ai.2 ⟨aGN a,by rw[bo,κ (by intro e;exact absurd a (by rw[<-e];exact aEu _))];exact q⟩⟩
def Kr.set{id}(H:ab)(x):Kr id H (H.set id x):=⟨ν _,λi y hi a=>by rw[ab.eE,κ (λe=>hi e.symm)];exact a⟩
def Row(H:ab)(id n:Nat):Prop:=∃l:List (Nat×Nat),l.length=n/\H.get id=some (.row n 198 2 (dT l))
def Ol(p)(l:List (Nat×Nat)):dT (p::l)=ny p++dT l:=rfl
def Om:∀l i,(dT l).drop (2*i)=dT (l.drop i)
 |l,0=>by simp
 |[],i+1=>by simp[dT]
 |p::l,i+1=>by rw[Ol,show 2*(i+1)=2*i+1+1 by omega];simpa[ny] using Om l i
def X3:∀l i,(dT l).take (2*i)=dT (l.take i)
 |l,0=>by simp[dT]
 |[],i+1=>by simp[dT]
 |p::l,i+1=>by rw[Ol,show 2*(i+1)=2*i+1+1 by omega];simpa[ny,Ol] using X3 l i
def rA{l}{i}{p}(h:l[i]? =some p):iP prog 198 (dT l) (2*i)=some (.agg [.i p.1,.i p.2]):=by
 have hi:i<l.length:=by
  by_cases b:i<l.length
  ·exact b
  ·rw[aEh aa] at h;cases h
 have a:l.drop i=p::l.drop (i+1):=by rw[Μ hi];rw[Ν hi] at h;cases h;rfl
 rw[ZC,μ (by rw[ud];omega),Om,a];rfl
def zR{l:List (Nat×Nat)}{i}(h:i<l.length)(a c:Nat):eg (dT l) (2*i) [.i a,.i c]=dT (l.set i (a,c)):=by unfold eg;rw[show 2*i+[AV.i a,AV.i c].length=2*(i+1) by simp;omega,X3,Om];rw[aGc,μ h];unfold dT;rw[aGA,agX];simp[ny]
def rB{id n i}(h:i<n):dW prog 74 (.sl id 2 0 n) (.i i)=some (.ptr id (2*i)):=by simp only[dW,Ft,CB];rw[μ ⟨aa,aa⟩];rw[μ ⟨trivial,aA⟩,aE5,aEF,aGg]
def Ap(n)(et)(s)(c cs):Da (some (.row n et s c)) cs=.row n et s cs:=(rfl)
def vg{l}{i n s}{et}{cs}(h:cg l i=some (.row n et s cs)):eF l i=some cs:=by simp[eF,h]
def Ew{l}{i n s}{et}{cs ds}(h:cg l i=some (.row n et s cs)):eF (aH l i (.row n et s ds)) i=some ds:=by simp[eF,aR,h]
def aj5:=gI ej 105 rfl rfl
def aj6:=gI ej 150 rfl rfl
def aj7:=gI ej 192 rfl rfl
def aj8:=gI ej 193 rfl rfl
def aj9:=gI ej 226 rfl rfl
def aka:=gI ej 246 rfl rfl
attribute [go_sem] aj5 aj6 aj7 aj8 aj9 aka
def aB2(x):aK prog (run ej) 65 [.i x]=some (.bool false):=by refine HR (v:=.bool false) rfl rfl func65 rfl (by rw[ntmps65];simp) (bE:=[.i x]) rfl rfl ?_ rfl rfl;simp[go_sem,results65,bne_self_eq_false]
def vO(a b:Nat):Int:=if a<b then-1 else if b<a then 1 else 0
def Iu(x)(H):dD ej (run ej) (.fn (.func 65) [] []) [.i x] H=some (.bool false,H):=by rw[tS rfl,show ej.P=prog from rfl,aB2];rfl
def aB3(a b:Nat):aK prog (run ej) 34 [.i a,.i b]=some (.i (vO a b)):=by
 refine HR (v:=.i (vO a b)) rfl rfl func34 rfl (by rw[ntmps34];simp) (bE:=[.i a,.i b]) rfl rfl ?_ rfl rfl;unfold vO;by_cases h:a<b
 ·have c:=bH ((a:Int)<(b:Int));rw[μ h];simp only[go_sem,seval,results34,Iu,c]
 ·have c:=bU ((a:Int)<(b:Int));rw[κ h];by_cases e:b<a
  ·have d:=bH ((a:Int)>(b:Int));rw[μ e];simp only[go_sem,seval,results34,Iu,c,d]
  ·have d:=bU ((a:Int)>(b:Int));rw[κ e];simp only[go_sem,seval,results34,Iu,c,d]
def X4(a b:Nat)(H:ab):dD ej (run ej) (.fn (.func 34) [] []) [.i a,.i b] H=some (.i (vO a b),H):=by rw[tS rfl,show ej.P=prog from rfl,aB3];rfl
def akb(p q:Nat×Nat)(n:Nat)(L:List (Nat×bB)):run ej 105 [.agg [.i p.1,.i p.2],.agg [.i q.1,.i q.2]] ⟨n,L⟩=some (.i (vO p.1 q.1),⟨n+1+1,(n+1,.z [.i q.1,.i q.2])::(n,.z [.i p.1,.i p.2])::L⟩):=by
 suffices hh:∃r,run ej 105 [.agg [.i p.1,.i p.2],.agg [.i q.1,.i q.2]] ⟨n,L⟩=some r/\r=(.i (vO p.1 q.1),(⟨n+1+1,(n+1,.z [.i q.1,.i q.2])::(n,.z [.i p.1,.i p.2])::L⟩:ab)) by obtain⟨r,c,rfl⟩:=hh;exact c
 refine fM rfl rfl func105 rfl (by rw[ntmps105];simp) ?_;have a:=bf (n<n+1+1);have d:=bf (n+1<n+1+1);have e:=dJ (n+1=n);have b:∀x y H,eQ (.agg [.i x,.i y]) H=some (.ptr H.next 0,H.push (.z [.i x,.i y])):=λx y H=>by simp[eQ,AV.width,AV.cells]
 simp only[go_sem,seval,b,a,d,e,X4,results105];exact⟨_,rfl,rfl⟩
attribute [go_sem] akb Iu X4
def tA(a b:Nat)(h:a+b<=2000000000000000000):IntKind.i64.wrap ((a:Int)+(b:Int))=((a+b:Nat):Int):=by rw[aEC _ (by omega)];omega
def sn(a b:Nat)(h:b<=a)(ha:a<=2000000000000000000):IntKind.i64.wrap ((a:Int)-(b:Int))=((a-b:Nat):Int):=by rw[aEC _ (by omega)];omega
def eN(a:Nat)(h:a<=2000000000000000000):IntKind.i64.wrap ((a:Int)+1)=((a+1:Nat):Int):=by rw[aEC _ (by omega)];omega
def vP(a:Nat)(h:0<a)(ha:a<=2000000000000000000):IntKind.i64.wrap ((a:Int)-1)=((a-1:Nat):Int):=by rw[aEC _ (by omega)];omega
def ec{a b:Nat}(h:a<b):decide ((a:Int)<(b:Int))=true:=bH _
def dY{a b:Nat}(h:¬a<b):decide ((a:Int)<(b:Int))=false:=bU _
def Row.two{n id k}{L}{l:List (Nat×Nat)}(a:l.length=k)(g:cg L id=some (.row k 198 2 (dT l)))(z:id<n):Row ⟨n,aH L id (.row k 198 2 (dT l))⟩ id k:=⟨l,a,ai.2 ⟨z,by rw[aR,μ rfl,g];rfl⟩⟩
def f_(L)(i)(x y):aH (aH L i x) i y=aH L i y:=by
 induction L with
 |nil=>rfl
 |cons p r ih=>
  obtain⟨k,v⟩:=p;simp[tW];by_cases h:k=i
  ·rw[μ h,μ h,tW,μ h]
  ·rw[κ h,κ h,tW,κ h,ih]
noncomputable def KE:=f246.c.r.b.b
def ZN{id k}{a b m:Nat}{cf:AV}(t:k<=1000000000000000000)(y:a+m<=k)(hb:b+m<=k):∀(d i:Nat) (H:ab) (α:az),i+d=m->Row H id k->
  α 0=.sl id 2 0 k->α 1=.i a->α 2=.i b->α 3=.i m->α 10=.i i->
  aF (aL (aT ej KE) α H) λe A H'=>e=.exit 0/\Row H' id k/\Kr id H H'
 |0,i,H,α,j,h,a0,a1,a2,a3,bD=>by have f:KE=.seq _ _:=rfl;have c:decide ((i:Int)<(m:Int))=false:=dY aa;rw[aJ,f];simp only[go_sem,seval,a3,bD,c];exact⟨aI,h,Kr.refl _ _⟩
 |d+1,i,H,α,j,h,a0,a1,a2,a3,bD=>by
  have f:KE=.seq _ _:=rfl;obtain⟨n,L⟩:=H;obtain⟨l,x,hg⟩:=h;obtain⟨z,g⟩:=ai.1 hg;have c:decide ((i:Int)<(m:Int))=true:=ec aa;obtain⟨p,o⟩:=fo (show a+i<l.length by omega);obtain⟨q,v⟩:=fo (show b+i<l.length by omega);have o2:=zR (l:=l.set (a+i) (q.1,q.2)) (i:=b+i) (by rw[aEy];omega) p.1 p.2;have w:(2*(a+i)+2<=(dT l).length)=True:=ο (by rw[ud];omega);have s:(2*(b+i)+2<=(dT (l.set (a+i) (q.1,q.2))).length)=True:=ο (by rw[ud,aEy];omega);have gs:cg (aH L id (.row k 198 2 (dT (l.set (a+i) (q.1,q.2))))) id=some (.row k 198 2 (dT (l.set (a+i) (q.1,q.2)))):=by rw[aR,μ rfl,g];rfl
  rw[aJ,f];simp only[go_sem,seval,a0,a1,a2,a3,bD,c,(tA a i aa),(tA b i aa),(eN i aa),(rB (id:=id) (show a+i<k by omega)),(rB (id:=id) (show b+i<k by omega)),rA o,rA v,(zR (l:=l) (i:=a+i) aa q.1 q.2),o2,w,s,ο z,vg g,g,Ew (ds:=dT (l.set (a+i) (q.1,q.2))) g,gs,Ap,f_];refine aW (ZN (cf:=cf) t y hb d (i+1) ⟨n,aH L id (.row k 198 2 (dT ((l.set (a+i) (q.1,q.2)).set (b+i) (p.1,p.2))))⟩ _ aa ⟨(l.set (a+i) (q.1,q.2)).set (b+i) (p.1,p.2),by rw[aEy,aEy];exact x,ai.2 ⟨z,by rw[aR,μ rfl,g];rfl⟩⟩ ?_ ?_ ?_ ?_ ?_) ?_
  case refine_6=>
   rintro e A H' ⟨rfl,r,u⟩;exact⟨rfl,r,(Kr.set ⟨n,L⟩ _).trans u⟩
  all_goals simp[go_sem,a0,a1,a2,a3]
def Qc{id k}{H}(h:Row H id k)(f:k<=1000000000000000000)(a b m:Nat)(cf:AV)(e:a+m<=k)(hb:b+m<=k):∃H',run ej 246 [.sl id 2 0 k,.i a,.i b,.i m,cf] H=some (.tup [],H')/\Row H' id k/\Kr id H H':=by
 suffices hh:∃r,run ej 246 [.sl id 2 0 k,.i a,.i b,.i m,cf] H=some r/\∃H',r=(.tup [],H')/\Row H' id k/\Kr id H H' by obtain⟨r,g,H',rfl,q⟩:=hh;exact⟨H',g,q⟩
 refine fM (c:=.seq _ (.block 0 (.loop KE))) rfl rfl func246 rfl (by rw[ntmps246];simp) ?_;simp only[go_sem,seval,];refine bz (dm (ZN (cf:=cf) f e hb m 0 H _ aa h ?_ ?_ ?_ ?_ ?_)) ?_
 case refine_6=>
  rintro _ ⟨ae,H',rfl,r,d⟩;simp only[go_sem,seval,results246];exact⟨_,rfl,_,rfl,r,d⟩
 all_goals simp[go_sem,]
 all_goals rfl
noncomputable def Sx:=f226.c.r.r.l.b.b
def Pj{id k}{a m b}{cf}(f:k<=1000000000000000000)(w:a<=m)(hb:b<=k):∀(d i j:Nat) (H:ab) (α:az),i+j<=d->0<i->0<j->i<=m->m+j<=k->Row H id k->
  α 0=.sl id 2 0 k->α 2=.i m->α 4=cf->α 10=.i i->α 11=.i j->
  aF (aL (aT ej Sx) α H) λe c H'=>e=.exit 0/\Row H' id k/\Kr id H H'/\c 0=.sl id 2 0 k/\c 2=.i m/\c 4=cf/\∃x:Nat,x<=m/\m+x<=k/\c 10=.i x
 |0,i,j,H,α,y,hi,z,v,A,h,a0,a2,a4,bD,bY=>by omega
 |d+1,i,j,H,α,y,hi,z,v,A,h,a0,a2,a4,bD,bY=>by
  have p:Sx=.seq _ _:=rfl;by_cases u:i=j
  ·have g:((i:Int) != (j:Int))=false:=by rw[sf,π u];rfl
   rw[aJ,p];simp only[go_sem,seval,bD,bY,g];refine⟨aI,h,Kr.refl _ _,?_,?_,?_,i,v,aa,?_⟩;all_goals simp[go_sem,a0,a2,a4]
  ·have g:((i:Int) != (j:Int))=true:=by rw[sf,ξ u];rfl
   by_cases qm:j<i
   ·have t:=bH ((i:Int)>(j:Int));have w1:=sn m i aa aa;have s:=sn i j aa aa;obtain⟨H1,o,n,k1⟩:=Qc h f (m-i) m j cf aa aa;rw[aJ,p];simp only[go_sem,seval,a0,a2,a4,bD,bY,g,t,w1,s,o];refine aW (Pj (cf:=cf) f w hb d (i-j) j H1 _ aa aa aa aa aa n ?_ ?_ ?_ ?_ ?_) ?_
    case refine_6=>
     rintro e c H' ⟨rfl,r,l,q⟩;exact⟨rfl,r,k1.trans l,q⟩
    all_goals simp[go_sem,a0,a2,a4,bY]
   ·have t:=bU ((i:Int)>(j:Int));have w1:=sn m i aa aa;have s:=tA m j aa;obtain⟨H1,o,n,k1⟩:=Qc h f (m-i) (m+j-i) i cf aa aa;rw[aJ,p];simp only[go_sem,seval,a0,a2,a4,bD,bY,g,t,w1,s,(sn (m+j) i aa aa),(sn j i aa aa),o];refine aW (Pj (cf:=cf) f w hb d i (j-i) H1 _ aa aa aa aa aa n ?_ ?_ ?_ ?_ ?_) ?_
    case refine_6=>
     rintro e c H' ⟨rfl,r,l,q⟩;exact⟨rfl,r,k1.trans l,q⟩
    all_goals simp[go_sem,a0,a2,a4,bD]
def akc{id k}{H}(h:Row H id k)(e:k<=1000000000000000000)(a m b)(cf)(h1:a<m)(h2:m<b)(hb:b<=k):∃H',run ej 226 [.sl id 2 0 k,.i a,.i m,.i b,cf] H=some (.tup [],H')/\Row H' id k/\Kr id H H':=by
 suffices hh:∃r,run ej 226 [.sl id 2 0 k,.i a,.i m,.i b,cf] H=some r/\∃H',r=(.tup [],H')/\Row H' id k/\Kr id H H' by obtain⟨r,d,H',rfl,q⟩:=hh;exact⟨H',d,q⟩
 refine fM (c:=.seq _ (.seq _ (.seq (.block 0 (.loop Sx)) _))) rfl rfl func226 rfl (by rw[ntmps226];simp) ?_;simp only[go_sem,seval,(sn m a aa aa),(sn b m aa aa)];simp only[bW];refine bz (dm (Pj (a:=a) (b:=b) (cf:=cf) (m:=m) e aa hb b (m-a) (b-m) H _ aa aa aa aa aa h ?_ ?_ ?_ ?_ ?_)) ?_
 case refine_6=>
  rintro _ ⟨ae,H',rfl,r,f,g,b2,l,x,x1,x2,n⟩;obtain⟨H1,d,j,k1⟩:=Qc r e (m-x) m x cf aa aa;simp only[go_sem,seval,g,b2,l,n,(sn m x aa aa),d,results226];exact⟨_,rfl,_,rfl,j,f.trans k1⟩
 all_goals simp[go_sem,]
 all_goals rfl
abbrev jJ:AV:=.fn (.func 105) [] []
noncomputable def KF:=f192.c.r.b.b
noncomputable def KG:=KF.r.l.b.r.b.b
def LN{a b:Nat}(h:b<a):decide ((a:Int)>(b:Int))=true:=bH _
def GY{a b:Nat}(h:¬b<a):decide ((a:Int)>(b:Int))=false:=bU _
def X5{id k a b i}(C:k<=1000000000000000000)(hb:b<=k)(hi:i<b):∀(d j:Nat) (H:ab) (α:az),a+d=j->j<=i->Row H id k->
  α 0=.sl id 2 0 k->α 1=.i a->α 2=.i b->α 3=jJ->α 8=.i i->α 9=.i j->
  aF (aL (aT ej KG) α H) λe f H'=>e=.exit 2/\Row H' id k/\Kr id H H'/\f 0=.sl id 2 0 k/\f 1=.i a/\f 2=.i b/\f 3=jJ/\f 8=.i i
 |0,j,H,α,B,K,h,a0,a1,a2,a3,a8,a9=>by have o:KG=.seq _ _:=rfl;have m:=GY (a:=j) (b:=a) aa;rw[aJ,o];simp only[go_sem,seval,a0,a1,a9,m];refine⟨aI,h,Kr.refl _ _,?_⟩;simp[go_sem,a2,a3,a8]
 |d+1,j,H,α,B,K,h,a0,a1,a2,a3,a8,a9=>by
  have o:KG=.seq _ _:=rfl;obtain⟨n,L⟩:=H;obtain⟨l,u,hg⟩:=h;obtain⟨z,g⟩:=ai.1 hg;have c:=vg g;have w:=ο z;have F:=bf (id<n+1+1);have t:=dJ (n=id);have n1:=dJ (n+1=id);have m:=LN (a:=j) (b:=a) aa;have w1:=vP j aa aa;have y:=rB (id:=id) (show j<k by omega);have v:=rB (id:=id) (show j-1<k by omega);obtain⟨p,G⟩:=fo (show j<l.length by omega);obtain⟨q,D⟩:=fo (show j-1<l.length by omega);have l1:=rA G;have x:=rA D;have o2:=zR (l:=l.set j (q.1,q.2)) (i:=j-1) (by rw[aEy];omega) p.1 p.2;have E:(2*j+2<=(dT l).length)=True:=ο (by rw[ud];omega);have I:(2*(j-1)+2<=(dT (l.set j (q.1,q.2))).length)=True:=ο (by rw[ud,aEy];omega);have gs:cg (aH L id (.row k 198 2 (dT (l.set j (q.1,q.2))))) id=some (.row k 198 2 (dT (l.set j (q.1,q.2)))):=by rw[aR,μ rfl,g];rfl
  have kp:Kr id ⟨n,L⟩ ⟨n+1+1,(n+1,.z [.i q.1,.i q.2])::(n,.z [.i p.1,.i p.2])::L⟩:=(Kr.push ⟨n,L⟩ (.z [.i p.1,.i p.2])).trans (Kr.push ⟨n+1,(n,.z [.i p.1,.i p.2])::L⟩ (.z [.i q.1,.i q.2]));by_cases A:vO p.1 q.1<0
  ·have s:=π A;rw[aJ,o];simp only[go_sem,seval,a0,a1,a3,a9,m,w1,y,v,l1,x,(zR (l:=l) (i:=j) aa q.1 q.2),o2,E,I,w,F,t,n1,c,g,Ew (ds:=dT (l.set j (q.1,q.2))) g,gs,Ap,f_,s,bo];refine aW (X5 (id:=id) (k:=k) (a:=a) (b:=b) C hb hi d (j-1) ⟨n+1+1,(n+1,.z [.i q.1,.i q.2])::(n,.z [.i p.1,.i p.2])::aH L id (.row k 198 2 (dT ((l.set j (q.1,q.2)).set (j-1) (p.1,p.2))))⟩ _ aa aa ⟨(l.set j (q.1,q.2)).set (j-1) (p.1,p.2),by rw[aEy,aEy];exact u,ai.2 ⟨aa,by rw[bo,κ (show ¬n+1=id by omega),bo,κ (show ¬n=id by omega),aR,μ rfl,g];rfl⟩⟩ ?_ ?_ ?_ ?_ ?_ ?_) ?_
   case refine_7=>
    rintro e f H' ⟨rfl,r,J,M⟩;refine⟨rfl,r,kp.trans (Kr.trans ?_ J),M⟩;have:=Kr.set (id:=id) ⟨n+1+1,(n+1,.z [.i q.1,.i q.2])::(n,.z [.i p.1,.i p.2])::L⟩ (.row k 198 2 (dT ((l.set j (q.1,q.2)).set (j-1) (p.1,p.2))));simpa only[ab.set,tW,t,n1,ap1] using this
   all_goals simp[go_sem,a0,a1,a2,a3,a8]
  ·have s:=ξ A;rw[aJ,o];simp only[go_sem,seval,a0,a1,a2,a3,a8,a9,m,w1,y,v,l1,x,w,c,s];refine⟨aI,⟨l,u,ai.2 ⟨aa,by rw[bo,κ (show ¬n+1=id by omega),bo,κ (show ¬n=id by omega)];exact g⟩⟩,kp,?_⟩;simp[go_sem]
def ZO{id k a b}(g:k<=1000000000000000000)(hb:b<=k):∀(d i:Nat) (H:ab) (α:az),b<=i+d->a<=i->i<=k+1->Row H id k->
  α 0=.sl id 2 0 k->α 1=.i a->α 2=.i b->α 3=jJ->α 8=.i i->
  aF (aL (aT ej KF) α H) λe o H'=>e=.exit 0/\Row H' id k/\Kr id H H'
 |d,i,H,α,hd,hi,hik,h,a0,a1,a2,a3,a8=>by
  have j:KF=.seq _ (.seq (.block 1 (.seq _ (.block 2 (.loop KG)))) _):=rfl;by_cases f:i<b
  ·cases d with
   |zero=>omega
   |succ d=>
    have c:=ec f;rw[aJ,j];simp only[go_sem,seval,a2,a8,c];simp[bW];refine bz (dm (X5 (id:=id) (k:=k) (a:=a) (b:=b) g hb f (i-a) i H _ aa aa h ?_ ?_ ?_ ?_ ?_ ?_)) ?_
    case refine_7=>
     rintro _ ⟨o,H1,rfl,r,m,n,b1,b2,p,b8⟩;simp[go_sem,b8,(eN i aa)];refine aW (ZO (a:=a) (b:=b) g hb d (i+1) H1 _ aa aa aa r ?_ ?_ ?_ ?_ ?_) ?_
     case refine_6=>
      rintro e qQ H2 ⟨rfl,l,q⟩;exact⟨rfl,l,m.trans q⟩
     all_goals simp[go_sem,n,b1,b2,p]
    all_goals simp[go_sem,a0,a1,a2,a3,a8]
  ·have c:=dY f;rw[aJ,j];simp only[go_sem,seval,a2,a8,c];exact⟨aI,h,Kr.refl _ _⟩
def acU{id k}{H}(h:Row H id k)(hk:k<=900000000000000000)(a b)(h1:a<=k)(hb:b<=k):∃H',run ej 192 [.sl id 2 0 k,.i a,.i b,jJ] H=some (.tup [],H')/\Row H' id k/\Kr id H H':=by
 suffices hh:∃r,run ej 192 [.sl id 2 0 k,.i a,.i b,jJ] H=some r/\∃H',r=(.tup [],H')/\Row H' id k/\Kr id H H' by obtain⟨r,e,H',rfl,q⟩:=hh;exact⟨H',e,q⟩
 refine fM (c:=.seq _ (.block 0 (.loop KF))) rfl rfl func192 rfl (by rw[ntmps192];simp) ?_;simp only[go_sem,seval,(eN a aa)];refine bz (dm (ZO (a:=a) (b:=b) aa hb b (a+1) H _ aa aa aa h ?_ ?_ ?_ ?_ ?_)) ?_
 case refine_6=>
  rintro _ ⟨ae,H',rfl,r,d⟩;simp only[go_sem,seval,results192];exact⟨_,rfl,_,rfl,r,d⟩
 all_goals simp[go_sem,]
 all_goals rfl
def Row.push{H:ab}{id k}(h:Row H id k)(x):Row (H.push x) id k:=by obtain⟨l,a,hg⟩:=h;obtain⟨n,L⟩:=H;obtain⟨z,g⟩:=ai.1 hg;exact⟨l,a,ai.2 ⟨aGN z,by rw[bo,κ (show ¬n=id by omega)];exact g⟩⟩
def wX{n id k}{L}(h:Row ⟨n,L⟩ id k)(x y):Row ⟨n+1+1,(n+1,x)::(n,y)::L⟩ id k/\Kr id ⟨n,L⟩ ⟨n+1+1,(n+1,x)::(n,y)::L⟩:=⟨(h.push y).push x,(Kr.push ⟨n,L⟩ y).trans (Kr.push ⟨n+1,(n,y)::L⟩ x)⟩
def J5(n:Nat)(h:n<=2000000000000000000):rR prog 3 147 (.i n)=some (.int .u64 n):=by have:rR prog 3 147 (.i n)=some (.int .u64 (IntKind.u64.wrap (n:Int))):=af;rw[this,IntWalk.u64_in _ aa]
def Jw(n:Nat)(h:n<=2000000000000000000):rR prog 147 3 (.int .u64 n)=some (.int .i64 n):=by
 have:rR prog 147 3 (.int .u64 n)=some (.int .i64 (IntKind.i64.wrap (n:Int))):=by kernel_rfl
 rw[this,aEC _ (by omega)]
def J6(n:Nat):fH prog .shr 147 (.int .u64 n) (.int .u64 1)=some (.int .u64 (n/2:Nat)):=by
 have:((n:Int)).fdiv 2=((n/2:Nat):Int):=by rw[Int.fdiv_eq_ediv_of_nonneg _ aa];omega
 simp[fH,pQ,Je,IntKind.bits,this]
noncomputable def Q1:=f193.c.l.r.t.r.r.l.b.b
def NM{id k a b}(C:k<=900000000000000000)(J:a<k)(hb:b<=k):∀d i j H α,j<=i+d->i<=j/\j<=b->Row H id k->
  α 0=.sl id 2 0 k->α 1=.i a->α 4=jJ->α 10=.i i->α 11=.i j->
  aF (aL (aT ej Q1) α H) λe f H'=>e=.exit 0/\Row H' id k/\Kr id H H'/\f 0=.sl id 2 0 k/\f 1=.i a/\f 4=jJ/\∃x:Nat,(i<=x/\x<=j)/\f 10=.i x
 |d,i,j,H,α,hd,hi,h,a0,a1,a4,bD,bY=>by
  have A:Q1=.seq _ _:=rfl;by_cases D:i<j
  ·cases d with
   |zero=>omega
   |succ d=>
    obtain⟨n,L⟩:=H;obtain⟨r2,k2⟩:=wX h (.z []) (.z []);have R:=h;obtain⟨l,hl,hg⟩:=R;obtain⟨z,g⟩:=ai.1 hg;have c:=vg g;have G:=ο z;have o:=ec D;have w1:=tA i j aa;have E:=J5 (i+j) aa;have t:=J6 (i+j);obtain⟨m,hm⟩:∃m,m=(i+j)/2:=⟨_,rfl⟩;rw[<-hm] at t;have I:=Jw m aa;have S:=eN m aa;have M:=rB (id:=id) (show m<k by omega);have F:=rB (id:=id) (show a<k by omega);obtain⟨p,P⟩:=fo (show m<l.length by omega);obtain⟨q,O⟩:=fo (show a<l.length by omega);have l1:=rA P;have K:=rA O;by_cases N:vO p.1 q.1<0
    ·have v:=π N;obtain⟨s,k1⟩:=wX h (.z [.i q.1,.i q.2]) (.z [.i p.1,.i p.2]);rw[aJ,A];simp only[go_sem,seval,a0,a1,a4,bD,bY,o,w1,S,E,t,I,M,F,l1,K,G,c,v];refine aW (NM (a:=a) (b:=b) C J hb d (m+1) j _ _ aa aa s ?_ ?_ ?_ ?_ ?_) ?_
     case refine_6=>
      rintro e f H' ⟨rfl,r,y,B,w,c2,x,Q,u⟩;exact⟨rfl,r,k1.trans y,B,w,c2,x,aa,u⟩
     all_goals simp[go_sem,a0,a1,a4,bY]
    ·have v:=ξ N;obtain⟨s,k1⟩:=wX h (.z [.i q.1,.i q.2]) (.z [.i p.1,.i p.2]);rw[aJ,A];simp only[go_sem,seval,a0,a1,a4,bD,bY,o,w1,E,t,I,M,F,l1,K,G,c,v];refine aW (NM (a:=a) (b:=b) C J hb d i m _ _ aa aa s ?_ ?_ ?_ ?_ ?_) ?_
     case refine_6=>
      rintro e f H' ⟨rfl,r,y,B,w,c2,x,Q,u⟩;exact⟨rfl,r,k1.trans y,B,w,c2,x,aa,u⟩
     all_goals simp[go_sem,a0,a1,a4,bD]
  ·have o:=dY D;rw[aJ,A];simp only[go_sem,seval,bD,bY,o];refine⟨aI,h,Kr.refl _ _,?_,?_,?_,i,aa,?_⟩;all_goals simp[go_sem,a0,a1,a4]
noncomputable def Q2:=f193.c.r.l.r.t.r.r.l.b.b
def NN{id k a mm}(E:k<=900000000000000000)(D:mm<k):∀d i j H α,j<=i+d->i<=j/\j<=mm->Row H id k->
  α 0=.sl id 2 0 k->α 1=.i a->α 2=.i mm->α 4=jJ->α 14=.i i->α 15=.i j->
  aF (aL (aT ej Q2) α H) λe b H'=>e=.exit 4/\Row H' id k/\Kr id H H'/\b 0=.sl id 2 0 k/\b 1=.i a/\b 2=.i mm/\b 4=jJ/\∃x:Nat,(i<=x/\x<=j)/\b 14=.i x
 |d,i,j,H,α,hd,hi,h,a0,a1,a2,a4,eJ,o=>by
  have B:Q2=.seq _ _:=rfl;by_cases F:i<j
  ·cases d with
   |zero=>omega
   |succ d=>
    obtain⟨n,L⟩:=H;obtain⟨r2,k2⟩:=wX h (.z []) (.z []);have S:=h;obtain⟨l,hl,hg⟩:=S;obtain⟨z,g⟩:=ai.1 hg;have c:=vg g;have J:=ο z;have f:=ec F;have w1:=tA i j aa;have G:=J5 (i+j) aa;have t:=J6 (i+j);obtain⟨m,hm⟩:∃m,m=(i+j)/2:=⟨_,rfl⟩;rw[<-hm] at t;have K:=Jw m aa;have T:=eN m aa;have N:=rB (id:=id) (show mm<k by omega);have I:=rB (id:=id) (show m<k by omega);obtain⟨p,Q⟩:=fo (show mm<l.length by omega);obtain⟨q,P⟩:=fo (show m<l.length by omega);have l1:=rA Q;have M:=rA P;by_cases O:vO p.1 q.1<0
    ·have v:=π O;obtain⟨s,k1⟩:=wX h (.z [.i q.1,.i q.2]) (.z [.i p.1,.i p.2]);rw[aJ,B];simp only[go_sem,seval,a0,a2,a4,eJ,o,f,w1,G,t,K,N,I,l1,M,J,c,v,ω];refine aW (NN (a:=a) (mm:=mm) E D d i m _ _ aa aa s ?_ ?_ ?_ ?_ ?_ ?_) ?_
     case refine_7=>
      rintro e b H' ⟨rfl,r,A,C,w,c2,y,x,R,u⟩;exact⟨rfl,r,k1.trans A,C,w,c2,y,x,aa,u⟩
     all_goals simp[go_sem,a0,a1,a2,a4,eJ]
    ·have v:=ξ O;obtain⟨s,k1⟩:=wX h (.z [.i q.1,.i q.2]) (.z [.i p.1,.i p.2]);rw[aJ,B];simp only[go_sem,seval,a0,a2,a4,eJ,o,f,w1,T,G,t,K,N,I,l1,M,J,c,v,χ];refine aW (NN (a:=a) (mm:=mm) E D d (m+1) j _ _ aa aa s ?_ ?_ ?_ ?_ ?_ ?_) ?_
     case refine_7=>
      rintro e b H' ⟨rfl,r,A,C,w,c2,y,x,R,u⟩;exact⟨rfl,r,k1.trans A,C,w,c2,y,x,aa,u⟩
     all_goals simp[go_sem,a0,a1,a2,a4,o]
  ·have f:=dY F;rw[aJ,B];simp only[go_sem,seval,eJ,o,f];refine⟨aI,h,Kr.refl _ _,?_,?_,?_,?_,i,aa,?_⟩;all_goals simp[go_sem,a0,a1,a2,a4]
noncomputable def Q3:=f193.c.r.r.r.r.r.r.r.l.b.b
def HY{id k a mm b md nn pp lo}(O:k<=900000000000000000)(t:pp<=2000000000000000000)(P:pp<lo+k):∀d i j H α,j<=i+d->i<=j/\lo<=i/\j<=pp/\j<=k->Row H id k->
  α 0=.sl id 2 0 k->α 1=.i a->α 2=.i mm->α 3=.i b->α 4=jJ->α 18=.i md->α 19=.i nn->α 22=.i pp->α 20=.i i->α 21=.i j->
  aF (aL (aT ej Q3) α H) λe f H'=>e=.exit 8/\Row H' id k/\Kr id H H'/\f 0=.sl id 2 0 k/\f 1=.i a/\f 2=.i mm/\f 3=.i b/\f 4=jJ/\f 18=.i md/\f 19=.i nn/\f 22=.i pp/\∃x:Nat,(i<=x/\x<=j)/\f 20=.i x
 |d,i,j,H,α,hd,hi,h,a0,a1,a2,a3,a4,mD,K,o,a20,s=>by
  have I:Q3=.seq _ _:=rfl;by_cases Q:i<j
  ·cases d with
   |zero=>omega
   |succ d=>
    obtain⟨n,L⟩:=H;obtain⟨r2,k2⟩:=wX h (.z []) (.z []);have uX:=h;obtain⟨l,hl,hg⟩:=uX;obtain⟨z,g⟩:=ai.1 hg;have c:=vg g;have T:=ο z;have u:=ec Q;have w1:=tA i j aa;have R:=J5 (i+j) aa;have w:=J6 (i+j);obtain⟨m,hm⟩:∃m,m=(i+j)/2:=⟨_,rfl⟩;rw[<-hm] at w;have U:=Jw m aa;have w2:=eN m aa;have N:=sn pp m aa aa;have W:=rB (id:=id) (show(pp-m)<k by omega);have S:=rB (id:=id) (show m<k by omega);obtain⟨p,Z⟩:=fo (show(pp-m)<l.length by omega);obtain⟨q,Y⟩:=fo (show m<l.length by omega);have l1:=rA Z;have V:=rA Y;by_cases X:vO p.1 q.1<0
    ·have B:=π X;obtain⟨v,k1⟩:=wX h (.z [.i q.1,.i q.2]) (.z [.i p.1,.i p.2]);rw[aJ,I];simp only[go_sem,seval,a0,a4,o,a20,s,u,w1,N,R,w,U,W,S,l1,V,T,c,B,ω];refine aW (HY (a:=a) (mm:=mm) (b:=b) (md:=md) (nn:=nn) (pp:=pp) (lo:=lo) O t P d i m _ _ aa aa v ?_ ?_ ?_ ?_ ?_ ?_ ?_ ?_ ?_ ?_) ?_
     case refine_11=>
      rintro e f H' ⟨rfl,r,F,M,C,c2,D,J,E,G,y,x,hx,A⟩;exact⟨rfl,r,k1.trans F,M,C,c2,D,J,E,G,y,x,aa,A⟩
     all_goals simp[go_sem,a0,a1,a2,a3,a4,mD,K,o,a20]
    ·have B:=ξ X;obtain⟨v,k1⟩:=wX h (.z [.i q.1,.i q.2]) (.z [.i p.1,.i p.2]);rw[aJ,I];simp only[go_sem,seval,a0,a4,o,a20,s,u,w1,w2,N,R,w,U,W,S,l1,V,T,c,B,χ];refine aW (HY (a:=a) (mm:=mm) (b:=b) (md:=md) (nn:=nn) (pp:=pp) (lo:=lo) O t P d (m+1) j _ _ aa aa v ?_ ?_ ?_ ?_ ?_ ?_ ?_ ?_ ?_ ?_) ?_
     case refine_11=>
      rintro e f H' ⟨rfl,r,F,M,C,c2,D,J,E,G,y,x,hx,A⟩;exact⟨rfl,r,k1.trans F,M,C,c2,D,J,E,G,y,x,aa,A⟩
     all_goals simp[go_sem,a0,a1,a2,a3,a4,mD,K,o,s]
  ·have u:=dY Q;rw[aJ,I];simp only[go_sem,seval,a20,s,u];refine⟨aI,h,Kr.refl _ _,?_,?_,?_,?_,?_,?_,?_,?_,i,aa,?_⟩;all_goals simp[go_sem,a0,a1,a2,a3,a4,mD,K,o]
noncomputable def Q4:=f193.c.l.r.t.r.r.r.l.r.b.b
def Wz{id k x}(v:k<=900000000000000000)(C:0<x)(f:x<=k):∀d i H α,x<=i+d->i<=k->Row H id k->
  α 0=.sl id 2 0 k->α 10=.i x->α 13=.i i->
  aF (aL (aT ej Q4) α H) λe B H'=>e=.exit 2/\Row H' id k/\Kr id H H'
 |d,i,H,α,hd,hi,h,a0,bD,cq=>by
  have j:Q4=.seq _ _:=rfl;have m:=vP x aa aa;by_cases o:i<x-1
  ·cases d with
   |zero=>omega
   |succ d=>
    obtain⟨n,L⟩:=H;obtain⟨l,A,hg⟩:=h;obtain⟨z,g⟩:=ai.1 hg;have c:=ec (a:=i) (b:=x-1) o;obtain⟨p,t⟩:=fo (show i<l.length by omega);obtain⟨q,w⟩:=fo (show i+1<l.length by omega);have o2:=zR (l:=l.set (i) (q.1,q.2)) (i:=i+1) (by rw[aEy];omega) p.1 p.2;have y:(2*(i)+2<=(dT l).length)=True:=ο (by rw[ud];omega);have s:(2*(i+1)+2<=(dT (l.set (i) (q.1,q.2))).length)=True:=ο (by rw[ud,aEy];omega);have gs:cg (aH L id (.row k 198 2 (dT (l.set (i) (q.1,q.2))))) id=some (.row k 198 2 (dT (l.set (i) (q.1,q.2)))):=by rw[aR,μ rfl,g];rfl
    rw[aJ,j];simp only[go_sem,seval,a0,bD,cq,c,(eN i aa),m,(rB (id:=id) (show i<k by omega)),(rB (id:=id) (show i+1<k by omega)),rA t,rA w,(zR (l:=l) (i:=i) aa q.1 q.2),o2,y,s,ο z,vg g,g,Ew (ds:=dT (l.set (i) (q.1,q.2))) g,gs,Ap,f_];refine aW (Wz (x:=x) (id:=id) (k:=k) v C f d (i+1) ⟨n,aH L id (.row k 198 2 (dT ((l.set (i) (q.1,q.2)).set (i+1) (p.1,p.2))))⟩ _ aa aa ⟨(l.set (i) (q.1,q.2)).set (i+1) (p.1,p.2),by rw[aEy,aEy];exact A,ai.2 ⟨z,by rw[aR,μ rfl,g];rfl⟩⟩ ?_ ?_ ?_) ?_
    case refine_4=>
     rintro e B H' ⟨rfl,r,u⟩;exact⟨rfl,r,(Kr.set ⟨n,L⟩ _).trans u⟩
    all_goals simp[go_sem,a0,bD]
  ·have c:=dY (a:=i) (b:=x-1) o;rw[aJ,j];simp only[go_sem,seval,bD,cq,c,m];exact⟨aI,h,Kr.refl _ _⟩
noncomputable def Q5:=f193.c.r.l.r.t.r.r.r.l.r.b.b
def WA{id k x}(u:k<=900000000000000000):∀(d i:Nat) (H:ab) (α:az),i<=x+d->i<k->Row H id k->
  α 0=.sl id 2 0 k->α 14=.i x->α 17=.i i->
  aF (aL (aT ej Q5) α H) λe A H'=>e=.exit 6/\Row H' id k/\Kr id H H'
 |d,i,H,α,hd,hi,h,a0,eJ,c=>by
  have j:Q5=.seq _ _:=rfl;by_cases m:x<i
  ·cases d with
   |zero=>omega
   |succ d=>
    obtain⟨n,L⟩:=H;obtain⟨l,y,hg⟩:=h;obtain⟨z,g⟩:=ai.1 hg;have f:=LN (a:=i) (b:=x) m;obtain⟨p,s⟩:=fo (show i<l.length by omega);obtain⟨q,v⟩:=fo (show i-1<l.length by omega);have o2:=zR (l:=l.set (i) (q.1,q.2)) (i:=i-1) (by rw[aEy];omega) p.1 p.2;have w:(2*(i)+2<=(dT l).length)=True:=ο (by rw[ud];omega);have o:(2*(i-1)+2<=(dT (l.set (i) (q.1,q.2))).length)=True:=ο (by rw[ud,aEy];omega);have gs:cg (aH L id (.row k 198 2 (dT (l.set (i) (q.1,q.2))))) id=some (.row k 198 2 (dT (l.set (i) (q.1,q.2)))):=by rw[aR,μ rfl,g];rfl
    rw[aJ,j];simp only[go_sem,seval,a0,eJ,c,f,(vP i aa aa),(rB (id:=id) (show i<k by omega)),(rB (id:=id) (show i-1<k by omega)),rA s,rA v,(zR (l:=l) (i:=i) aa q.1 q.2),o2,w,o,ο z,vg g,g,Ew (ds:=dT (l.set (i) (q.1,q.2))) g,gs,Ap,f_];refine aW (WA (x:=x) (id:=id) (k:=k) u d (i-1) ⟨n,aH L id (.row k 198 2 (dT ((l.set (i) (q.1,q.2)).set (i-1) (p.1,p.2))))⟩ _ aa aa ⟨(l.set (i) (q.1,q.2)).set (i-1) (p.1,p.2),by rw[aEy,aEy];exact y,ai.2 ⟨z,by rw[aR,μ rfl,g];rfl⟩⟩ ?_ ?_ ?_) ?_
    case refine_4=>
     rintro e A H' ⟨rfl,r,t⟩;exact⟨rfl,r,(Kr.set ⟨n,L⟩ _).trans t⟩
    all_goals simp[go_sem,a0,eJ]
  ·have f:=GY (a:=i) (b:=x) m;rw[aJ,j];simp only[go_sem,seval,eJ,c,f];exact⟨aI,h,Kr.refl _ _⟩
def ad4{a:Nat}(h:a=1):((a:Int)==1)=true:=by subst h;rfl
def ad5{a:Nat}(h:a≠1):((a:Int)==1)=false:=by rw[aEp];omega
noncomputable def DB:=f193.c.r.r.r.r.r.r.r.r
noncomputable def Q6:=DB.r.l
noncomputable def Q7:=DB.r.r.l
noncomputable def Q8:=DB.r.r.r
structure Ge(id k a m b md x en:Nat)(α:az):Prop where
 a0:α 0=.sl id 2 0 k
 a1:α 1=.i a
 a2:α 2=.i m
 a3:α 3=.i b
 a4:α 4=jJ
 mD:α 18=.i md
 a20:α 20=.i x
 a24:α 24=.i en
def ax9{id k a m b md x en}{α}{H}(hk:k<=900000000000000000)(h:Row H id k)(s:Ge id k a m b md x en α)(hb:en<=k):aF (aT ej Q6 α H) λe g H'=>e=.normal/\Row H' id k/\Kr id H H'/\Ge id k a m b md x en g:=by
 have l:Q6=.seq _ (.cond _ _ _):=rfl;obtain⟨a0,a1,a2,a3,a4,mD,a20,a24⟩:=s;rw[l];by_cases f:x<m
 ·have c:=ec f;by_cases c2:m<en
  ·have d:=ec c2;obtain⟨H1,j,i,k1⟩:=akc h aa x m en jJ f c2 hb;simp only[go_sem,seval,a0,a2,a4,a20,a24,c,d,j];refine⟨aI,i,k1,?_⟩;constructor;all_goals simp[go_sem,a0,a1,a2,a3,a4,mD,a20,a24]
  ·have d:=dY c2;simp only[go_sem,seval,a2,a20,a24,c,d];refine⟨aI,h,Kr.refl _ _,?_⟩;constructor;all_goals simp[go_sem,a0,a1,a2,a3,a4,mD,a20,a24]
 ·have c:=dY f;simp only[go_sem,seval,a2,a20,c];refine⟨aI,h,Kr.refl _ _,?_⟩;constructor;all_goals simp[go_sem,a0,a1,a2,a3,a4,mD,a20,a24]
def J7(id k w:Nat):Prop:=∀a m b H,b<a+w->a<m->m<b->b<=k->Row H id k->∃H',run ej 193 [.sl id 2 0 k,.i a,.i m,.i b,jJ] H=some (.tup [],H')/\Row H' id k/\Kr id H H'
def aya{id k a m b md x en w}{α}{H}(ih:J7 id k w)(g:md<a+w)(h:Row H id k)(s:Ge id k a m b md x en α)(hb:md<=k):aF (aT ej Q7 α H) λe i H'=>e=.normal/\Row H' id k/\Kr id H H'/\Ge id k a m b md x en i:=by
 have n:Q7=.seq _ (.cond _ _ _):=rfl;obtain⟨a0,a1,a2,a3,a4,mD,a20,a24⟩:=s;rw[n];by_cases f:a<x
 ·have c:=ec f;by_cases c2:x<md
  ·have d:=ec c2;obtain⟨H1,l,j,k1⟩:=ih a x md H g f c2 hb h;simp only[go_sem,seval,a0,a1,a4,mD,a20,c,d,l];refine⟨aI,j,k1,?_⟩;constructor;all_goals simp[go_sem,a0,a1,a2,a3,a4,mD,a20,a24]
  ·have d:=dY c2;simp only[go_sem,seval,a1,mD,a20,c,d];refine⟨aI,h,Kr.refl _ _,?_⟩;constructor;all_goals simp[go_sem,a0,a1,a2,a3,a4,mD,a20,a24]
 ·have c:=dY f;simp only[go_sem,seval,a1,a20,c];refine⟨aI,h,Kr.refl _ _,?_⟩;constructor;all_goals simp[go_sem,a0,a1,a2,a3,a4,mD,a20,a24]
def ayb{id k a m b md x en w}{α}{H}(ih:J7 id k w)(g:b<md+w)(h:Row H id k)(s:Ge id k a m b md x en α)(hb:b<=k):aF (aT ej Q8 α H) λe ae H'=>e=.normal/\Row H' id k/\Kr id H H':=by
 have l:Q8=.seq _ (.cond _ _ _):=rfl;obtain⟨a0,a1,a2,a3,a4,mD,a20,a24⟩:=s;rw[l];by_cases f:md<en
 ·have c:=ec f;by_cases c2:en<b
  ·have d:=ec c2;obtain⟨H1,j,i,k1⟩:=ih md en b H g f c2 hb h;simp only[go_sem,seval,a0,a3,a4,mD,a24,c,d,j];exact⟨aI,i,k1⟩
  ·have d:=dY c2;simp only[go_sem,seval,a3,mD,a24,c,d];exact⟨aI,h,Kr.refl _ _⟩
 ·have c:=dY f;simp only[go_sem,seval,mD,a24,c];exact⟨aI,h,Kr.refl _ _⟩
def ad6{id k a m b md nn x w:Nat}{α:az}{H:ab}(g:k<=900000000000000000)(ih:J7 id k w)(f:md<a+w)(j:b<md+w)(hb:b<=k)(hm:md<=k)(u:x<=nn)(t:nn<=2000000000000000000)(c:nn-x<=k)(h:Row H id k)
  (a0:α 0=.sl id 2 0 k) (a1:α 1=.i a) (a2:α 2=.i m) (a3:α 3=.i b) (a4:α 4=jJ) (mD:α 18=.i md) (s:α 19=.i nn) (a20:α 20=.i x):
  aF (aT ej DB α H) λe ae H'=>e=.normal/\Row H' id k/\Kr id H H':=by
 have q:DB=.seq _ (.seq Q6 (.seq Q7 Q8)):=rfl;rw[q];refine Oa _ _ _ _ _ ?_;simp only[go_sem,seval,s,a20,sn nn x u t];refine⟨trivial,?_⟩;refine Oa _ _ _ _ _ (aW (ax9 (a:=a) (m:=m) (b:=b) (md:=md) (x:=x) (en:=nn-x) g h ?_ c) ?_)
 ·constructor;all_goals simp[go_sem,a0,a1,a2,a3,a4,mD,a20]
 rintro e cT H1 ⟨rfl,p,k1,r⟩;refine⟨rfl,Oa _ _ _ _ _ (aW (aya ih f p r hm) ?_)⟩;rintro e fS H2 ⟨rfl,d,k2,o⟩;refine⟨rfl,aW (ayb ih j d o hb) ?_⟩;rintro e uV H3 ⟨rfl,l,n⟩;exact⟨rfl,l,(k1.trans k2).trans n⟩
def yN{x}{Q}(h:aF x Q):∃r,x=some r/\∃e a H',r=(e,a,H')/\Q e a H':=by obtain⟨e,a,H',b,c⟩:=ke h;exact⟨_,b,e,a,H',rfl,c⟩
def Pk{id k}(d:k<=900000000000000000):∀w,J7 id k w
 |0,a,m,b,H,P,N,L,hb,h=>by omega
 |w+1,a,m,b,H,P,N,L,hb,h=>by
  have ih:=Pk (id:=id) d w;suffices hh:∃r,run ej 193 [.sl id 2 0 k,.i a,.i m,.i b,jJ] H=some r/\∃H',r=(.tup [],H')/\Row H' id k/\Kr id H H' by obtain⟨r,Q,H',rfl,q⟩:=hh;exact⟨H',Q,q⟩
  refine fM (c:=.seq (.seq _ (.cond _ (.seq _ (.seq _ (.seq (.block 0 (.loop Q1)) (.seq (.seq _ (.block 2 (.loop Q4))) .ret)))) .skip)) (.seq (.seq _ (.cond _ (.seq _ (.seq _ (.seq (.block 4 (.loop Q2)) (.seq (.seq _ (.block 6 (.loop Q5))) .ret)))) .skip)) (.seq _ (.seq _ (.seq _ (.seq (.seq _ (.cond _ (.seq _ _) (.seq _ _))) (.seq _ (.seq (.block 8 (.loop Q3)) DB)))))))) rfl rfl func193 rfl (by rw[ntmps193];simp) ?_;have w1:=sn m a aa aa;have C:=sn b m aa aa;by_cases G:m-a=1
  ·have l:=ad4 G;simp only[go_sem,seval,w1,l];simp only[bW];refine bz (dm (NM (id:=id) (k:=k) (a:=a) (b:=b) d aa hb b m b H _ aa aa h ?_ ?_ ?_ ?_ ?_)) ?_
   case refine_6=>
    rintro _ ⟨y,H1,rfl,e,k1,f,b1,j,x,z,S⟩;simp only[go_sem,seval,b1];simp only[bW];refine bz (dm (Wz (id:=id) (k:=k) (x:=x) d aa aa x a H1 _ aa aa e ?_ ?_ ?_)) ?_
    case refine_4=>
     rintro _ ⟨O,H2,rfl,g,k2⟩;simp only[go_sem,seval,results193];exact⟨_,rfl,_,rfl,g,k1.trans k2⟩
    all_goals simp only[go_sem,seval,f,S]
   all_goals simp only[go_sem,seval,]
   all_goals rfl
  ·have l:=ad5 G;by_cases c2:b-m=1
   ·have n:=ad4 c2;simp only[go_sem,seval,w1,l,C,n];simp only[bW];refine bz (dm (NN (id:=id) (k:=k) (a:=a) (mm:=m) d aa m a m H _ aa aa h ?_ ?_ ?_ ?_ ?_ ?_)) ?_
    case refine_7=>
     rintro _ ⟨y,H1,rfl,e,k1,f,b1,b2,j,x,z,R⟩;simp only[go_sem,seval,b2];simp only[bW];refine bz (dm (WA (id:=id) (k:=k) (x:=x) d m m H1 _ aa aa e ?_ ?_ ?_)) ?_
     case refine_4=>
      rintro _ ⟨O,H2,rfl,g,k2⟩;simp only[go_sem,seval,results193];exact⟨_,rfl,_,rfl,g,k1.trans k2⟩
     all_goals simp only[go_sem,seval,f,R]
    all_goals simp only[go_sem,seval,]
    all_goals rfl
   ·have n:=ad5 c2;have E:=tA a b aa;have J:=J5 (a+b) aa;have v:=J6 (a+b);obtain⟨md,A⟩:∃md,md=(a+b)/2:=⟨_,rfl⟩;rw[<-A] at v;have K:=Jw md aa;have D:=tA md m aa;have F:=vP (md+m) aa aa;by_cases I:md<m
    ·have B:=LN I;simp only[go_sem,seval,w1,l,C,n,E,J,v,K,D,F,B,(sn (md+m) b aa aa)];simp only[bW];refine bz (dm (HY (id:=id) (k:=k) (a:=a) (mm:=m) (b:=b) (md:=md) (nn:=md+m) (pp:=md+m-1) (lo:=md+m-b) d aa aa md (md+m-b) md H _ aa aa h ?_ ?_ ?_ ?_ ?_ ?_ ?_ ?_ ?_ ?_)) ?_
     case refine_11=>
      rintro _ ⟨y,H1,rfl,e,k1,f,b1,b2,u,j,t,s,p,x,z,o⟩;simp only[go_sem,seval,];refine aW (ad6 (id:=id) (k:=k) (a:=a) (m:=m) (b:=b) (md:=md) (nn:=md+m) (x:=x) (w:=w) d ih aa aa hb aa aa aa aa e f b1 b2 u j t s o) ?_;rintro _ M H2 ⟨rfl,g,k2⟩;simp only[go_sem,seval,results193];exact⟨_,rfl,_,rfl,g,k1.trans k2⟩
     all_goals simp only[go_sem,seval,]
     all_goals rfl
    ·have B:=GY I;simp only[go_sem,seval,w1,l,C,n,E,J,v,K,D,F,B];simp only[bW];refine bz (dm (HY (id:=id) (k:=k) (a:=a) (mm:=m) (b:=b) (md:=md) (nn:=md+m) (pp:=md+m-1) (lo:=a) d aa aa m a m H _ aa aa h ?_ ?_ ?_ ?_ ?_ ?_ ?_ ?_ ?_ ?_)) ?_
     case refine_11=>
      rintro _ ⟨y,H1,rfl,e,k1,f,b1,b2,u,j,t,s,p,x,z,o⟩;simp only[go_sem,seval,];refine aW (ad6 (id:=id) (k:=k) (a:=a) (m:=m) (b:=b) (md:=md) (nn:=md+m) (x:=x) (w:=w) d ih aa aa hb aa aa aa aa e f b1 b2 u j t s o) ?_;rintro _ M H2 ⟨rfl,g,k2⟩;simp only[go_sem,seval,results193];exact⟨_,rfl,_,rfl,g,k1.trans k2⟩
     all_goals simp only[go_sem,seval,]
     all_goals rfl
def leT{a b:Nat}(h:a<=b):decide ((a:Int)<=(b:Int))=true:=bH _
def leF{a b:Nat}(h:¬a<=b):decide ((a:Int)<=(b:Int))=false:=bU _
def ad7(a:Nat)(h:a<=2000000000000000000):IntKind.i64.wrap (2*(a:Int))=((2*a:Nat):Int):=by rw[aEC _ (by omega)];omega
def aB4(a:Nat)(h:a<=2000000000000000000):IntKind.i64.wrap ((a:Int)*2)=((2*a:Nat):Int):=by rw[aEC _ (by omega)];omega
noncomputable def Q9:=f150.c.r.r.l.b.b
noncomputable def J8:=f150.c.r.r.r.r.b.b
noncomputable def Sy:=J8.r.b.r.l.b.b
def X6{id k:Nat}(j:k<=900000000000000000):∀d a H α,k<a+d->a<=k->Row H id k->
  α 0=.sl id 2 0 k->α 1=.i k->α 2=jJ->α 6=.i (20:Nat)->α 7=.i a->α 8=.i (a+20:Nat)->
  aF (aL (aT ej Q9) α H) λe c H'=>e=.exit 0/\Row H' id k/\Kr id H H'/\c 0=.sl id 2 0 k/\c 1=.i k/\c 2=jJ/\c 6=.i (20:Nat)/\∃x:Nat,x<=k/\c 7=.i x
 |0,a,H,α,m,g,h,a0,a1,a2,a6,a7,a8=>by omega
 |d+1,a,H,α,m,g,h,a0,a1,a2,a6,a7,a8=>by
  have l:Q9=.seq _ _:=rfl;by_cases b:a+20<=k
  ·have f:=leT b;obtain⟨H1,p,o,k1⟩:=acU h j a (a+20) g b;rw[aJ,l];simp only[go_sem,↓reduceIte,Nat.reduceEqDiff,reduceCtorEq,a0,a1,a2,a6,a7,a8,f,p,(tA (a+20) 20 aa)];refine aW (X6 (id:=id) (k:=k) j d (a+20) H1 _ aa b o ?_ ?_ ?_ ?_ ?_ ?_) ?_
   case refine_7=>
    rintro e c H' ⟨rfl,r,n,q⟩;exact⟨rfl,r,k1.trans n,q⟩
   all_goals simp only[go_sem,↓reduceIte,Nat.reduceEqDiff,reduceCtorEq,a0,a1,a2,a6]
  ·have f:=leF b;rw[aJ,l];simp only[go_sem,↓reduceIte,Nat.reduceEqDiff,reduceCtorEq,a1,a8,f];refine⟨aI,h,Kr.refl _ _,?_,?_,?_,?_,a,g,?_⟩;all_goals simp only[go_sem,a0,a2,a6,a7]
def X7{id k bs:Nat}(g:k<=900000000000000000)(hb:0<bs)(p:bs<=k):∀d a H α,k<a+d->a<=k->Row H id k->
  α 0=.sl id 2 0 k->α 1=.i k->α 2=jJ->α 6=.i bs->α 7=.i a->α 8=.i (a+2*bs:Nat)->
  aF (aL (aT ej Sy) α H) λe c H'=>e=.exit 4/\Row H' id k/\Kr id H H'/\c 0=.sl id 2 0 k/\c 1=.i k/\c 2=jJ/\c 6=.i bs/\∃x:Nat,x<=k/\c 7=.i x
 |0,a,H,α,m,j,h,a0,a1,a2,a6,a7,a8=>by omega
 |d+1,a,H,α,m,j,h,a0,a1,a2,a6,a7,a8=>by
  have l:Sy=.seq _ _:=rfl;by_cases b:a+2*bs<=k
  ·have f:=leT b;obtain⟨H1,s,o,k1⟩:=Pk (id:=id) g (k+1) a (a+bs) (a+2*bs) H aa aa aa b h;rw[aJ,l];simp only[go_sem,seval,a0,a1,a2,a6,a7,a8,f,s,(tA (a+2*bs) (2*bs) aa),(ad7 bs aa),(tA a bs aa)];refine aW (X7 (id:=id) (k:=k) (bs:=bs) g hb p d (a+2*bs) H1 _ aa b o ?_ ?_ ?_ ?_ ?_ ?_) ?_
   case refine_7=>
    rintro e c H' ⟨rfl,r,n,q⟩;exact⟨rfl,r,k1.trans n,q⟩
   all_goals simp[go_sem,a0,a1,a2,a6]
  ·have f:=leF b;rw[aJ,l];simp only[go_sem,seval,a1,a8,f];refine⟨aI,h,Kr.refl _ _,?_,?_,?_,?_,a,j,?_⟩;all_goals simp[go_sem,a0,a2,a6,a7]
def On{id k:Nat}(a:k<=900000000000000000):∀d bs H α,k<=bs+d->0<bs->Row H id k->
  α 0=.sl id 2 0 k->α 1=.i k->α 2=jJ->α 6=.i bs->
  aF (aL (aT ej J8) α H) λe t H'=>e=.exit 2/\Row H' id k/\Kr id H H'
 |d,bs,H,α,hd,s,h,a0,a1,a2,a6=>by
  have o:J8=.seq _ (.block 3 (.seq _ (.seq (.block 4 (.loop Sy)) _))):=rfl;by_cases p:bs<k
  ·cases d with
   |zero=>omega
   |succ d=>
    have c:=ec p;have q:=aB4 bs aa;rw[aJ,o];simp only[go_sem,seval,a1,a6,c,(ad7 bs aa)];simp[bW];refine bz (dm (X7 (id:=id) (k:=k) (bs:=bs) a s aa (k+1) 0 H _ aa aa h ?_ ?_ ?_ ?_ ?_ ?_)) ?_
    case refine_7=>
     rintro _ ⟨t,H1,rfl,l,k1,g,b1,b2,n,x,hx,b7⟩;have m:=tA x bs aa;by_cases hm:x+bs<k
     ·have j:=ec hm;obtain⟨H2,u,r,k2⟩:=Pk (id:=id) a (k+1) x (x+bs) k H1 aa aa hm (ν _) l;simp only[go_sem,seval,g,b1,b2,n,b7,q,m,j,u];refine aW (On (id:=id) (k:=k) a d (2*bs) H2 _ aa aa r ?_ ?_ ?_ ?_) ?_
      case refine_5=>
       rintro e v w ⟨rfl,b,f⟩;exact⟨rfl,b,(k1.trans k2).trans f⟩
      all_goals simp[go_sem,g,b1,b2]
     ·have j:=dY hm;simp only[go_sem,seval,b1,n,b7,q,m,j];refine aW (On (id:=id) (k:=k) a d (2*bs) H1 _ aa aa l ?_ ?_ ?_ ?_) ?_
      case refine_5=>
       rintro e v w ⟨rfl,b,f⟩;exact⟨rfl,b,k1.trans f⟩
      all_goals simp[go_sem,g,b1,b2]
    all_goals simp[go_sem,a0,a1,a2,a6]
    all_goals first|rfl|simp
  ·have c:=dY p;rw[aJ,o];simp only[go_sem,seval,a1,a6,c];exact⟨aI,h,Kr.refl _ _⟩
def akd{id k:Nat}{H:ab}(h:Row H id k)(a:k<=900000000000000000):∃H',run ej 150 [.sl id 2 0 k,.i k,jJ] H=some (.tup [],H')/\Row H' id k/\Kr id H H':=by
 suffices hh:∃r,run ej 150 [.sl id 2 0 k,.i k,jJ] H=some r/\∃H',r=(.tup [],H')/\Row H' id k/\Kr id H H' by obtain⟨r,j,H',rfl,q⟩:=hh;exact⟨H',j,q⟩
 refine fM (c:=.seq _ (.seq _ (.seq (.block 0 (.loop Q9)) (.seq _ (.block 2 (.loop J8)))))) rfl rfl func150 rfl (by rw[ntmps150];simp) ?_;simp only[go_sem,seval,];simp only[bW];refine bz (dm (X6 (id:=id) (k:=k) a (k+1) 0 H _ aa aa h ?_ ?_ ?_ ?_ ?_ ?_)) ?_
 case refine_7=>
  rintro _ ⟨ae,H1,rfl,g,k1,b,b1,b2,l,x,n,b7⟩;obtain⟨H2,m,d,k2⟩:=acU g a x k n (ν _);simp only[go_sem,seval,b,b1,b2,b7,m];refine bz (dm (On (id:=id) (k:=k) a k 20 H2 _ aa aa d ?_ ?_ ?_ ?_)) ?_
  case refine_5=>
   rintro _ ⟨qQ,H3,rfl,e,f⟩;simp only[go_sem,seval,results150];exact⟨_,rfl,_,rfl,e,(k1.trans k2).trans f⟩
  all_goals simp[go_sem,b,b1,b2,l]
 all_goals simp[go_sem,]
 all_goals rfl
def atE{id k:Nat}{H:ab}(h:Row H id k)(a:k<=900000000000000000):∃H',run ej 104 [.sl id 2 0 k,jJ] H=some (.tup [],H')/\Row H' id k/\Kr id H H':=by
 suffices hh:∃r,run ej 104 [.sl id 2 0 k,jJ] H=some r/\∃H',r=(.tup [],H')/\Row H' id k/\Kr id H H' by obtain⟨r,e,H',rfl,q⟩:=hh;exact⟨H',e,q⟩
 refine fM rfl rfl func104 rfl (by rw[ntmps104];simp) ?_;obtain⟨H1,d,b,k1⟩:=akd h a;have c:gB prog #[74] [.sl id 2 0 k]=some (.i k):=by simp[gB,Ft]
 simp only[go_sem,seval,c,d,results104];exact⟨_,rfl,_,rfl,b,k1⟩
def ake(H:ab):run ej 104 [.vec .nil [],jJ] H=some (.tup [],H):=me.2 ⟨20,af⟩
def akf{H:ab}{bad:List (Nat×Nat)}{v}(h:vE H bad v)(f:bad.length<=900000000000000000):∃H' e,A7 104 [v,jJ] H=some (.tup [],H')/\e.length=bad.length/\vE H' e v/\H.next<=H'.next/\∀i x,NR x->H.get i=some x->H'.get i=some x:=by
 rw[aj0];rcases h with⟨rfl,rfl⟩|⟨g,id,rfl,d⟩
 ·exact⟨H,[],ake H,rfl,.inl ⟨rfl,rfl⟩,ν _,λ_ _ _ h=>h⟩
 ·obtain⟨H',q,⟨l,a,hg⟩,c⟩:=atE (k:=bad.length) ⟨bad,rfl,d⟩ f;refine⟨H',l,q,a,.inr ⟨?_,id,by rw[a],by rw[a];exact hg⟩,c.1,λi x j b=>c.2 i _ ?_ b⟩
  ·rintro rfl;exact g (Ξ.1 a.symm)
  ·rintro rfl;rw[d] at b;cases b;exact j _ _ _ _ rfl
end Go.Proofs.YtmehamiifalmaaaGreatDoor
namespace Go.Ab
open Go
def yl{E:Env}{f}{fn:Func}{c}{args bE:List AV}{Q:AV->Prop}(n:E.G f=true)(j:E.df f=false)(m:E.P.funcs[f]? =some fn)(k:fn.body=some c)(o:args.length<=fn.ntmps)(b:args.map AV.erase=bE)
  (h:AV.aq.go bE=true) (l:aF (aN E (run E) aL c (jq bE) .empty) λe g H'=>∃v H2 a,finish E.P fn.results.toList (e,g,H')=some (v,H2)/\(if v.erase.aq=true then some v.erase else an (cA E.P H2 1000 v) λw=>if w.aq=true then some w else none)=some a/\Q a):
  ∃a,aK E.P (run E) f args=some a/\Q a:=by
 obtain⟨e,g,H',h3,v,H2,a,d,h5,i⟩:=ke l;refine⟨a,?_,i⟩;unfold aK;rw[b,μ h,Cr n j m k (by rw[<-b];simpa using o),h3];simp[an] at d h5⊢;rw[d];exact h5
end Go.Ab
namespace Go.Proofs.YtmehamiifalmaaaGreatDoor
open Go Go.Ab Go.Proofs.Tryz
set_option maxRecDepth 100000
set_option maxHeartbeats 8000000
def aD(n:Nat):Ab.Own:=if n=0 then .nil else .ro
def cO(l:List (Nat×Nat)):List AV:=l.map λp=>.agg (ny p)
def mapA(m:Mp)(bad:List (Nat×Nat)):AV:=.agg [.vec (aD m.bs.length) (m.bs.map bg),.vec (aD m.ms.length) (m.ms.map ck),.vec (aD bad.length) (cO bad)]
def go_bi:∀l:List Bi,AV.aq.go (l.map bg)=true
 |[]=>rfl
 |x::l=>by show((bg x).aq&&AV.aq.go (l.map bg))=true;rw[go_bi l];rfl
def go_me:∀l:List Me,AV.aq.go (l.map ck)=true
 |[]=>rfl
 |x::l=>by show((ck x).aq&&AV.aq.go (l.map ck))=true;rw[go_me l];rfl
def go_ba:∀l:List (Nat×Nat),AV.aq.go (cO l)=true
 |[]=>rfl
 |x::l=>by show((AV.agg (ny x)).aq&&AV.aq.go (cO l))=true;rw[go_ba l];rfl
def CG(m)(bad):(mapA m bad).aq=true:=by unfold mapA;simp only[AV.aq,AV.aq.go,go_bi,go_me,go_ba,aD];by_cases a:m.bs.length=0<;>by_cases b:m.ms.length=0<;>by_cases c:bad.length=0<;>simp[a,b,c]
def Q_(P)(H)(k):∀l:List Bi,dv (cA P H (k+3)) (l.map bg)=some (l.map bg)
 |[]=>rfl
 |x::l=>by simp[dv];rw[Q_ P H k l];rfl
def Ra(P)(H)(k):∀l:List Me,dv (cA P H (k+3)) (l.map ck)=some (l.map ck)
 |[]=>rfl
 |x::l=>by simp[dv];rw[Ra P H k l];rfl
def Rb(P)(H)(k):∀l:List (Nat×Nat),dv (cA P H (k+3)) (cO l)=some (cO l)
 |[]=>rfl
 |x::l=>by have ih:=Rb P H k l;simp[cO,dv] at ih⊢;rw[ih];rfl
def acV:∀l:List (Nat×Nat),oB true 2 l.length (dT l)=cO l
 |[]=>rfl
 |x::l=>by show AV.agg [.i x.1,.i x.2]::oB true 2 l.length (dT l)=_;rw[acV l];rfl
def Qd(P)(H)(k)(l):cA P H (k+1) (.agg l)=an (dv (cA P H k) l) λds=>some (.agg ds):=by simp[cA]
def yO(P)(H)(k)(o:Ab.Own)(l):cA P H (k+1) (.vec o l)=an (dv (cA P H k) l) λds=>some (.vec o.bare ds):=by simp[cA]
def ayc(P)(H:ab)(k id s off len m s')(et)(cs:List AV)(h:H.get id=some (.row m et s' cs))(b:cv P et=some true)(a:s'=s/\off+len<=m):cA P H (k+1) (.sl id s off len)=an (dv (cA P H k) (oB true s len (cs.drop (off*s)))) λds=>some (.vec .ro ds):=by simp only[cA,h,b];rw[μ ⟨a.1,a.2,.inl trivial⟩]
def atF{H}{bs:List Bi}{ms:List Me}{o1 o2}{bad}{bv}(g:cY H 102 o1 bs.length)(g2:cY H 138 o2 ms.length)(hb:vE H bad bv)(b0):
  (if(AV.agg [.vec o1 (bs.map bg),.vec o2 (ms.map ck),bv]).erase.aq=true then some (AV.agg [.vec o1 (bs.map bg),.vec o2 (ms.map ck),bv]).erase else an (cA prog H 1000 (AV.agg [.vec o1 (bs.map bg),.vec o2 (ms.map ck),bv])) λw=>if w.aq=true then some w else none)=some (mapA ⟨bs,ms,b0⟩ bad):=by
 have c:=g.bare;have d:=g2.bare;rcases hb with⟨rfl,rfl⟩|⟨i,id,rfl,h⟩
 ·have b:(AV.agg [.vec o1 (bs.map bg),.vec o2 (ms.map ck),.vec .nil []]).erase=mapA ⟨bs,ms,b0⟩ []:=by
   simp only[AV.erase,aEv,aFy,AV.bare,c,d];rfl
  rw[b,μ (CG _ _)]
 ·have b:(AV.agg [.vec o1 (bs.map bg),.vec o2 (ms.map ck),.sl id 2 0 bad.length]).erase.aq=false:=by
   simp only[AV.erase,aEv,aFy,AV.bare,AV.aq,AV.aq.go,go_bi,go_me];simp
  have a:bad.length≠0:=λe=>i (Ξ.1 e)
  have hf:cA prog H (995+5) (AV.agg [.vec o1 (bs.map bg),.vec o2 (ms.map ck),.sl id 2 0 bad.length])=some (mapA ⟨bs,ms,b0⟩ bad):=by
   generalize 995=k;have f:dv (cA prog H (k+4)) [.vec o1 (bs.map bg),.vec o2 (ms.map ck),.sl id 2 0 bad.length]=some [.vec o1.bare (bs.map bg),.vec o2.bare (ms.map ck),.vec .ro (cO bad)]:=by simp only[dv];rw[yO,yO,ayc prog H (k+3) id 2 0 bad.length bad.length 2 198 (dT bad) h XT ⟨rfl,aa⟩,Q_ prog H k bs,Ra prog H k ms];simp only[aGS,aEQ,acV,Rb prog H k bad,an]
   rw[Qd,f];simp only[an,c,d,mapA,aD,κ a]
  rw[b,show(1000:Nat)=995+5 from rfl,hf];simp only[υ,ap1,an];rw[μ (CG _ _)]
def akg(args)(H):dD bA (run bA) (.fn (.func 104) [] []) args H=A7 104 args H:=by rw[qz rfl rfl];exact wK rfl args H
def ayd{n}:dL 4 2 3 ⟨[],[],[]⟩ 0 [] [] ⟨5,[(4,.z [.ptr 2 0,.val (.pointer none),.map 3,.i 0]),(3,.map [] 0),(2,.k 76 [.vec .nil [],.vec .nil [],.vec .nil []]),(1,.k 76 [.vec .nil [],.vec .nil [],.vec .nil []]),(0,.z (aB n))]⟩:=by refine⟨⟨none,rfl⟩,⟨some 76,.nil,.nil,.vec .nil [],rfl,.inl ⟨rfl,rfl⟩,.inl ⟨rfl,rfl⟩,.inl ⟨rfl,rfl⟩⟩,⟨[],0,rfl,λw=>rfl,λi hi=>by cases hi⟩,trivial,?_,λf hf=>(by cases hf),aA⟩;simp
def aB5{n:Nd}(H:n.ks.length<=900000000000000000)(A:∀x∈n.ks,db x<=900000/\mx x<=900000000000000000)(d:lg (jN n)):∃v,aK prog (run bA) 68 [aw n]=some v/\∃bad,bad.length=(jN n).bad.length/\v=mapA (jN n) bad:=by
 refine yl (c:=.seq _ (.seq _ (.seq _ (.seq (.seq _ (.block 0 (.loop KC))) (.seq (.seq _ (.block 3 (.loop KD))) _))))) rfl rfl func68 rfl (by rw[ntmps68];simp) (bE:=[aw n]) (by simp[pP]) (by rw[yB];rfl) ?_;have h5:=oK n;have t:sU prog 193 [(0,.ptr 2 0),(2,.map 3)]=some (.agg [.ptr 2 0,.val (.pointer none),.map 3,.i 0]):=af;have V:lg (eh 0 ⟨[],[],[]⟩ (bq [] []) n.ks).1:=d.le (CF _ _ _ _);simp only[go_sem,seval,ab.empty,h5,bL,t];simp only[bW];refine bz (dm (IZ (b:=4) (mb:=2) (g:=3) (ks:=n.ks) (p3:=.ptr 0 0) (o:=if n.ks.isEmpty then .nil else .ro) H n.ks 0 ⟨[],[],[]⟩ 0 [] ⟨5,[(4,.z [.ptr 2 0,.val (.pointer none),.map 3,.i 0]),(3,.map [] 0),(2,.k 76 [.vec .nil [],.vec .nil [],.vec .nil []]),(1,.k 76 [.vec .nil [],.vec .nil [],.vec .nil []]),(0,.z (aB n))]⟩ _ rfl ayd ⟨λi hi=>(by cases hi),λf hf=>(by cases hf)⟩ (by unfold Bw;simp) V ?_ ?_ ?_ ?_ ?_ ?_ ?_)) ?_
 case refine_8=>
  rintro _ ⟨cT,⟨n1,L1⟩,rfl,a4,a1,a2,a3,gs,Y,X,k1,w1,Z,h⟩;obtain⟨W,R⟩:=ai.1 (h.2 0 none _ aA aA rfl);have w:jN n=hC (bq [] gs) 0 (eh 0 ⟨[],[],[]⟩ (bq [] []) n.ks).1 n.ks:=by rw[<-Z];rfl
  rw[w] at d⊢;simp only[go_sem,seval,a1,aC R,ο W,h5,bL];simp only[bW];refine bz (dm (Ph (b:=4) (mb:=2) (g:=3) (ks:=n.ks) (p1:=.ptr 0 0) (o:=if n.ks.isEmpty then .nil else .ro) H A n.ks 0 _ Y ⟨n1,L1⟩ _ rfl X k1 w1 d ?_ ?_ ?_ ?_ ?_ ?_ ?_)) ?_
  case refine_8=>
   rintro _ ⟨fS,⟨n2,J⟩,rfl,b1,b2,O,rq,K,k2,w2,u⟩;obtain⟨tm,o1,o2,bv,D,gE,S,F⟩:=K.hm;obtain⟨Q,g2⟩:=ai.1 D;obtain⟨E,G⟩:=ai.1 (u.2 1 _ _ aA aA (h.2 1 (some 76) _ aA aA rfl));obtain⟨⟨N,P⟩,L,T,y,q,oR,C⟩:=akf F (atB (d.bad w2) aA);obtain⟨z4,U⟩:=ai.1 (C _ _ yq D);obtain⟨M,B⟩:=ai.1 (C 1 _ yq (ai.2 ⟨E,G⟩));have ao:eo [bv]=true:=by rcases F with⟨_,rfl⟩|⟨_,id,rfl,_⟩<;>rfl
   simp only[go_sem,seval,b2,O,aC g2,ο Q,akg,T,aC U,ο z4,aC B,ο M,ao,B,fV,results68];have l:∀i x,NR x->i≠1->ab.get ⟨n2,J⟩ i=some x->ab.get ⟨N,aH P 1 (.k 76 [.vec o1 ((hC (bq [] gs) 0 (eh 0 ⟨[],[],[]⟩ (bq [] []) n.ks).1 n.ks).bs.map bg),.vec o2 ((hC (bq [] gs) 0 (eh 0 ⟨[],[],[]⟩ (bq [] []) n.ks).1 n.ks).ms.map ck),bv])⟩ i=some x:=λi x A hi d=>by obtain⟨r,p⟩:=ai.1 (C i x A d);exact ai.2 ⟨r,by rw[aR,κ (λe=>hi e.symm)];exact p⟩
   have I:∀j m et,ab.get ⟨n2,J⟩ j=some (.bQ m et)->j≠1:=by rintro j m et a rfl;rw[ai.2 ⟨E,G⟩] at a;cases a
   refine⟨_,_,_,rfl,atF (gE.cj λj m a=>l _ _ Qa (I _ _ _ a) a) (S.cj λj m a=>l _ _ Qa (I _ _ _ a) a) ?_ [],L,y,rfl⟩;refine yr q λi m et s cs hi=> ?_;obtain⟨r,p⟩:=ai.1 hi;exact ai.2 ⟨r,by rw[aR,κ (by rintro rfl;rw[B] at p;cases p)];exact p⟩
  all_goals simp[go_sem,a1,a2,a3,a4]
  all_goals first|rfl|simp
 all_goals simp[go_sem,]
 all_goals rfl
end Go.Proofs.YtmehamiifalmaaaGreatDoor
