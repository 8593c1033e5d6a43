/- LintCalls: part 17 of its proof. -/
import Derived.Test.YtmehamiifalmaaaGreatDoorG15
set_option linter.all false
namespace Go.Proofs.YtmehamiifalmaaaGreatDoor
open Go Go.Ab Go.Proofs.Tryz
set_option maxRecDepth 100000
set_option maxHeartbeats 8000000
def axb:cC.P=prog:=(rfl)
def axc(l:Array Oper):cC.any l=false:=(rfl)
def atb:cC.eX=λ_=>false:=(rfl)
def atc:cC.dyn 4=false:=(rfl)
def atd:cC.dyn 9=false:=(rfl)
def anP:cC.dyn 12=true:=(rfl)
def anQ:cC.dyn 13=false:=(rfl)
def anR:cC.dyn 16=true:=(rfl)
def anS:cC.dyn 17=true:=(rfl)
def anT:cC.dyn 20=false:=(rfl)
attribute [go_sem] axb axc atb atc atd anP anQ anR anS anT
def vV:RN->AV
 | .e9 lam=>.agg [.i 0,.bool true,.bool lam]
 | .nm i=>.agg [.i i,.bool false,.bool false]
def cV(l:List RN):List AV:=(l.map vV).reverse
def ajJ(x)(l):cV (x::l)=cV l++[vV x]:=by simp[cV]
def EG(l:List RN):(cV l).length=l.length:=by simp[cV]
def ate(pre)(x)(r:List RN):(cV (pre++x::r))[r.length]? =some (vV x):=by
 have:cV (pre++x::r)=cV r++vV x::(pre.map vV).reverse:=by simp[cV]
 rw[this,Ρ (by rw[EG];exact μ _),EG,aEZ];rfl
def NG(l):cB 3 (cV l):=λe a=>by unfold cV at a;rw[List.mem_reverse] at a;obtain⟨x,_,rfl⟩:=aDt.1 a;cases x<;>rfl
def uQ(l):cB 2 (cw l):=λe a=>by obtain⟨x,_,rfl⟩:=aDt.1 a;rfl
def DB:RN->List AV
 | .e9 lam=>[.i 0,.bool true,.bool lam]
 | .nm i=>[.i i,.bool false,.bool false]
def K8(o)(pre)(x)(r:List RN):dC prog 206 (.vec o (cV (pre++x::r))) (.i r.length)=some (.rptr (DB x)):=by have:=ate pre x r;cases x<;>simp[dC,EF,EE,this,vV,DB,AV.width,AV.cells]
def w_(o){bs:List Bi}{i:Nat}{x:Bi}(h:bs[i]? =some x):dC prog 85 (.vec o (bs.map a_)) (.i i)=some (.rptr [.i x.at_,.i x.k,.str x.w,.i x.item]):=by
 have:(bs.map a_)[i]? =some (a_ x):=by simp[h]
 simp[dC,IL,E0,this,a_,AV.width,AV.cells]
def aA6(a c)(H):dS prog 87 1 [(0,.agg [.i a,.i c])] H=some (.vec .full [.agg [.i a,.i c]],H):=by simp[dS,Cu,zZ,IQ,mH,fF,lZ,sC,sD,AV.width,AV.cells,eE,AV.one]
def aA7(b:Bi)(H):dS prog 85 1 [(0,.agg [.i b.at_,.i b.k,.str b.w,.i b.item])] H=some (.vec .full [a_ b],H):=by simp[dS,IL,E0,aaT,mH,fF,lZ,sC,sD,Ck,AV.width,AV.cells,eE,AV.one,a_]
def aA8(x:Me)(H):dS prog 86 1 [(0,.agg [.i x.at_,.i (dQ x.to),.bool x.wr,.i x.bD])] H=some (.vec .full [cv x],H):=by simp[dS,IM,E1,aaV,mH,fF,lZ,sC,sD,HM,AV.width,AV.cells,eE,AV.one,cv]
def axd(a)(c d)(H):dS prog 206 1 [(0,.agg [.i a,.bool c,.bool d])] H=some (.vec .full [.agg [.i a,.bool c,.bool d]],H):=by simp[dS,EF,EE,Oy,mH,fF,lZ,sC,sD,HM,AV.width,AV.cells,eE,AV.one]
attribute [go_sem] aA6 axd
def Kq(mb:Nat)(H H':ab):Prop:=H.next<=H'.next/\∀i te cs,i≠mb->H.get i=some (.c te cs)->H'.get i=some (.c te cs)
def Kq.refl(mb)(H:ab):Kq mb H H:=⟨μ _,λ_ _ _ _ h=>h⟩
def Kq.trans{mb}{H a b:ab}(h:Kq mb H a)(g:Kq mb a b):Kq mb H b:=⟨aDj h.1 g.1,λi te cs c d=>g.2 i te cs c (h.2 i te cs c d)⟩
def Kq.push{mb}(H:ab)(y):Kq mb H (H.push y):=⟨awF _,λi te cs _ hi=>by
 rw[ab.dT,κ (by have:=ab.eg hi;omega)];exact hi⟩
def dR(mb:Nat)(m:Mp)(H:ab):Prop:=∃tm o1 o2 o3,H.get mb=some (.cells tm [.vec o1 (m.bs.map a_),.vec o2 (m.ms.map cv),.vec o3 (cw m.bad)])/\bY H 93 o1 m.bs.length/\bY H 97 o2 m.ms.length/\bY H 210 o3 m.bad.length
def dR.bU{mb}{m}{H H':ab}(h:dR mb m H)(b:∀i x,(∀n,x≠.bB n 260)->H.get i=some x->H'.get i=some x):dR mb m H':=by obtain⟨tm,o1,o2,o3,hm,d,g2,g3⟩:=h;exact⟨tm,o1,o2,o3,b _ _ ai hm,d.bU λj n a=>b _ _ (λc e=>by cases e) a,g2.bU λj n a=>b _ _ (λc e=>by cases e) a,g3.bU λj n a=>b _ _ (λc e=>by cases e) a⟩
def dR.push{mb}{m:Mp}{H:ab}(h:dR mb m H)(y):dR mb m (H.push y):=h.bU λi x _ hi=>by rw[ab.dT,κ (by have:=ab.eg hi;omega)];exact hi
structure Grown(mb:Nat)(m m':Mp)(t:TypeId)(o1 o2 o3 o:Ab.Own)(es xs:List AV)(j n:Nat)(L:List (Nat×bH))(tm:Option TypeId)(cs:List AV)(n4:Nat)(L4:List (Nat×bH)):Prop where
 gm:cq L mb=some (.cells tm [.vec o1 (m.bs.map a_),.vec o2 (m.ms.map cv),.vec o3 (cw m.bad)])
 ap:cj (λ_=>false) prog t t (.vec o es) (.vec .full xs) ⟨n,L⟩=some (.vec (.own j) (es++xs),⟨n4,L4⟩)
 fM:cq L4 mb=some (.cells tm [.vec o1 (m.bs.map a_),.vec o2 (m.ms.map cv),.vec o3 (cw m.bad)])
 z4:mb<n4
 inv:dR mb m' ⟨n4,aH L4 mb (.cells tm cs)⟩
 kq:Kq mb ⟨n,L⟩ ⟨n4,aH L4 mb (.cells tm cs)⟩
 kp:∀i te cs,ab.get ⟨n,L⟩ i=some (.c te cs)->ab.get ⟨n4,L4⟩ i=some (.c te cs)
def axe{mb n}{m:Mp}{L}(h:dR mb m ⟨n,L⟩)(hn:m.bs.length<=1000000)(x):∃tm o1 o2 o3 j n4 L4,Grown mb m ⟨m.bs++[x],m.ms,m.bad⟩ 85 o1 o2 o3 o1 (m.bs.map a_) [a_ x] j n L tm [.vec (.own j) (m.bs.map a_++[a_ x]),.vec o2 (m.ms.map cv),.vec o3 (cw m.bad)] n4 L4:=by
 obtain⟨tm,o1,o2,o3,hm,r,g2,g3⟩:=h;obtain⟨j,⟨n4,L4⟩,v,hg,c,p4⟩:=v_ anu (m:=λ_=>false) rfl (o:=o1) (o2:=.full) (es:=m.bs.map a_) (xs:=[a_ x]) (H:=⟨n,L⟩) (by rw[φ];exact r) (Hx _) (Hx [_]) ai aX aX;have f:=p4 _ _ ai hm;obtain⟨zm,gm⟩:=aj.1 hm;obtain⟨g,fM⟩:=aj.1 f;have a:∀(C:List AV) i y,i≠mb->ab.get ⟨n4,L4⟩ i=some y->ab.get ⟨n4,aH L4 mb (.cells tm C)⟩ i=some y:=λC i y b t=>by obtain⟨u,w⟩:=aj.1 t;exact aj.2 ⟨u,by rw[bg,κ (λe=>b e.symm)];exact w⟩
 have l:∀{i k et},ab.get ⟨n,L⟩ i=some (.bB k et)->i≠mb:=λ{i k et} hi e=>by rw[e,hm] at hi;cases hi
 have s:∀{i k et},ab.get ⟨n4,L4⟩ i=some (.bB k et)->i≠mb:=λ{i k et} hi e=>by rw[e,f] at hi;cases hi
 refine⟨tm,o1,o2,o3,j,n4,L4,gm,v,fM,g,⟨tm,.own j,o2,o3,?_,?_,?_,?_⟩,⟨c,λi te cs b d=>a _ _ _ b (p4 _ _ ai d)⟩,λi te cs d=>p4 _ _ ai d⟩
 ·exact aj.2 ⟨g,by rw[bg,ν rfl,fM];simp⟩
 ·have q:((m.bs.map a_)++[a_ x]).length=(m.bs++[x]).length:=ai;rw[q] at hg;exact hg.bU λi k hi=>a _ _ _ (s hi) hi
 ·exact g2.bU λi k hi=>a _ _ _ (l hi) (p4 _ _ (λp e=>by cases e) hi)
 ·exact g3.bU λi k hi=>a _ _ _ (l hi) (p4 _ _ (λp e=>by cases e) hi)
def axf{mb n}{m:Mp}{L}(h:dR mb m ⟨n,L⟩)(hn:m.ms.length<=1000000)(x):∃tm o1 o2 o3 j n4 L4,Grown mb m ⟨m.bs,m.ms++[x],m.bad⟩ 86 o1 o2 o3 o2 (m.ms.map cv) [cv x] j n L tm [.vec o1 (m.bs.map a_),.vec (.own j) (m.ms.map cv++[cv x]),.vec o3 (cw m.bad)] n4 L4:=by
 obtain⟨tm,o1,o2,o3,hm,r,g2,g3⟩:=h;obtain⟨j,⟨n4,L4⟩,v,hg,c,p4⟩:=v_ anC (m:=λ_=>false) rfl (o:=o2) (o2:=.full) (es:=m.ms.map cv) (xs:=[cv x]) (H:=⟨n,L⟩) (by rw[φ];exact g2) (Hy _) (Hy [_]) ai aX aX;have f:=p4 _ _ ai hm;obtain⟨zm,gm⟩:=aj.1 hm;obtain⟨g,fM⟩:=aj.1 f;have a:∀(C:List AV) i y,i≠mb->ab.get ⟨n4,L4⟩ i=some y->ab.get ⟨n4,aH L4 mb (.cells tm C)⟩ i=some y:=λC i y b t=>by obtain⟨u,w⟩:=aj.1 t;exact aj.2 ⟨u,by rw[bg,κ (λe=>b e.symm)];exact w⟩
 have l:∀{i k et},ab.get ⟨n,L⟩ i=some (.bB k et)->i≠mb:=λ{i k et} hi e=>by rw[e,hm] at hi;cases hi
 have s:∀{i k et},ab.get ⟨n4,L4⟩ i=some (.bB k et)->i≠mb:=λ{i k et} hi e=>by rw[e,f] at hi;cases hi
 refine⟨tm,o1,o2,o3,j,n4,L4,gm,v,fM,g,⟨tm,o1,.own j,o3,?_,?_,?_,?_⟩,⟨c,λi te cs b d=>a _ _ _ b (p4 _ _ ai d)⟩,λi te cs d=>p4 _ _ ai d⟩
 ·exact aj.2 ⟨g,by rw[bg,ν rfl,fM];simp⟩
 ·exact r.bU λi k hi=>a _ _ _ (l hi) (p4 _ _ (λp e=>by cases e) hi)
 ·have q:((m.ms.map cv)++[cv x]).length=(m.ms++[x]).length:=ai;rw[q] at hg;exact hg.bU λi k hi=>a _ _ _ (s hi) hi
 ·exact g3.bU λi k hi=>a _ _ _ (l hi) (p4 _ _ (λp e=>by cases e) hi)
def QK{mb n}{m:Mp}{L}(h:dR mb m ⟨n,L⟩)(hn:m.bad.length<=1000000000)(a c:Nat):∃tm o1 o2 o3 j n4 L4,Grown mb m ⟨m.bs,m.ms,m.bad++[(a,c)]⟩ 87 o1 o2 o3 o3 (cw m.bad) [.agg [.i a,.i c]] j n L tm [.vec o1 (m.bs.map a_),.vec o2 (m.ms.map cv),.vec (.own j) (cw m.bad++[.agg [.i a,.i c]])] n4 L4:=by
 obtain⟨tm,o1,o2,o3,hm,u,g2,g3⟩:=h;have d:(cw m.bad).length=m.bad.length:=by simp[cw]
 obtain⟨j,⟨n4,L4⟩,z,hg,g,p4⟩:=v_ z_ (m:=λ_=>false) rfl (o:=o3) (o2:=.full) (es:=cw m.bad) (xs:=[.agg [.i a,.i c]]) (H:=⟨n,L⟩) (by rw[d];exact g3) (uQ _) (uQ [(a,c)]) ai (by simp[d];omega) (by simp[d];omega);have p:=p4 _ _ ai hm;obtain⟨zm,gm⟩:=aj.1 hm;obtain⟨q,fM⟩:=aj.1 p;have b:∀(C:List AV) i y,i≠mb->ab.get ⟨n4,L4⟩ i=some y->ab.get ⟨n4,aH L4 mb (.cells tm C)⟩ i=some y:=λC i y f w=>by obtain⟨x,A⟩:=aj.1 w;exact aj.2 ⟨x,by rw[bg,κ (λe=>f e.symm)];exact A⟩
 have r:∀{i k et},ab.get ⟨n,L⟩ i=some (.bB k et)->i≠mb:=λ{i k et} hi e=>by rw[e,hm] at hi;cases hi
 have v:∀{i k et},ab.get ⟨n4,L4⟩ i=some (.bB k et)->i≠mb:=λ{i k et} hi e=>by rw[e,p] at hi;cases hi
 refine⟨tm,o1,o2,o3,j,n4,L4,gm,z,fM,q,⟨tm,o1,o2,.own j,?_,?_,?_,?_⟩,⟨g,λi te cs f l=>b _ _ _ f (p4 _ _ ai l)⟩,λi te cs l=>p4 _ _ ai l⟩
 ·exact aj.2 ⟨q,by rw[bg,ν rfl,fM];simp[cw,nJ]⟩
 ·exact u.bU λi k hi=>b _ _ _ (r hi) (p4 _ _ (λs e=>by cases e) hi)
 ·exact g2.bU λi k hi=>b _ _ _ (r hi) (p4 _ _ (λs e=>by cases e) hi)
 ·have t:(cw m.bad++[AV.agg [.i a,.i c]]).length=(m.bad++[(a,c)]).length:=by simp[cw]
  rw[t] at hg;exact hg.bU λi k hi=>b _ _ _ (v hi) hi
def ajK(o2)(H):cj (λ_=>false) prog 206 206 (.vec .nil []) (.vec o2 []) H=some (.vec .nil [],H):=by simp[cj,EF,EE,Zh,Oy,jt,lC,ow]
structure axg(mb:Nat)(m:Mp)(o:Ab.Own)(l:List RN)(x:RN)(n:Nat)(L:List (Nat×bH))(oc:Ab.Own)(nc:Nat)(Lc:List (Nat×bH))(j n4:Nat)(L4:List (Nat×bH)):Prop where
 cp:cj (λ_=>false) prog 206 206 (.vec .nil []) (.vec o (cV l)) ⟨n,L⟩=some (.vec oc (cV l),⟨nc,Lc⟩)
 ap:cj (λ_=>false) prog 206 206 (.vec oc (cV l)) (.vec .full [vV x]) ⟨nc,Lc⟩=some (.vec (.own j) (cV (x::l)),⟨n4,L4⟩)
 kc:∀i te cs,ab.get ⟨n,L⟩ i=some (.c te cs)->ab.get ⟨nc,Lc⟩ i=some (.c te cs)
 inv:dR mb m ⟨n4,L4⟩
 kq:Kq mb ⟨n,L⟩ ⟨n4,L4⟩
def named{mb n}{m}{L}(h:dR mb m ⟨n,L⟩)(o)(l:List RN)(hl:l.length<=1000000)(x):∃oc nc Lc j n4 L4,axg mb m o l x n L oc nc Lc j n4 L4:=by
 have a:(cV l).length=l.length:=EG l
 obtain⟨oc,⟨nc,Lc⟩,q,r,k,p1⟩:∃oc b,cj (λ_=>false) prog 206 206 (.vec .nil []) (.vec o (cV l)) ⟨n,L⟩=some (.vec oc (cV l),b)/\bY b 260 oc (cV l).length/\n<=b.next/\∀i x,(∀n,x≠.bB n 260)->ab.get ⟨n,L⟩ i=some x->b.get i=some x:=by
  by_cases c:l=[]
  ·subst c;exact⟨.nil,⟨n,L⟩,ajK o _,.inl ⟨rfl,rfl⟩,μ _,λ_ _ _ h=>h⟩
  ·obtain⟨j,b,e,g,le,p⟩:=v_ Xz (m:=λ_=>false) rfl (o:=.nil) (o2:=o) (es:=[]) (xs:=cV l) (H:=⟨n,L⟩) (.inl ⟨rfl,rfl⟩) (λe c=>by cases c) (NG _) (by intro s;apply c;have:=Λ List.length s;rw[a] at this;exact Ψ.1 this) (by simp[a];omega) (by simp[a];omega);exact⟨.own j,b,e,g,le,p⟩
 obtain⟨j,⟨n4,L4⟩,t,g2,d,p2⟩:=v_ Xz (m:=λ_=>false) rfl (o:=oc) (o2:=.full) (es:=cV l) (xs:=[vV x]) (H:=⟨nc,Lc⟩) r (NG _) (NG [x]) ai (by simp[a];omega) (by simp[a];omega);exact⟨oc,nc,Lc,j,n4,L4,q,by rw[ajJ];exact t,λi te cs f=>p1 _ _ ai f,(h.bU p1).bU p2,aDj k d,λi te cs _ f=>p2 _ _ ai (p1 _ _ ai f)⟩
def ajL:=ju cC 112 rfl rfl
def ajM:=ju cC 113 rfl rfl
def ajN:=ju cC 160 rfl rfl
def ajO:=ju cC 161 rfl rfl
def ajP:=ju cC 202 rfl rfl
attribute [go_sem] ajL ajM ajN ajO ajP
def kZ:od (.slice none 0 0)=.vec .nil []:=(rfl)
attribute [go_sem] kZ
def Zi{mb}{m}{H}(h:dR mb m H)(o)(l:List RN)(c:l.length<=1000000)(lam):∃a H',run cC 160 [.vec o (cV l),.bool lam] H=some (.vec a (cV (.e9 lam::l)),H')/\dR mb m H'/\Kq mb H H':=by
 obtain⟨n,L⟩:=H;obtain⟨oc,nc,Lc,j,n4,L4,N⟩:=named h o l c (.e9 lam);suffices hh:∃r,run cC 160 [.vec o (cV l),.bool lam] ⟨n,L⟩=some r/\∃a H',r=(.vec a (cV (.e9 lam::l)),H')/\dR mb m H'/\Kq mb ⟨n,L⟩ H' by obtain⟨r,d,a,H',rfl,q⟩:=hh;exact⟨a,H',d,q⟩
 refine g_ rfl rfl func160 rfl (by rw[ntmps160];simp) ?_;have b:=N.ap;simp[vV] at b;simp only[go_sem,seval,aZ,cQ,N.cp,b,results160];exact⟨_,rfl,_,_,rfl,N.inv,N.kq⟩
def tZ(bs:List Bi)(l:List RN):Prop:=∀i,RN.nm i∈l->i<bs.length
def tZ.tail{bs:List Bi}{x}{l:List RN}(h:tZ bs (x::l)):tZ bs l:=λi hi=>h i (Η _ hi)
def tZ.app{bs a:List Bi}{l:List RN}(h:tZ bs l)(b:bs.length<=a.length):tZ a l:=λi hi=>Nat.lt_of_lt_of_le (h i hi) b
def vw:List RN->Int
 |[]=> -1
 |_::r=>(r.length:Int)
def EH(l:List RN)(h:l.length<=1000000):IntKind.i64.wrap ((l.length:Int)-1)=vw l:=by
 rw[aDH _ (by omega)]
 cases l with
 |nil=>rfl
 |cons x r=>simp only[vw,Ι];omega
noncomputable def C7:=f112.c.r.l.r.b.b
noncomputable def QL:=C7.r.l.b.r.t.l.o
def aaX{bs}{i}{b:Bi}{w}(h:bs[i]? =some b):jd bs i w=decide (b.w=w):=by simp[jd,h]
def Zj{mb n7}{m:Mp}{o}{l:List RN}{nd:Nd}{k item}(y:l.length<=1000000)(hb:m.bad.length<=1000000000)(C:n7≠mb):∀rest pre H α,l=pre++rest->tZ m.bs rest->dR mb m H->H.get n7=some (.z (aC nd))->
  α 0=.ptr mb 0->α 1=.vec o (cV l)->α 3=.i k->α 4=.i item->α 7=.ptr n7 0->α 11=.i (vw rest)->
  aD (aJ (aP cC (run cC) aJ C7) α H) λe f H'=>e=.exit 0/\dR mb ⟨m.bs,m.ms,if sN m.bs nd.w rest then m.bad++[(nd.a,31)] else m.bad⟩ H'/\Kq mb H H'/\f 0=.ptr mb 0/\f 1=.vec o (cV l)/\f 3=.i k/\f 4=.i item/\f 7=.ptr n7 0
 |[],pre,H,α,g,t,h,q,a0,a1,a3,a4,a7,c=>by have p:C7=.seq _ _:=rfl;have s:decide ((-1:Int)≥0)=false:=rfl;simp[vw] at c;rw[aG,p];simp only[go_sem,seval,a1,c];refine⟨aK,h,Kq.refl _ _,?_⟩;simp[go_sem,a0,a3,a4,a7]
 | .e9 lam::r,pre,H,α,g,t,h,q,a0,a1,a3,a4,a7,c=>by have p:C7=.seq _ _:=rfl;have s:=bJ ((r.length:Int)≥0);have d:=K8 o pre (.e9 lam) r;rw[<-g] at d;simp[DB] at d;simp[vw] at c;rw[aG,p];simp only[go_sem,seval,ω,a1,c,s,d];refine⟨aK,h,Kq.refl _ _,?_⟩;simp[go_sem,a0,a3,a4,a7]
 | .nm i::r,pre,H,α,g,t,h,q,a0,a1,a3,a4,a7,c=>by
  have p:C7=.seq _ (.seq (.block 1 (.seq _ (.cond _ (.seq (.region 5 QL.toArray true) _) _))) _):=rfl;have s:=bJ ((r.length:Int)≥0);have d:=K8 o pre (.nm i) r;rw[<-g] at d;simp[DB] at d;simp[vw] at c;have X:r.length<=1000000:=by rw[g] at y;simp at y;omega
  obtain⟨b,F⟩:=fG (t i ai);obtain⟨n,L⟩:=H;obtain⟨tm,o1,o2,o3,j,n4,L4,G⟩:=QK h hb nd.a 31;have K:=w_ o1 F;have fM:=G.fM;obtain⟨N,S⟩:=aj.1 q;obtain⟨z74,g74⟩:=aj.1 (G.kp _ _ _ q);have D:=aF G.gm;have E:=aF S;have I:(mb<n)=True:=by obtain⟨_,_,_,_,T,_⟩:=h;exact υ (aj.1 T).1
  have M:=υ N;have ap:cj (λ_=>false) prog 87 87 (.vec o3 (cw m.bad)) (.vec .full [.agg [.i nd.a,.i 31]]) ⟨n,L⟩=some (.vec (.own j) (cw m.bad++[.agg [.i nd.a,.i 31]]),⟨n4,L4⟩):=G.ap;have J:=aaX (w:=nd.w) F;by_cases u:b.w=nd.w
  ·have v:sN m.bs nd.w (.nm i::r)=true:=by simp[sN,J,π u]
   have x:jS .eql b.w nd.w=some (.bool true):=by simp[jS,u]
   rw[v];obtain⟨B,P,O,V,U,R⟩:∃A,A=QL.toArray/\behind A A.size 9 4=true/\behind A A.size 9 6=true/\behind A A.size 12 4=true/\behind A A.size 12 6=true:=⟨_,rfl,af,af,af,af⟩;have W:∀α H,aP cC (run cC) aJ (.region 5 QL.toArray true) α H=an (eP cC (run cC) B 0 [_,_,_,_,_,_,_,_,_,_,_,_,_] [] [] α H) λr=>some (.normal,r.1,r.2):=λα H=>by rw[m_ _ _ rfl rfl,P];exact rfl
   rw[aG,p];simp only[go_sem,seval,Α,a0,a1,a7,c,s,d,K,fM,D,aF fM,E,I,M,υ G.z4,x,W,O,V,U,R,aDG,aZ,cQ,ap];refine⟨rfl,G.inv,G.kq,?_⟩;simp[go_sem,a0,a1,a3,a4,a7]
  ·have v:sN m.bs nd.w (.nm i::r)=sN m.bs nd.w r:=by simp[sN,J,ξ u]
   have x:jS .eql b.w nd.w=some (.bool false):=by simp[jS,u]
   rw[v,aG,p];simp only[go_sem,seval,Α,a0,a1,a7,c,s,d,K,D,E,I,M,x,EH r X];refine aT (Zj (o:=o) (k:=k) (item:=item) y hb C r (pre++[.nm i]) ⟨n,L⟩ _ (by rw[g];simp) t.tail h q ?_ ?_ ?_ ?_ ?_ ?_) ?_
   case refine_7=>
    rintro e f H' Q;exact Q
   all_goals simp[go_sem,a0,a1,a3,a4,a7]
noncomputable def QM:=f112.c.r.r.l.o
def anU{mb}{m:Mp}{H}(h:dR mb m H)(o)(l:List RN)(p:l.length<=1000000)(S:tZ m.bs l)(I:m.bs.length<=1000000)(J:m.bad.length<=1000000000)(nd)(k item:Nat):
  ∃e H',run cC 112 [.ptr mb 0,.vec o (cV l),aB nd,.i k,.i item] H=some (.vec e (cV (.nm m.bs.length::l)),H')/\dR mb (fe m l nd k item) H'/\Kq mb H H':=by
 suffices d:∃r,run cC 112 [.ptr mb 0,.vec o (cV l),aB nd,.i k,.i item] H=some r/\∃e H',r=(.vec e (cV (.nm m.bs.length::l)),H')/\dR mb (fe m l nd k item) H'/\Kq mb H H' by obtain⟨r,M,e,H',rfl,q⟩:=d;exact⟨e,H',M,q⟩
 refine g_ (c:=.seq _ (.seq (.seq _ (.block 0 (.loop C7))) (.seq (.region 6 QM.toArray true) _))) rfl rfl func112 rfl (by rw[ntmps112];simp) ?_;obtain⟨n,L⟩:=H;have nm:n≠mb:=by obtain⟨_,_,_,_,d,_⟩:=h;have:=(aj.1 d).1;omega
 simp only[go_sem,seval,EG,EH l p];simp only[cg];refine bL (dE (Zj (mb:=mb) (n7:=n) (m:=m) (o:=o) (l:=l) (nd:=nd) (k:=k) (item:=item) p J nm l [] ⟨n+1,(n,.z (aC nd))::L⟩ _ rfl S (h.push (.z (aC nd))) (aj.2 ⟨aa,by rw[br,ν rfl]⟩) ?_ ?_ ?_ ?_ ?_ ?_)) ?_
 case refine_7=>
  rintro _ ⟨aM,⟨n2,L2⟩,rfl,s,k2,E,b1,y,Q,b7⟩;have u:=k2.2 n none _ nm (aj.2 ⟨aa,by rw[br,ν rfl]⟩);obtain⟨tm,o1,o2,o3,j,n4,L4,G⟩:=axe s I ⟨nd.a,k,nd.w,item⟩;obtain⟨oc,nc,Lc,j6,n6,L6,N⟩:=named G.inv o l p (.nm m.bs.length);have fM:=G.fM;obtain⟨P,D⟩:=aj.1 u;obtain⟨zq4,gq4⟩:=aj.1 (G.kp _ _ _ u);have K:(mb<n2)=True:=by obtain⟨_,_,_,_,d,_⟩:=s;exact υ (aj.1 d).1
  have f:=λH=>aA7 ⟨nd.a,k,nd.w,item⟩ H;simp only at f;have g:=N.kc mb tm [.vec (.own j) (m.bs.map a_++[a_ ⟨nd.a,k,nd.w,item⟩]),.vec o2 (m.ms.map cv),.vec o3 (cw (if sN m.bs nd.w l then m.bad++[(nd.a,31)] else m.bad))] (aj.2 ⟨G.z4,by rw[bg,ν rfl,fM];rfl⟩);obtain⟨W,O⟩:=aj.1 g;have t:=N.ap;simp only[vV] at t;have b:(m.bs.map a_++[a_ ⟨nd.a,k,nd.w,item⟩]).length=m.bs.length+1:=ai;have X:=f_ (((m.bs.length+1:Nat):Int)-1) m.bs.length;obtain⟨B,C,x,T,v,R,F,U⟩:∃A,A=QM.toArray/\behind A A.size 13 4=true/\behind A A.size 13 6=true/\behind A A.size 13 9=true/\behind A A.size 16 4=true/\behind A A.size 16 6=true/\behind A A.size 16 9=true:=⟨_,rfl,af,af,af,af,af,af⟩;have V:∀α H,aP cC (run cC) aJ (.region 6 QM.toArray true) α H=an (eP cC (run cC) B 0 [_,_,_,_,_,_,_,_,_,_,_,_,_,_,_,_,_] [] [] α H) λr=>some (.normal,r.1,r.2):=λα H=>by rw[m_ _ _ rfl rfl,C];exact rfl
  simp only[go_sem,seval,E,b1,y,Q,b7,fM,aF G.gm,aF fM,aF D,K,υ P,υ G.z4,υ W,aF O,V,x,T,v,R,F,U,aDG,aZ,cQ,G.ap,N.cp,t,f,b,X,results112];refine⟨_,rfl,_,_,rfl,N.inv,(Kq.push (mb:=mb) ⟨n,L⟩ (.z (aC nd))).trans (k2.trans (G.kq.trans N.kq))⟩
 all_goals simp[go_sem,]
 all_goals rfl
noncomputable def FH:=f202.c.r.r.r.l.r.b.b
noncomputable def acg:=f202.c.r.r.r.r.l
noncomputable def Jn:=acg.r.t.o
noncomputable def Jo:=acg.r.e.r.e.r.t.o
noncomputable def Jp:=f202.c.r.r.r.r.r.o
def Found(H H':ab)(n8:Nat)(a:Nat)(wr:Bool)(b:az):Option (Nat×Nat)->Prop
 |none=>H'=H
 |some (i,d)=>H'=H.set n8 (.k 97 [.i a,.i i,.bool wr,.i 0])/\b 9=.i d
def H7{mb n6 n8}{m:Mp}{o}{l:List RN}{nd:Nd}{wr:Bool}(t:l.length<=1000000){H:ab}(h:dR mb m H)(x:H.get n6=some (.z (aC nd)))(v:H.get n8=some (.k 97 [.i nd.a,.i (-1),.bool wr,.i 0])):∀rest pre bD α,l=pre++rest->bD+rest.length<=1000000->tZ m.bs rest->
  α 0=.ptr mb 0->α 1=.vec o (cV l)->α 3=.bool wr->α 6=.ptr n6 0->α 8=.ptr n8 0->α 9=.i bD->α 10=.i (vw rest)->
  aD (aJ (aO cC FH) α H) λe d H'=>e=.exit 0/\d 0=.ptr mb 0/\d 3=.bool wr/\d 6=.ptr n6 0/\d 8=.ptr n8 0/\Found H H' n8 nd.a wr d (me m.bs nd.w rest bD)
 |[],pre,bD,α,f,u,j,a0,a1,a3,a6,a8,g,bT=>by
  have q:FH=.seq _ _:=rfl;have p:decide ((-1:Int)≥0)=false:=rfl;simp[vw] at bT;rw[aG,q];simp only[go_sem,seval,bT];refine⟨aK,?_,?_,?_,?_,rfl⟩;all_goals simp[go_sem,a0,a3,a6,a8]
 | .e9 lam::r,pre,bD,α,f,u,j,a0,a1,a3,a6,a8,g,bT=>by
  have q:FH=.seq _ _:=rfl;have p:=bJ ((r.length:Int)≥0);have c:=K8 o pre (.e9 lam) r;rw[<-f] at c;simp[DB] at c;simp[vw] at bT;have C:r.length<=1000000:=by rw[f] at t;simp at t;omega
  simp at u;have w1:=EH r C;rw[aG,q]
  cases lam with
  |true=>
   simp[go_sem,a1,g,bT,p,c,w1,(fD bD aa)];refine aT (H7 (o:=o) (l:=l) t h x v r (pre++[.e9 true]) (bD+1) _ (by rw[f];simp) aa j.tail ?_ ?_ ?_ ?_ ?_ ?_ ?_) ?_;case refine_8=>exact λe d H' s=>s
   all_goals simp[go_sem,a0,a1,a3,a6,a8]
  |false=>
   simp[go_sem,a1,bT,p,c,w1];refine aT (H7 (o:=o) (l:=l) t h x v r (pre++[.e9 false]) bD _ (by rw[f];simp) aa j.tail ?_ ?_ ?_ ?_ ?_ ?_ ?_) ?_;case refine_8=>exact λe d H' s=>s
   all_goals simp[go_sem,a0,a1,a3,a6,a8,g]
 | .nm i::r,pre,bD,α,f,u,j,a0,a1,a3,a6,a8,g,bT=>by
  have q:FH=.seq _ _:=rfl;have p:=bJ ((r.length:Int)≥0);have c:=K8 o pre (.nm i) r;rw[<-f] at c;simp[DB] at c;simp[vw] at bT;simp at u;have C:r.length<=1000000:=aa;have w1:=EH r C;obtain⟨b,G⟩:=fG (j i ai);have P:=h;obtain⟨n,L⟩:=H;obtain⟨tm,o1,o2,o3,hm,_⟩:=P;have K:=w_ o1 G;obtain⟨Q,gm⟩:=aj.1 hm;obtain⟨R,N⟩:=aj.1 x;obtain⟨T,I⟩:=aj.1 v;have F:=aF gm;have M:=aF N;have O:=aF I;have E:=υ Q;have D:=υ R;have S:=υ T;have J:=aaX (w:=nd.w) G;by_cases y:b.w=nd.w
  ·have A:me m.bs nd.w (.nm i::r) bD=some (i,bD):=by simp[me,J,π y]
   have B:jS .eql b.w nd.w=some (.bool true):=by simp[jS,y]
   rw[A,aG,q];simp only[go_sem,seval,a0,a1,a6,a8,bT,p,c,K,F,M,O,I,E,D,S,B];refine⟨rfl,?_,?_,?_,?_,rfl,?_⟩;all_goals simp[go_sem,a0,a3,a6,a8,g]
  ·have A:me m.bs nd.w (.nm i::r) bD=me m.bs nd.w r bD:=by simp[me,J,ξ y]
   have B:jS .eql b.w nd.w=some (.bool false):=by simp[jS,y]
   rw[A,aG,q];simp only[go_sem,seval,a0,a1,a6,bT,p,c,K,F,M,E,D,B,w1];refine aT (H7 (o:=o) (l:=l) t h x v r (pre++[.nm i]) bD _ (by rw[f];simp) aa j.tail ?_ ?_ ?_ ?_ ?_ ?_ ?_) ?_;case refine_8=>exact λe d H' s=>s
   all_goals simp[go_sem,a0,a1,a3,a6,a8,g]
def NH{bs}{w}:∀{l:List RN} {bD i d:Nat},me bs w l bD=some (i,d)->RN.nm i∈l
 | .e9 lam::r,bD,i,d,h=>by simp[me] at h;exact Η _ (NH h)
 | .nm j::r,bD,i,d,h=>by
  simp[me] at h;split at h
  ·simp at h;rw[h.1];simp
  ·exact Η _ (NH h)
def dR.set{mb i}{m}{H:ab}(h:dR mb m H){te}{cs}(hi:H.get i=some (.c te cs))(d:i≠mb)(y):dR mb m (H.set i y):=by
 obtain⟨tm,o1,o2,o3,hm,f,g2,g3⟩:=h;have g:∀{k n et},H.get k=some (.bB n et)->i≠k:=λ{k n et} b e=>by rw[<-e,hi] at b;cases b
 refine⟨tm,o1,o2,o3,by rw[ab.ec,κ d];exact hm,f.bU λj n a=> ?_,g2.bU λj n a=> ?_,g3.bU λj n a=> ?_⟩;all_goals(rw[ab.ec,κ (g a)];exact a)
def axh{mb n6 n8}{m:Mp}{nd:Nd}{H:ab}{α}(h:dR mb m H)(s:m.bad.length<=1000000000)(g:H.get n6=some (.z (aC nd)))(a0:α 0=.ptr mb 0)(a6:α 6=.ptr n6 0)(a8:α 8=.ptr n8 0):
  aD (aP cC (run cC) aJ (.region 12 Jn.toArray true) α H) λe b H'=>e=.normal/\dR mb ⟨m.bs,m.ms,m.bad++[(nd.a,30)]⟩ H'/\Kq mb H H'/\b 0=.ptr mb 0/\b 8=.ptr n8 0:=by
 obtain⟨n,L⟩:=H;obtain⟨tm,o1,o2,o3,j,n4,L4,G⟩:=QK h s nd.a 30;have fM:=G.fM;obtain⟨p,d⟩:=aj.1 g;have r:(mb<n)=True:=by obtain⟨_,_,_,_,l,_⟩:=h;exact υ (aj.1 l).1
 have ap:cj (λ_=>false) prog 87 87 (.vec o3 (cw m.bad)) (.vec .full [.agg [.i nd.a,.i 30]]) ⟨n,L⟩=some (.vec (.own j) (cw m.bad++[.agg [.i nd.a,.i 30]]),⟨n4,L4⟩):=G.ap;obtain⟨B,f,o,c,q,k⟩:∃A,A=Jn.toArray/\behind A A.size 9 4=true/\behind A A.size 9 6=true/\behind A A.size 12 4=true/\behind A A.size 12 6=true:=⟨_,rfl,af,af,af,af⟩;rw[m_ _ _ rfl rfl,<-f,show Jn=[_,_,_,_,_,_,_,_,_,_,_,_,_] from rfl];simp only[go_sem,seval,a0,a6,a8,fM,aF G.gm,aF fM,aF d,r,υ p,υ G.z4,o,c,q,k,aDG,aZ,cQ,ap];refine⟨aK,G.inv,G.kq,?_⟩;simp[go_sem]
def axi{mb n6 n8}{m:Mp}{nd:Nd}{H:ab}{α}(h:dR mb m H)(s:m.bad.length<=1000000000)(g:H.get n6=some (.z (aC nd)))(a0:α 0=.ptr mb 0)(a6:α 6=.ptr n6 0)(a8:α 8=.ptr n8 0):
  aD (aP cC (run cC) aJ (.region 16 Jo.toArray true) α H) λe b H'=>e=.normal/\dR mb ⟨m.bs,m.ms,m.bad++[(nd.a,35)]⟩ H'/\Kq mb H H'/\b 0=.ptr mb 0/\b 8=.ptr n8 0:=by
 obtain⟨n,L⟩:=H;obtain⟨tm,o1,o2,o3,j,n4,L4,G⟩:=QK h s nd.a 35;have fM:=G.fM;obtain⟨p,d⟩:=aj.1 g;have r:(mb<n)=True:=by obtain⟨_,_,_,_,l,_⟩:=h;exact υ (aj.1 l).1
 have ap:cj (λ_=>false) prog 87 87 (.vec o3 (cw m.bad)) (.vec .full [.agg [.i nd.a,.i 35]]) ⟨n,L⟩=some (.vec (.own j) (cw m.bad++[.agg [.i nd.a,.i 35]]),⟨n4,L4⟩):=G.ap;obtain⟨B,f,o,c,q,k⟩:∃A,A=Jo.toArray/\behind A A.size 9 4=true/\behind A A.size 9 6=true/\behind A A.size 12 4=true/\behind A A.size 12 6=true:=⟨_,rfl,af,af,af,af⟩;rw[m_ _ _ rfl rfl,<-f,show Jo=[_,_,_,_,_,_,_,_,_,_,_,_,_] from rfl];simp only[go_sem,seval,a0,a6,a8,fM,aF G.gm,aF fM,aF d,r,υ p,υ G.z4,o,c,q,k,aDG,aZ,cQ,ap];refine⟨aK,G.inv,G.kq,?_⟩;simp[go_sem]
def IV{mb n8}{m:Mp}{x:Me}{te}{H:ab}{α}(h:dR mb m H)(r:m.ms.length<=1000000)(a:H.get n8=some (.c te [.i x.at_,.i (dQ x.to),.bool x.wr,.i x.bD]))(a0:α 0=.ptr mb 0)(a8:α 8=.ptr n8 0):
  aD (aP cC (run cC) aJ (.region 17 Jp.toArray true) α H) λe ae H'=>e=.normal/\dR mb ⟨m.bs,m.ms++[x],m.bad⟩ H'/\Kq mb H H':=by
 obtain⟨n,L⟩:=H;obtain⟨tm,o1,o2,o3,j,n4,L4,G⟩:=axf h r x;have fM:=G.fM;obtain⟨f,q⟩:=aj.1 a;obtain⟨z84,g84⟩:=aj.1 (G.kp _ _ _ a);have p:(mb<n)=True:=by obtain⟨_,_,_,_,k,_⟩:=h;exact υ (aj.1 k).1
 obtain⟨B,d,l,b,o,g⟩:∃A,A=Jp.toArray/\behind A A.size 7 4=true/\behind A A.size 7 5=true/\behind A A.size 10 4=true/\behind A A.size 10 5=true:=⟨_,rfl,af,af,af,af⟩;rw[m_ _ _ rfl rfl,<-d,show Jp=[_,_,_,_,_,_,_,_,_,_,_] from rfl];simp only[go_sem,seval,a0,a8,fM,aF G.gm,aF fM,aF q,p,υ f,υ G.z4,l,b,o,g,aDG,cQ,G.ap,(λH=>aA8 x H)];exact⟨aK,G.inv,G.kq⟩
def Kq.fresh{mb i}{H0 H H':ab}(h:Kq mb H0 H)(hi:H0.next<=i)(c:H'=H\/∃y,H'=H.set i y):Kq mb H0 H':=by
 rcases c with rfl|⟨y,rfl⟩
 ·exact h
 ·refine⟨h.1,λk te cs b a=> ?_⟩;have:=ab.eg a;rw[ab.ec,bV];exact h.2 k te cs b a
def af9{mb}{m:Mp}{H}(h:dR mb m H)(o)(l:List RN)(hl:l.length<=1000000)(hn:tZ m.bs l)(D:m.ms.length<=1000000)(K_:m.bad.length<=1000000000)(nd)(wr):
  ∃H',run cC 202 [.ptr mb 0,.vec o (cV l),aB nd,.bool wr] H=some (.tup [],H')/\dR mb (eH m l nd wr) H'/\Kq mb H H':=by
 suffices T:∃r,run cC 202 [.ptr mb 0,.vec o (cV l),aB nd,.bool wr] H=some r/\∃H',r=(.tup [],H')/\dR mb (eH m l nd wr) H'/\Kq mb H H' by obtain⟨r,hr,H',rfl,q⟩:=T;exact⟨H',hr,q⟩
 refine g_ (c:=.seq _ (.seq _ (.seq _ (.seq (.seq _ (.block 0 (.loop FH))) (.seq (.seq _ (.cond _ (.region 12 Jn.toArray true) (.seq _ (.cond _ _ (.seq _ (.cond _ (.region 16 Jo.toArray true) _)))))) (.region 17 Jp.toArray true)))))) rfl rfl func202 rfl (by rw[ntmps202];simp) ?_;obtain⟨n,L⟩:=H;have P:=(h.push (.z (aC nd))).push (.k 97 [.i nd.a,.i (-1),.bool wr,.i 0]);have k1:Kq mb ⟨n,L⟩ ⟨n+1+1,(n+1,.k 97 [.i nd.a,.i (-1),.bool wr,.i 0])::(n,.z (aC nd))::L⟩:=(Kq.push (mb:=mb) ⟨n,L⟩ (.z (aC nd))).trans (Kq.push (mb:=mb) ⟨n+1,(n,.z (aC nd))::L⟩ (.k 97 [.i nd.a,.i (-1),.bool wr,.i 0]));have zmb:mb<n:=by obtain⟨_,_,_,_,T,_⟩:=h;exact(aj.1 T).1
 have y0:=aY (n<n+1);have y1:=aY (n+1<n+1+1);have y2:=dw (n+1=n);have y3:=aY (n<n+1+1);have y4:¬n=n+1:=aa;have G:ab.get ⟨n+1+1,(n+1,.k 97 [.i nd.a,.i (-1),.bool wr,.i 0])::(n,.z (aC nd))::L⟩ n=some (.z (aC nd)):=aj.2 ⟨aa,by rw[br,bV,br,ν rfl]⟩;have B:ab.get ⟨n+1+1,(n+1,.k 97 [.i nd.a,.i (-1),.bool wr,.i 0])::(n,.z (aC nd))::L⟩ (n+1)=some (.k 97 [.i nd.a,.i (-1),.bool wr,.i 0]):=aj.2 ⟨aa,by rw[br,ν rfl]⟩;simp only[go_sem,seval,y0,y1,EG,EH l hl,aZ];simp only[cg];refine bL (dE (H7 (mb:=mb) (n6:=n) (n8:=n+1) (m:=m) (o:=o) (l:=l) (nd:=nd) (wr:=wr) hl (H:=⟨n+1+1,(n+1,.k 97 [.i nd.a,.i (-1),.bool wr,.i 0])::(n,.z (aC nd))::L⟩) P G B l [] 0 _ rfl aa hn ?_ ?_ ?_ ?_ ?_ ?_ ?_)) ?_
 case refine_8=>
  rintro _ ⟨aM,v,rfl,j,b3,Z,b8,t⟩
  cases Bm:me m.bs nd.w l 0 with
  |none=>
   rw[Bm] at t;have s:eH m l nd wr=⟨m.bs,m.ms++[⟨nd.a,none,wr,0⟩],m.bad++[(nd.a,30)]⟩:=by simp only[eH,Bm]
   rw[s];simp only[Found] at t;subst t;have A:decide ((-1:Int)<0)=true:=rfl;simp only[go_sem,seval,b8,y1];refine bL (aaS (axh (n6:=n) (n8:=n+1) (nd:=nd) P K_ G ?_ ?_ ?_)) ?_
   case refine_4=>
    rintro _ ⟨_,gH,H2,rfl,rfl,J,k2,Y,f⟩;simp only[go_sem,seval,];refine aT (IV (x:=⟨nd.a,none,wr,0⟩) (n8:=n+1) J D (k2.2 _ _ _ aa B) Y f) ?_;rintro e Q M ⟨rfl,p,g⟩;simp only[go_sem,seval,results202];exact⟨_,rfl,_,rfl,p,k1.trans (k2.trans g)⟩
   all_goals simp only[go_sem,seval,j,Z,b8]
  |some q=>
   obtain⟨i,d⟩:=q;rw[Bm] at t;obtain⟨C,b9⟩:=t;obtain⟨b,gR⟩:=fG (hn i (NH Bm));have I:rE m.bs i=b.k:=by simp[rE,gR]
   have E:dR mb m v:=by rw[C];exact P.set B aa _
   have S:Kq mb ⟨n,L⟩ v:=k1.fresh (show n<=n+1 by omega) (.inr ⟨_,C⟩);have K:v.get n=some (.z (aC nd)):=by rw[C,ab.ec,bV];exact G
   have y:v.get (n+1)=some (.k 97 [.i nd.a,.i i,.bool wr,.i 0]):=by rw[C,ab.ec,ν rfl,B];rfl
   have zu:=E;obtain⟨n2,L2⟩:=v;obtain⟨tm,o1,o2,o3,hm,_⟩:=zu;have W:=w_ o1 gR;obtain⟨zm,gm⟩:=aj.1 hm;obtain⟨z8,u⟩:=aj.1 y;have O:=aF gm;have f:=aF u;have N:=υ zm;have V:=υ z8;have A:=bP ((i:Int)<0);by_cases X:3<=b.k
   ·have F:=bJ ((b.k:Int)≥3);have s:eH m l nd wr=⟨m.bs,m.ms++[⟨nd.a,some i,wr,d⟩],m.bad⟩:=by simp only[eH,Bm,I];rw[ν X]
    rw[s];simp only[go_sem,seval,j,b8,b9,f,V,u,O,N,A,W,F];have i4:=E.set y aa (.k 97 [.i nd.a,.i i,.bool wr,.i d]);have R:Kq mb ⟨n,L⟩ (ab.set ⟨n2,L2⟩ (n+1) (.k 97 [.i nd.a,.i i,.bool wr,.i d])):=S.fresh (show n<=n+1 by omega) (.inr ⟨_,rfl⟩);have U:(ab.set ⟨n2,L2⟩ (n+1) (.k 97 [.i nd.a,.i i,.bool wr,.i d])).get (n+1)=some (.k 97 [.i nd.a,.i i,.bool wr,.i d]):=by rw[ab.ec,ν rfl,y];rfl
    refine aT (IV (x:=⟨nd.a,some i,wr,d⟩) (n8:=n+1) i4 D U ?_ ?_) ?_
    case refine_3=>
     rintro e Q M ⟨rfl,p,g⟩;simp only[go_sem,seval,results202];exact⟨_,rfl,_,rfl,p,R.trans g⟩
    all_goals simp only[go_sem,seval,j,b8]
   ·have F:=bP ((b.k:Int)≥3)
    cases Bf:wr with
    |true=>
     subst Bf;have s:eH m l nd true=⟨m.bs,m.ms++[⟨nd.a,some i,true,0⟩],m.bad++[(nd.a,35)]⟩:=by simp only[eH,Bm,I];rw[κ X];simp
     rw[s];simp only[go_sem,seval,j,b3,b8,f,V,O,N,A,W,F];refine bL (aaS (axi (n6:=n) (n8:=n+1) (nd:=nd) E K_ K ?_ ?_ ?_)) ?_
     case refine_4=>
      rintro _ ⟨_,gH,H2,rfl,rfl,J,k2,Y,f⟩;simp only[go_sem,seval,];refine aT (IV (x:=⟨nd.a,some i,true,0⟩) (n8:=n+1) J D (k2.2 _ _ _ aa y) Y f) ?_;rintro e Q M ⟨rfl,p,g⟩;simp only[go_sem,seval,results202];exact⟨_,rfl,_,rfl,p,S.trans (k2.trans g)⟩
     all_goals simp only[go_sem,seval,j,Z,b8]
    |false=>
     subst Bf;have s:eH m l nd false=⟨m.bs,m.ms++[⟨nd.a,some i,false,0⟩],m.bad⟩:=by simp only[eH,Bm,I];rw[κ X,κ aA]
     rw[s];simp only[go_sem,seval,j,b3,b8,f,V,O,N,A,W,F];refine aT (IV (x:=⟨nd.a,some i,false,0⟩) (n8:=n+1) E D y ?_ ?_) ?_
     case refine_3=>
      rintro e Q M ⟨rfl,p,g⟩;simp only[go_sem,seval,results202];exact⟨_,rfl,_,rfl,p,S.trans g⟩
     all_goals simp only[go_sem,seval,j,b8]
 all_goals simp only[go_sem,seval,]
 all_goals rfl
structure iQ(m:Mp)(l:List RN)(D:Nat):Prop where
 nm:tZ m.bs l
 len:l.length<=m.bs.length+D
 bw:Bw m
def iQ.bind{m:Mp}{l}{D}(h:iQ m l D)(n)(k item):iQ (fe m l n k item) (.nm m.bs.length::l) D:=by
 refine⟨λi hi=> ?_,?_,ED h.bw _ _ _ _⟩
 ·simp[fe];rcases Ν.1 hi with hi|hi
  ·cases hi;omega
  ·have:=h.nm i hi;omega
 ·have:=h.len;simp[fe];omega
def Vw(m:Mp)(l)(n)(wr):(eH m l n wr).bs=m.bs:=by
 unfold eH;split
 ·rfl
 ·split<;>rfl
def iQ.Zk{m}{l}{D}(h:iQ m l D)(n)(wr):iQ (eH m l n wr) l D:=⟨by rw[Vw];exact h.nm,by rw[Vw];exact h.len,MI h.bw _ _ _⟩
def iQ.e9{m}{l}{D}(h:iQ m l D)(lam):iQ m (.e9 lam::l) (D+1):=by
 refine⟨λi hi=> ?_,?_,h.bw⟩
 ·rcases Ν.1 hi with hi|hi
  ·cases hi
  ·exact h.nm i hi
 ·have:=h.len;simp;omega
def iQ.up{m m':Mp}{l}{D}(h:iQ m l D)(a:Le m m')(hb:Bw m'):iQ m' l D:=⟨h.nm.app a.1,aDj h.len (by have:=a.1;omega),hb⟩
def lh(m:Mp):Prop:=m.bs.length<=500000/\m.ms.length<=1000000
def lh.le{m m':Mp}(h:lh m')(a:Le m m'):lh m:=⟨aDj a.1 h.1,aDj a.2 h.2⟩
def lh.bad{m:Mp}(h:lh m)(hb:Bw m):m.bad.length<=1000000000:=by unfold Bw at hb;have:=h.1;have:=h.2;omega
def IW{mb}{m:Mp}{H}(h:dR mb m H)(o){l}{D}(a:iQ m l D)(b:lh m)(hD:D<=400000)(nd)(k item:Nat):
  ∃c H',run cC 112 [.ptr mb 0,.vec o (cV l),aB nd,.i k,.i item] H=some (.vec c (cV (.nm m.bs.length::l)),H')/\dR mb (fe m l nd k item) H'/\Kq mb H H':=
 anU h o l (by have:=a.len;have:=b.1;omega) a.nm (by have:=b.1;omega) (b.bad a.bw) nd k item
def Wf{mb}{m}{H}(h:dR mb m H)(o){l}{D}(a:iQ m l D)(b:lh m)(hD:D<=400000)(nd)(wr):
  ∃H',run cC 202 [.ptr mb 0,.vec o (cV l),aB nd,.bool wr] H=some (.tup [],H')/\dR mb (eH m l nd wr) H'/\Kq mb H H':=
 af9 h o l (by have:=a.len;have:=b.1;omega) a.nm b.2 (b.bad a.bw) nd wr
noncomputable def JV:=f113.c.r.r.l.r.b.b
def Zl{mb item D}{oo}{p t bk:Nd}(r:D<=400000)(u:p.ks.length<=900000000000000000):∀rest i m l o H α,p.ks.drop i=rest->dR mb m H->iQ m l D->lh (iD item m l rest).1->
  α 0=.ptr mb 0->α 2=.vec oo (bA [p,t,bk])->α 3=.i item->α 10=.vec o (cV l)->α 11=.i i->
  aD (aJ (aO cC JV) α H) λe b H'=>e=.exit 0/\dR mb (iD item m l rest).1 H'/\iQ (iD item m l rest).1 (iD item m l rest).2 D/\Kq mb H H'/\b 0=.ptr mb 0/\b 2=.vec oo (bA [p,t,bk])/\b 3=.i item/\∃G,b 10=.vec G (cV (iD item m l rest).2)
 |[],i,m,l,o,H,α,a,h,c,d,a0,a2,a3,bT,j=>by
  have hi:p.ks.length<=i:=Κ.1 a;have q:JV=.seq _ _:=rfl;have k:=bP ((i:Int)<(p.ks.length:Int));have f:dC prog 69 (.vec oo (bA [p,t,bk])) (.i 0)=some (.rptr (aC p)):=mB (i:=0) oo rfl;rw[aG,q];simp only[go_sem,seval,a2,j,k,f,Pu,cz];refine⟨aK,h,c,Kq.refl _ _,?_,?_,?_,o,?_⟩;all_goals simp[go_sem,a0,a3,bT]
  rfl
 |x::rest,i,m,l,o,H,α,a,h,c,d,a0,a2,a3,bT,j=>by
  have hi:i<p.ks.length:=by
   by_cases E:i<p.ks.length
   ·exact E
   ·rw[aDk aa] at a;cases a
  have I:p.ks[i]? =some x:=by have:=Ο hi;rw[a] at this;rw[Φ hi];exact Λ some (aDM this).1.symm
  have w:p.ks.drop (i+1)=rest:=by have:=Ο hi;rw[a] at this;exact(aDM this).2.symm
  have q:JV=.seq _ _:=rfl;have k:=bJ ((i:Int)<(p.ks.length:Int));have f:dC prog 69 (.vec oo (bA [p,t,bk])) (.i 0)=some (.rptr (aC p)):=mB (i:=0) oo rfl;have g:iD item m l (x::rest)=iD item (fe m l x 3 item) (.nm m.bs.length::l) rest:=by simp[iD]
  rw[g] at d⊢;have C:lh (fe m l x 3 item):=d.le (BR _ _ _ _);obtain⟨o2,s,F,y,k2⟩:=IW h o c (C.le (ss _ _ _ _ _)) r x 3 item;have B:run cC 112 [.ptr mb 0,.vec o (cV l),aB x,.i 3,.i item] H=some (.vec o2 (cV (.nm m.bs.length::l)),s):=F;obtain⟨n,L⟩:=H;rw[aG,q];simp only[go_sem,seval,a0,a2,a3,bT,j,k,f,mB (if p.ks.isEmpty then .nil else .ro) I,Pu,cz,B,(ph (n:=i) aa)];refine aT (Zl (oo:=oo) (t:=t) (bk:=bk) r u rest (i+1) _ _ o2 s _ w y (c.bind x 3 item) d ?_ ?_ ?_ ?_ ?_) ?_
  case refine_6=>
   rintro e b H' ⟨rfl,v,J,z,A⟩;exact⟨rfl,v,J,k2.trans z,A⟩
  all_goals simp[go_sem,a0,a2,a3]
def CN(mb item:Nat)(n:Nd):Prop:=∀m l o D H,dR mb m H->iQ m l D->lh (eJ item m l n).1->D+dz n<=400000->mx n<=900000000000000000->
 ∃a H',run cC 161 [.ptr mb 0,.vec o (cV l),aB n,.i item] H=some (.vec a (cV (eJ item m l n).2),H')/\dR mb (eJ item m l n).1 H'/\iQ (eJ item m l n).1 (eJ item m l n).2 D/\Kq mb H H'
def Wg{mb item}{ks:List Nd}(ih:∀x∈ks,CN mb item x){oo}{m}{l}{o}{D}{H}{lam}(h:dR mb m H)(b:iQ m l D)(d:lh (jH item lam m l ks))(hd:D+fC ks+1<=400000)(hm:fT ks<=900000000000000000)(hlen:ks.length<=900000000000000000):
  ∃H',run cC 113 [.ptr mb 0,.vec o (cV l),.vec oo (bA ks),.i item,.bool lam] H=some (.tup [],H')/\dR mb (jH item lam m l ks) H'/\iQ (jH item lam m l ks) l D/\Kq mb H H':=by
 suffices hh:∃r,run cC 113 [.ptr mb 0,.vec o (cV l),.vec oo (bA ks),.i item,.bool lam] H=some r/\∃H',r=(.tup [],H')/\dR mb (jH item lam m l ks) H'/\iQ (jH item lam m l ks) l D/\Kq mb H H' by obtain⟨r,J,H',rfl,q⟩:=hh;exact⟨H',J,q⟩
 refine g_ (c:=.seq _ (.seq _ (.seq (.seq _ (.block 0 (.loop JV))) _))) rfl rfl func113 rfl (by rw[ntmps113];simp) ?_;by_cases u:ks.length=3
 ·obtain⟨p,t,bk,rfl⟩:=aca u;have j:(((3:Nat):Int) != 3)=false:=rfl;have z:jH item lam m l [p,t,bk]=(eJ item (iD item m (.e9 lam::l) p.ks).1 (iD item m (.e9 lam::l) p.ks).2 bk).1:=by simp[jH]
  rw[z] at d⊢;have B:lh m:=(d.le (Cb _ _ _ _)).le (BR _ _ _ _);obtain⟨o1,G,M,L,k1⟩:=Zi h o l (by have:=b.len;have:=B.1;omega) lam;have s:mx p<=900000000000000000/\mx bk<=900000000000000000:=⟨by have:=sq (l:=[p,t,bk]) (n:=p) ai;omega,by have:=sq (l:=[p,t,bk]) (n:=bk) ai;omega⟩;have hdb:dz bk<=fC [p,t,bk]:=ts ai
  have e:p.ks.length<=900000000000000000:=by
   have:=s.1
   cases p with
   |mk k f t w a ks=>rw[eN] at this;simp[Nd.ks];omega
  have K:dC prog 69 (.vec oo (bA [p,t,bk])) (.i 2)=some (.rptr (aC bk)):=mB (i:=2) oo rfl;simp only[go_sem,seval,cz,M];try simp only[cg]
  refine bL (dE (Zl (mb:=mb) (item:=item) (D:=D+1) (oo:=oo) (p:=p) (t:=t) (bk:=bk) aa e p.ks 0 m (.e9 lam::l) o1 G _ rfl L (b.e9 lam) (d.le (Cb _ _ _ _)) ?_ ?_ ?_ ?_ ?_)) ?_
  case refine_6=>
   rintro _ ⟨ae,v,rfl,y,N,k2,E,b2,A,o2,O⟩;obtain⟨o3,H3,g,I,F,C⟩:=ih bk ai _ _ o2 (D+1) v y N d aa s.2;obtain⟨n2,L2⟩:=v;simp only[go_sem,seval,E,b2,A,O,K,g,results113];refine⟨_,rfl,_,rfl,I,b.up ((BR item p.ks m _).trans (Cb item _ _ bk)) F.bw,k1.trans (k2.trans C)⟩
  all_goals simp[go_sem,]
  all_goals rfl
 ·have j:((ks.length:Int) != 3)=true:=by rw[bne_iff_ne];omega
  rw[Vu item lam m l u];simp only[go_sem,seval,cz,j,results113];exact⟨_,rfl,_,rfl,h,b,Kq.refl _ _⟩
noncomputable def JW:=f161.c.r.r.r.r
noncomputable def JX:=JW.l.r.b.b
def Zm{mb item D n6}{nd:Nd}{o1}(A:n6≠mb)(B:nd.ks.length<=900000000000000000):∀rest i m l o H α,nd.ks.drop i=rest->(∀x∈rest,CN mb item x)->(∀x∈rest,D+dz x<=400000/\mx x<=900000000000000000)->dR mb m H->iQ m l D->lh (dj item m l rest).1->H.get n6=some (.z (aC nd))->
  α 0=.ptr mb 0->α 1=o1->α 3=.i item->α 6=.ptr n6 0->α 9=.vec o (cV l)->α 10=.i i->
  aD (aJ (aO cC JX) α H) λe b H'=>e=.exit 1/\dR mb (dj item m l rest).1 H'/\iQ (dj item m l rest).1 (dj item m l rest).2 D/\Kq mb H H'/\b 0=.ptr mb 0/\b 1=o1/\b 3=.i item/\b 6=.ptr n6 0/\∃M,b 9=.vec M (cV (dj item m l rest).2)
 |[],i,m,l,o,H,α,a,ih,c,h,q,f,d,a0,a1,a3,a6,t,bT=>by
  have hi:nd.ks.length<=i:=Κ.1 a;have w:JX=.seq _ _:=rfl;have u:=bP ((i:Int)<(nd.ks.length:Int));obtain⟨n,L⟩:=H;obtain⟨s,g⟩:=aj.1 d;have v:=aF g;have k:=υ s;have p:=rF nd;rw[aG,w];simp only[go_sem,seval,a6,bT,u,v,k,p,cz];refine⟨aK,h,q,Kq.refl _ _,?_,?_,?_,?_,o,?_⟩;all_goals simp[go_sem,a0,a1,a3,t]
  rfl
 |x::rest,i,m,l,o,H,α,a,ih,c,h,q,f,d,a0,a1,a3,a6,t,bT=>by
  have hi:i<nd.ks.length:=by
   by_cases J:i<nd.ks.length
   ·exact J
   ·rw[aDk aa] at a;cases a
  have N:nd.ks[i]? =some x:=by have:=Ο hi;rw[a] at this;rw[Φ hi];exact Λ some (aDM this).1.symm
  have E:nd.ks.drop (i+1)=rest:=by have:=Ο hi;rw[a] at this;exact(aDM this).2.symm
  have w:JX=.seq _ _:=rfl;have u:=bJ ((i:Int)<(nd.ks.length:Int));have j:dj item m l (x::rest)=dj item (eJ item m l x).1 (eJ item m l x).2 rest:=by simp[dj]
  rw[j] at f⊢;obtain⟨o2,O,K,F,P,k2⟩:=ih x ai m l o D H h q (f.le (yg _ _ _ _)) (c x ai).1 (c x ai).2;obtain⟨n,L⟩:=H;obtain⟨s,g⟩:=aj.1 d;have v:=aF g;have k:=υ s;have p:=rF nd;rw[aG,w];simp only[go_sem,seval,a0,a3,a6,t,bT,u,mB (if nd.ks.isEmpty then .nil else .ro) N,v,k,p,cz,K,(ph (n:=i) aa)];refine aT (Zm (o1:=o1) A B rest (i+1) _ _ o2 O _ E (λy r=>ih y (by simp[r])) (λy r=>c y (by simp[r])) F P f (k2.2 _ _ _ A d) ?_ ?_ ?_ ?_ ?_ ?_) ?_
  case refine_7=>
   rintro e b H' ⟨rfl,C,Q,G,I⟩;exact⟨rfl,C,Q,k2.trans G,I⟩
  all_goals simp[go_sem,a0,a1,a3,a6]
def pn(item:Nat)(nd:Nd)(l:List RN)(q:Mp×List RN):Mp×List RN:=if nd.k=7 then(fe q.1 q.2 nd 4 item,.nm q.1.bs.length::q.2) else if nd.k=6 then(q.1,l) else q
def Oz{mb item D n6}{nd:Nd}{m}{l1 l}{o o9}{H:ab}{α}(w:n6≠mb)(E:nd.ks.length<=900000000000000000)(I:D<=400000)(ih:∀x∈nd.ks,CN mb item x)(S:∀x∈nd.ks,D+dz x<=400000/\mx x<=900000000000000000)(h:dR mb m H)(N:iQ m l1 D)(C:lh (dj item m l1 nd.ks).1)(B:H.get n6=some (.z (aC nd)))
  (a0:α 0=.ptr mb 0) (a1:α 1=.vec o (cV l)) (a3:α 3=.i item) (a6:α 6=.ptr n6 0) (P:α 9=.vec o9 (cV l1)):
  aD (aO cC JW α H) λe y H'=>e=.ret/\iQ (dj item m l1 nd.ks).1 (dj item m l1 nd.ks).2 D/\dR mb (pn item nd l (dj item m l1 nd.ks)).1 H'/\Kq mb H H'/\∃R,y 8=.vec R (cV (pn item nd l (dj item m l1 nd.ks)).2):=by
 have U:JW=.seq (.seq _ (.block 1 (.loop JX))) (.seq (.seq _ (.cond _ _ _)) (.seq (.seq _ (.cond _ _ _)) _)):=rfl;rw[U];simp[go_sem,];simp[cg];refine bL (dE (Zm (D:=D) (o1:=.vec o (cV l)) w E nd.ks 0 m l1 o9 H _ rfl ih S h N C B ?_ ?_ ?_ ?_ ?_ ?_)) ?_
 case refine_7=>
  rintro _ ⟨y,t,rfl,v,n,k1,M,b1,F,r,o2,A⟩;have b:=k1.2 _ _ _ w B;have c:((nd.k:Int)==7)=decide (nd.k=7):=ez nd.k 7;have j:((nd.k:Int)==6)=decide (nd.k=6):=ez nd.k 6;have s:=Fl nd;by_cases d:nd.k=7
  ·have a:pn item nd l (dj item m l1 nd.ks)=(fe (dj item m l1 nd.ks).1 (dj item m l1 nd.ks).2 nd 4 item,.nm (dj item m l1 nd.ks).1.bs.length::(dj item m l1 nd.ks).2):=ν d;rw[π d] at c;rw[a];obtain⟨o3,⟨G,K⟩,Q,O,L⟩:=IW v o2 n C I nd 4 item;have J:run cC 112 [.ptr mb 0,.vec o2 (cV (dj item m l1 nd.ks).2),aB nd,.i 4,.i item] t=some (.vec o3 (cV (.nm (dj item m l1 nd.ks).1.bs.length::(dj item m l1 nd.ks).2)),⟨G,K⟩):=Q;obtain⟨n2,T⟩:=t;obtain⟨u,q⟩:=aj.1 b;have p:=aF q;have g:=υ u;simp only[go_sem,seval,M,F,r,A,p,g,s,c,J];refine⟨aK,n,O,k1.trans L,o3,?_⟩;simp[go_sem,]
  ·rw[ξ d] at c;obtain⟨n2,T⟩:=t;obtain⟨u,q⟩:=aj.1 b;have p:=aF q;have g:=υ u;by_cases f:nd.k=6
   ·have a:pn item nd l (dj item m l1 nd.ks)=((dj item m l1 nd.ks).1,l):=by
     unfold pn;rw[κ d,ν f]
    rw[π f] at j;rw[a];simp only[go_sem,seval,b1,r,p,g,s,c,j];refine⟨aK,n,v,k1,o,?_⟩;simp[go_sem,]
   ·have a:pn item nd l (dj item m l1 nd.ks)=dj item m l1 nd.ks:=by
     unfold pn;rw[κ d,κ f]
    rw[ξ f] at j;rw[a];simp only[go_sem,seval,r,A,p,g,s,c,j];refine⟨aK,n,v,k1,o2,?_⟩;simp[go_sem,]
 all_goals simp[go_sem,a0,a1,a3,a6,P]
 all_goals rfl
set_option maxHeartbeats 16000000
def ahf(item)(nd:Nd)(m)(l)(d:nd.k≠23)(e:nd.k≠28)(c:nd.k≠8)(b:nd.k≠6):eJ item m l nd=pn item nd l (dj item m l nd.ks):=by
 unfold pn;by_cases a:nd.k=7
 ·rw[ν a,Zd _ _ _ a]
 ·rw[κ a,κ b,Vv _ _ _ d e c a b]
def aga{mb item}{nd:Nd}(ih:∀x∈nd.ks,CN mb item x):CN mb item nd:=by
 intro m l o D H h j b hd hm;suffices Y:∃r,run cC 161 [.ptr mb 0,.vec o (cV l),aB nd,.i item] H=some r/\∃o' H',r=(.vec o' (cV (eJ item m l nd).2),H')/\dR mb (eJ item m l nd).1 H'/\iQ (eJ item m l nd).1 (eJ item m l nd).2 D/\Kq mb H H' by obtain⟨r,hr,o',H',rfl,q⟩:=Y;exact⟨o',H',hr,q⟩
 have hdk:fC nd.ks+1=dz nd:=by cases nd with|mk k f t w a ks=>rw[tI];simp[Nd.ks]
 have P:fT nd.ks<=900000000000000000/\nd.ks.length<=900000000000000000:=by
  cases nd with
  |mk k f t w a ks=>rw[eN] at hm;simp[Nd.ks];omega
 obtain⟨n,L⟩:=H;have M:=h.push (.z (aC nd));have k1:=Kq.push (mb:=mb) ⟨n,L⟩ (.z (aC nd));have J:n≠mb:=by obtain⟨_,_,_,_,Y,_⟩:=h;have:=(aj.1 Y).1;omega
 have U:ab.get ⟨n+1,(n,.z (aC nd))::L⟩ n=some (.z (aC nd)):=aj.2 ⟨aa,by rw[br,ν rfl]⟩;have O:=aY (n<n+1);have I:=Fl nd;have d:((nd.k:Int)==23)=decide (nd.k=23):=ez nd.k 23;have g:((nd.k:Int)==28)=decide (nd.k=28):=ez nd.k 28;have u:((nd.k:Int)==8)=decide (nd.k=8):=ez nd.k 8;have G:((nd.k:Int)==6)=decide (nd.k=6):=ez nd.k 6;refine g_ (c:=.seq _ (.seq (.seq _ (.block 0 _)) (.seq _ (.seq (.seq _ (.cond _ _ _)) JW)))) rfl rfl func161 rfl (by rw[ntmps161];simp) ?_;by_cases S:nd.k=23
 ·rw[Xr item m l S] at b⊢;rw[π S] at d;obtain⟨⟨n2,C⟩,A,s,k2⟩:=Wf M o j (b.le (BI _ _ _ _)) aa nd false;have v:run cC 202 [.ptr mb 0,.vec o (cV l),aB nd,.bool false] ⟨n+1,(n,.z (aC nd))::L⟩=some (.tup [],⟨n2,C⟩):=A;simp only[go_sem,seval,O,I,d,v,results161];exact⟨_,rfl,_,_,rfl,s,j.Zk nd false,k1.trans k2⟩
 ·rw[ξ S] at d;by_cases T:nd.k=28
  ·rw[Xs item m l T] at b⊢;rw[π T] at g;rw[bP _] at u;obtain⟨⟨n2,C⟩,A,s,l2,k2⟩:=Wg ih (oo:=if nd.ks.isEmpty then .nil else .ro) (o:=o) (D:=D) (lam:=true) M j b aa P.1 P.2;have v:run cC 113 [.ptr mb 0,.vec o (cV l),.vec (if nd.ks.isEmpty then .nil else .ro) (bA nd.ks),.i item,.bool true] ⟨n+1,(n,.z (aC nd))::L⟩=some (.tup [],⟨n2,C⟩):=A;simp only[go_sem,seval,O,I,rF nd,d,u,g,v,results161];exact⟨_,rfl,_,_,rfl,s,l2,k1.trans k2⟩
  ·rw[ξ T] at g;by_cases R:nd.k=8
   ·have F:eJ item m l nd=dj item (eH m l nd true) l nd.ks:=Ze item m l R;rw[F] at b⊢;rw[π R] at u;rw[bP _] at G;obtain⟨⟨n2,C⟩,A,s,k2⟩:=Wf M o j ((b.le (yg _ _ _ _)).le (BI _ _ _ _)) aa nd true;have v:run cC 202 [.ptr mb 0,.vec o (cV l),aB nd,.bool true] ⟨n+1,(n,.z (aC nd))::L⟩=some (.tup [],⟨n2,C⟩):=A;have Q:=k2.2 _ _ _ J U;obtain⟨Z,X⟩:=aj.1 Q;have V:pn item nd l (dj item (eH m l nd true) l nd.ks)=dj item (eH m l nd true) l nd.ks:=by unfold pn;rw[bV,bV]
    simp only[go_sem,seval,O,I,d,u,G,v,aF X,υ Z];refine aT (Oz (D:=D) (item:=item) (l:=l) (l1:=l) (o:=o) (o9:=o) (nd:=nd) J P.2 aa ih (λx p=>⟨by have:=ts p;omega,by have:=sq p;omega⟩) s (j.Zk nd true) b Q ?_ ?_ ?_ ?_ ?_) ?_
    case refine_6=>
     rintro e ae ⟨n3,L3⟩ ⟨rfl,E,y,K,o3,b8⟩;rw[V] at y b8;simp only[go_sem,seval,b8,results161];exact⟨_,rfl,_,_,rfl,y,E,k1.trans (k2.trans K)⟩
    all_goals simp[go_sem,]
   ·rw[ξ R] at u;by_cases B:nd.k=6
    ·have F:eJ item m l nd=((dj item m (.e9 false::l) nd.ks).1,l):=Zc item m l B;rw[F] at b⊢;rw[π B] at G;have ky:lh m:=b.le (yg _ _ _ _);obtain⟨o2,⟨n2,C⟩,A,s,k2⟩:=Zi M o l (by have:=j.len;have:=ky.1;omega) false;have v:run cC 160 [.vec o (cV l),.bool false] ⟨n+1,(n,.z (aC nd))::L⟩=some (.vec o2 (cV (.e9 false::l)),⟨n2,C⟩):=A;have Q:=k2.2 _ _ _ J U;have V:pn item nd l (dj item m (.e9 false::l) nd.ks)=((dj item m (.e9 false::l) nd.ks).1,l):=by unfold pn;rw[bV,ν B]
     simp only[go_sem,seval,O,I,d,u,g,G,v];refine aT (Oz (D:=D+1) (item:=item) (l:=l) (l1:=.e9 false::l) (o:=o) (o9:=o2) (nd:=nd) J P.2 aa ih (λx p=>⟨by have:=ts p;omega,by have:=sq p;omega⟩) s (j.e9 false) b Q ?_ ?_ ?_ ?_ ?_) ?_
     case refine_6=>
      rintro e ae ⟨n3,L3⟩ ⟨rfl,E,y,K,o3,b8⟩;rw[V] at y b8;simp only[go_sem,seval,b8,results161];exact⟨_,rfl,_,_,rfl,y,j.up (yg item m _ nd.ks) E.bw,k1.trans (k2.trans K)⟩
     all_goals simp[go_sem,]
    ·have F:eJ item m l nd=pn item nd l (dj item m l nd.ks):=ahf item nd m l S T R B;rw[ξ B] at G
     have W:lh (dj item m l nd.ks).1:=by
      rw[F] at b;unfold pn at b;by_cases N:nd.k=7
      ·rw[ν N] at b;exact b.le (ss _ _ _ _ _)
      ·rw[κ N,κ B] at b;exact b
     rw[F];simp only[go_sem,seval,O,I,d,u,g,G];refine aT (Oz (D:=D) (item:=item) (l:=l) (l1:=l) (o:=o) (o9:=o) (nd:=nd) J P.2 aa ih (λx p=>⟨by have:=ts p;omega,by have:=sq p;omega⟩) M j W U ?_ ?_ ?_ ?_ ?_) ?_
     case refine_6=>
      rintro e ae ⟨n3,L3⟩ ⟨rfl,E,y,K,o3,b8⟩;simp only[go_sem,seval,b8,results161];refine⟨_,rfl,_,_,rfl,y,?_,k1.trans K⟩;unfold pn;by_cases N:nd.k=7
      ·rw[ν N];exact E.bind nd 4 item
      ·rw[κ N,κ B];exact E
     all_goals simp[go_sem,]
def Wh(mb item):∀nd:Nd,CN mb item nd
 | .mk k f t w a ks=>aga λx b=>Wh mb item x
 termination_by nd=>SizeOf.sizeOf nd
 decreasing_by
  have:=List.sizeOf_lt_of_mem b;simp[Nd.ks] at this;simp[Nd.mk.sizeOf_spec];omega
def atf(n):cr prog 71 0 (.rptr (aC n))=some (.rptr (aC n)):=by
 cases n with
 |mk k f t w a ks=>exact YJ _ _ _ _ _ _
attribute [go_sem] atf
noncomputable def JY:=f74.c.r.r.r.l.r.b.b
noncomputable def JZ:=f74.c.r.r.r.r.l.r.b.b
def H8{n:Nd}(F:n.ks.length<=900000000000000000):∀rest i m l o H α,n.ks.drop i=rest->dR 2 m H->iQ m l 0->lh (dO i m l rest).1->H.get 0=some (.z (aC n))->
  α 1=.ptr 0 0->α 2=.ptr 1 0->α 3=.ptr 2 0->α 4=.vec o (cV l)->α 5=.i i->
  aD (aJ (aO cC JY) α H) λe c H'=>e=.exit 0/\dR 2 (dO i m l rest).1 H'/\iQ (dO i m l rest).1 (dO i m l rest).2 0/\Kq 2 H H'/\c 1=.ptr 0 0/\c 2=.ptr 1 0/\c 3=.ptr 2 0/\∃V,c 4=.vec V (cV (dO i m l rest).2)
 |[],i,m,l,o,H,α,f,h,d,b,g,a1,a2,a3,a4,a5=>by
  have hi:n.ks.length<=i:=Κ.1 f;have y:JY=.seq _ _:=rfl;have v:=bP ((i:Int)<(n.ks.length:Int));obtain⟨D,L⟩:=H;obtain⟨R,M⟩:=aj.1 g;have A:=aF M;have t0:=υ R;have r:=rF n;rw[aG,y];simp only[go_sem,seval,a1,a5,v,A,t0,r,cz];refine⟨aK,h,d,Kq.refl _ _,?_,?_,?_,o,?_⟩;all_goals simp[go_sem,a2,a3,a4]
  rfl
 |x::rest,i,m,l,o,H,α,f,h,d,b,g,a1,a2,a3,a4,a5=>by
  have hi:i<n.ks.length:=by
   by_cases U:i<n.ks.length
   ·exact U
   ·rw[aDk aa] at f;cases f
  have W:n.ks[i]? =some x:=by have:=Ο hi;rw[f] at this;rw[Φ hi];exact Λ some (aDM this).1.symm
  have I:n.ks.drop (i+1)=rest:=by have:=Ο hi;rw[f] at this;exact(aDM this).2.symm
  have y:JY=.seq _ _:=rfl;have v:=bJ ((i:Int)<(n.ks.length:Int));have T:=mB (if n.ks.isEmpty then .nil else .ro) W;have N:=ph (n:=i) aa;have p:((x.k:Int)==2)=decide (x.k=2):=ez x.k 2;have j:((x.k:Int)==3)=decide (x.k=3):=ez x.k 3;have S:=Fl x;obtain⟨D,L⟩:=H;obtain⟨R,M⟩:=aj.1 g;have A:=aF M;have t0:=υ R;have r:=rF n;by_cases t:x.k=2
  ·rw[π t] at p;rw[bP _] at j;have a:dO i m l (x::rest)=dO (i+1) (fe m l x 1 i) (.nm m.bs.length::l) rest:=by simp[dO,t]
   rw[a] at b⊢;have K:lh (fe m l x 1 i):=b.le (zY _ _ _ _);obtain⟨o2,⟨n2,w⟩,P,G,k2⟩:=IW h o d (K.le (ss _ _ _ _ _)) aa x 1 i;have J:run cC 112 [.ptr 2 0,.vec o (cV l),aB x,.i 1,.i i] ⟨D,L⟩=some (.vec o2 (cV (.nm m.bs.length::l)),⟨n2,w⟩):=P;have C:=k2.2 _ _ _ aA g;obtain⟨O,Q⟩:=aj.1 C;rw[aG,y];simp only[go_sem,seval,a1,a3,a4,a5,v,T,A,t0,aF Q,υ O,r,S,cz,J,N,p,j];refine aT (H8 (n:=n) F rest (i+1) _ _ o2 ⟨n2,w⟩ _ I G (d.bind x 1 i) b C ?_ ?_ ?_ ?_ ?_) ?_
   case refine_6=>
    rintro e c H' ⟨rfl,q,B,s,u⟩;exact⟨rfl,q,B,k2.trans s,u⟩
   all_goals simp[go_sem,a1,a2,a3]
  ·rw[ξ t] at p;by_cases E:x.k=3
   ·rw[π E] at j;have a:dO i m l (x::rest)=dO (i+1) (fe m l x 2 i) (.nm m.bs.length::l) rest:=by simp[dO];rw[κ t,ν E]
    rw[a] at b⊢;have K:lh (fe m l x 2 i):=b.le (zY _ _ _ _);obtain⟨o2,⟨n2,w⟩,P,G,k2⟩:=IW h o d (K.le (ss _ _ _ _ _)) aa x 2 i;have J:run cC 112 [.ptr 2 0,.vec o (cV l),aB x,.i 2,.i i] ⟨D,L⟩=some (.vec o2 (cV (.nm m.bs.length::l)),⟨n2,w⟩):=P;have C:=k2.2 _ _ _ aA g;rw[aG,y];simp only[go_sem,seval,a1,a3,a4,a5,v,T,A,t0,r,S,cz,J,N,p,j];refine aT (H8 (n:=n) F rest (i+1) _ _ o2 ⟨n2,w⟩ _ I G (d.bind x 2 i) b C ?_ ?_ ?_ ?_ ?_) ?_
    case refine_6=>
     rintro e c H' ⟨rfl,q,B,s,u⟩;exact⟨rfl,q,B,k2.trans s,u⟩
    all_goals simp[go_sem,a1,a2,a3]
   ·rw[ξ E] at j;have a:dO i m l (x::rest)=dO (i+1) m l rest:=by simp[dO];rw[κ t,κ E]
    rw[a] at b⊢;rw[aG,y];simp only[go_sem,seval,a1,a5,v,T,A,t0,r,S,cz,N,p,j];refine aT (H8 (n:=n) F rest (i+1) _ _ o ⟨D,L⟩ _ I h d b g ?_ ?_ ?_ ?_ ?_) ?_
    case refine_6=>
     rintro e c H' ⟨rfl,q,B,s,u⟩;exact⟨rfl,q,B,s,u⟩
    all_goals simp[go_sem,a1,a2,a3,a4]
def OA{n:Nd}{l}{o}(K:n.ks.length<=900000000000000000)(I:∀x∈n.ks,dz x<=300000/\mx x<=900000000000000000):∀rest i m H α,n.ks.drop i=rest->dR 2 m H->iQ m l 0->lh (gk l i m rest)->H.get 0=some (.z (aC n))->
  α 1=.ptr 0 0->α 2=.ptr 1 0->α 3=.ptr 2 0->α 4=.vec o (cV l)->α 6=.i i->
  aD (aJ (aO cC JZ) α H) λe j H'=>e=.exit 2/\dR 2 (gk l i m rest) H'/\iQ (gk l i m rest) l 0/\Kq 2 H H'/\j 1=.ptr 0 0/\j 2=.ptr 1 0/\j 3=.ptr 2 0
 |[],i,m,H,α,c,h,q,d,g,a1,a2,a3,a4,a6=>by
  have hi:n.ks.length<=i:=Κ.1 c;have v:JZ=.seq _ _:=rfl;have u:=bP ((i:Int)<(n.ks.length:Int));obtain⟨Q,L⟩:=H;obtain⟨G,B⟩:=aj.1 g;have A:=aF B;have t0:=υ G;have p:=rF n;rw[aG,v];simp only[go_sem,seval,a1,a6,u,A,t0,p,cz];refine⟨aK,h,q,Kq.refl _ _,?_,?_,?_⟩;all_goals simp[go_sem,a2,a3]
 |x::rest,i,m,H,α,c,h,q,d,g,a1,a2,a3,a4,a6=>by
  have hi:i<n.ks.length:=by
   by_cases V:i<n.ks.length
   ·exact V
   ·rw[aDk aa] at c;cases c
  have P:n.ks[i]? =some x:=by have:=Ο hi;rw[c] at this;rw[Φ hi];exact Λ some (aDM this).1.symm
  have M:n.ks.drop (i+1)=rest:=by have:=Ο hi;rw[c] at this;exact(aDM this).2.symm
  have v:JZ=.seq _ _:=rfl;have u:=bJ ((i:Int)<(n.ks.length:Int));have S:=mB (if n.ks.isEmpty then .nil else .ro) P;have O:=ph (n:=i) aa;have r:((x.k:Int)==3)=decide (x.k=3):=ez x.k 3;have R:=Fl x;obtain⟨F3,X⟩:=I x (Β P);obtain⟨Q,L⟩:=H;obtain⟨G,B⟩:=aj.1 g;have A:=aF B;have t0:=υ G;have p:=rF n;by_cases s:x.k=3
  ·rw[π s] at r;have b:gk l i m (x::rest)=gk l (i+1) (jH i false m l x.ks) rest:=by simp[gk];rw[ν s]
   rw[b] at d⊢;have U:lh (jH i false m l x.ks):=d.le (Cc _ _ _ _)
   have N:fT x.ks<=900000000000000000/\x.ks.length<=900000000000000000/\fC x.ks<=300000:=by
    cases x with
    |mk k f t w a Ds=>rw[eN] at X;rw[tI] at F3;simp[Nd.ks];omega
   obtain⟨⟨n2,Y⟩,W,T,Z,k2⟩:=Wg (mb:=2) (item:=i) (ks:=x.ks) (λy _=>Wh 2 i y) (oo:=if x.ks.isEmpty then .nil else .ro) (o:=o) (D:=0) (lam:=false) h q U aa N.1 N.2.1;rw[aG,v];simp only[go_sem,seval,a1,a3,a4,a6,u,S,A,t0,p,R,cz,W,O,r];refine aT (OA (n:=n) (o:=o) K I rest (i+1) _ ⟨n2,Y⟩ _ M T Z d (k2.2 _ _ _ aA g) ?_ ?_ ?_ ?_ ?_) ?_
   case refine_6=>
    rintro e j H' ⟨rfl,C,J,E,F⟩;exact⟨rfl,C,J,k2.trans E,F⟩
   all_goals simp[go_sem,a1,a2,a3,a4]
  ·rw[ξ s] at r;have b:gk l i m (x::rest)=gk l (i+1) m rest:=by simp[gk];rw[κ s]
   rw[b] at d⊢;rw[aG,v];simp only[go_sem,seval,a1,a6,u,S,A,t0,p,R,cz,O,r];refine aT (OA (n:=n) (o:=o) K I rest (i+1) _ ⟨Q,L⟩ _ M h q d g ?_ ?_ ?_ ?_ ?_) ?_
   case refine_6=>
    rintro e j H' ⟨rfl,C,J,E,F⟩;exact⟨rfl,C,J,E,F⟩
   all_goals simp[go_sem,a1,a2,a3,a4]
def R5(o){l}{i:Nat}{p:Nat×Nat}(h:l[i]? =some p):dC prog 87 (.vec o (cw l)) (.i i)=some (.rptr [.i p.1,.i p.2]):=by
 have:(cw l)[i]? =some (.agg [.i p.1,.i p.2]):=by simp[cw,h,nJ]
 simp[dC,Cu,zZ,this,AV.width,AV.cells]
def su(l:List (Nat×Nat)):(cw l).length=l.length:=by simp[cw]
def Zn(l r):cw (l++r)=cw l++cw r:=by simp[cw]
def QN{H:ab}{o o2}{es xs:List (Nat×Nat)}(h:bY H 210 o es.length)(k:es.length+xs.length<=2000000000):∃q H',cj (λ_=>false) prog 87 87 (.vec o (cw es)) (.vec o2 (cw xs)) H=some (.vec q (cw (es++xs)),H')/\bY H' 210 q (es++xs).length/\H.next<=H'.next/\∀i te cs,H.get i=some (.c te cs)->H'.get i=some (.c te cs):=by
 by_cases r:xs=[]
 ·subst r;rw[aDi];rcases h with⟨rfl,a⟩|⟨rfl,a⟩|⟨a,j,rfl,f⟩
  ·have d:es=[]:=Ψ.1 a;subst d;refine⟨.nil,H,?_,.inl ⟨rfl,rfl⟩,μ _,λ_ _ _ h=>h⟩;simp[cj,Cu,zZ,Pz,IQ,jt,lC,ow,cw]
  ·refine⟨.full,H,?_,.inr (.inl ⟨rfl,a⟩),μ _,λ_ _ _ h=>h⟩;have n:=(uQ es).jU z_;have l:=(uQ ([]:List (Nat×Nat))).jU z_;simp[cw] at n l⊢;simp only[cj,Cu,zZ,Pz,IQ,jt,lC];simp only[Χ,aEp] at k;rw[ν ⟨trivial,aA,rfl⟩];simp only[τ,aDf];rw[ν ⟨n,l,aX,aX⟩];simp
  ·have d:=GW (m:=λ_=>false) z_ (o2:=o2) (xs:=cw []) (j:=j) (es:=cw es) (H:=H) (by rw[su];exact f) (uQ _) (uQ _) (by simp[cw];simp at k;omega) (by simp[cw];simp at k;omega);simp[cw] at d⊢;refine⟨.own j,_,d,.inr (.inr ⟨a,j,rfl,by rw[ab.ec,ν rfl,f];rfl⟩),μ _,λi te cs b=> ?_⟩;rw[ab.ec,κ (by rintro rfl;rw[f] at b;cases b)];exact b
 ·obtain⟨j,H',e,g,le,p⟩:=v_ z_ (m:=λ_=>false) rfl (o:=o) (o2:=o2) (es:=cw es) (xs:=cw xs) (H:=H) (by rw[su];exact h) (uQ _) (uQ _) (by intro s;apply r;have:=Λ List.length s;rw[su] at this;exact Ψ.1 this) (by rw[su,su];omega) (by rw[su,su];omega);refine⟨.own j,H',by rw[Zn];exact e,by rw[<-Zn,su] at g;exact g,le,λi te cs b=>p _ _ ai b⟩
def axj(o)(s:List (Nat×Nat))(x)(a:x<=s.length):jT prog 87 none (some (.i x)) (.vec o (cw s))=some (.vec .ro (cw (s.take x))):=by
 have qM:x<=(cw s).length:=by rw[su];exact a
 have b1:nN (cw s).length none (some (.i x))=some (0,x):=by simp only[nN,j_];rw[ν ⟨aa,aa⟩];simp
 simp[jT,(uQ s).jU z_,b1];simp[cw,List.map_take,o6]
def axk(o)(s:List (Nat×Nat))(x)(b:x<=s.length):∃a,jT prog 87 (some (.i x)) none (.vec o (cw s))=some (.vec a (cw (s.drop x))):=by
 have qM:x<=(cw s).length:=by rw[su];exact b
 refine⟨o6 o none (strOf prog 87) x,?_⟩;have b1:nN (cw s).length (some (.i x)) none=some (x,(cw s).length):=by simp only[nN,j_];rw[ν ⟨aa,aa⟩];simp
 simp[jT,(uQ s).jU z_,b1,aFp];simp[cw,List.map_drop]
noncomputable def FJ:=f74.c.r.r.r.r.r.r.l.r.b.b
noncomputable def Li:=FJ.r.l.b.r.l.b.b
structure Lj(C:List AV)(o3:Ab.Own)(bad:List (Nat×Nat))(s:List (Nat×Nat))(o7:Ab.Own)(i:Nat)(α:az)(H:ab):Prop where
 g:∃tm,H.get 2=some (.cells tm C)
 c2:C[2]? =some (.vec o3 (cw bad))
 a2:α 2=.ptr 1 0
 a3:α 3=.ptr 2 0
 a7:α 7=.vec o7 (cw s)
 a8:α 8=.i i
 b7:o7.bare=au s.length
def Zo{C}{o3 o7:Ab.Own}{bad s:List (Nat×Nat)}{i:Nat}(hi:i<bad.length)(B:s.length<=1000000000):∀x α H,x<=s.length->Lj C o3 bad s o7 i α H->α 9=.i x->
  aD (aJ (aO cC Li) α H) λe k H'=>e=.exit 6/\H'=H/\Lj C o3 bad s o7 i k H/\∃y:Nat,y<=s.length/\k 9=.i y
 |0,α,H,w,h,c=>by
  have d:Li=.seq _ _:=rfl;have j:=Gk (a:=0) (b:=0) aa;obtain⟨⟨tm,g⟩,c2,a2,a3,a7,a8,b7⟩:=h;have l:α 9=.i 0:=c;rw[aG,d];simp only[go_sem,seval,l];refine⟨aK,aK,⟨⟨tm,g⟩,c2,?_,?_,?_,?_,b7⟩,0,aa,?_⟩;all_goals(try simp[go_sem,a2,a3,a7,a8])
  all_goals(try rfl)
 |x+1,α,H,w,h,c=>by
  have d:Li=.seq _ _:=rfl;have j:=bJ (((x+1:Nat):Int)>0);have w1:=w8 (x+1) aa aa;simp only[aFC] at w1;obtain⟨⟨tm,g⟩,c2,a2,a3,a7,a8,b7⟩:=h;obtain⟨p,z⟩:=fG (show x<s.length by omega);obtain⟨q,f⟩:=fG hi;have u:=R5 o7 z;have r:=R5 o3 f;obtain⟨n,L⟩:=H;obtain⟨A,g2⟩:=aj.1 g;have t:=aF g2;have o:=υ A;by_cases v:q.1<p.1
  ·have m:=K6 (a:=p.1) (b:=q.1) v;rw[aG,d];simp only[go_sem,seval,a3,a7,a8,c,j,w1,u,r,t,o,c2,m];refine aT (Zo (o7:=o7) hi B x _ ⟨n,L⟩ aa ⟨⟨tm,g⟩,c2,?_,?_,?_,?_,b7⟩ ?_) ?_;case refine_6=>exact λe k H' f=>f
   all_goals simp[go_sem,a2,a3,a7,a8]
  ·have m:=Gk (a:=p.1) (b:=q.1) v;rw[aG,d];simp only[go_sem,seval,a3,a7,a8,c,j,w1,u,r,t,o,c2,m];refine⟨aK,aK,⟨⟨tm,g⟩,c2,?_,?_,?_,?_,b7⟩,x+1,w,?_⟩;all_goals simp[go_sem,a2,a3,a7,a8]
def Zp{C:List AV}{o3:Ab.Own}{bad:List (Nat×Nat)}(hb:bad.length<=1000000000):∀d i s o7 α H,i+d=bad.length->s.length=i->Lj C o3 bad s o7 i α H->(∃te cs,H.get 1=some (.c te cs))->
  aD (aJ (aO cC FJ) α H) λe D H'=>e=.exit 4/\∃f u,f.length=bad.length/\Lj C o3 bad f u bad.length D H'/\H.next<=H'.next/\∀i te cs,H.get i=some (.c te cs)->H'.get i=some (.c te cs)
 |0,i,s,o7,α,H,I,t,h,j=>by
  have w:FJ=.seq _ _:=rfl;have hi:i=bad.length:=aa;subst hi;have v:=bP ((bad.length:Int)<(bad.length:Int));have m:=h;obtain⟨⟨tm,g⟩,c2,a2,a3,a7,a8,b7⟩:=m;obtain⟨n,L⟩:=H;obtain⟨p,g2⟩:=aj.1 g;have l:=aF g2;have k:=υ p;rw[aG,w];simp only[go_sem,seval,a3,a8,l,k,c2,su,v];refine⟨aK,s,o7,t,⟨⟨tm,g⟩,c2,?_,?_,?_,?_,b7⟩,μ _,λ_ _ _ h=>h⟩;all_goals simp[go_sem,a2,a3,a7,a8]
 |d+1,i,s,o7,α,H,I,t,h,j=>by
  have w:FJ=.seq _ (.seq (.block 5 (.seq _ (.seq (.block 6 (.loop Li)) _))) _):=rfl;have v:=bJ ((i:Int)<(bad.length:Int));have m:=h;obtain⟨⟨tm,g⟩,c2,a2,a3,a7,a8,b7⟩:=m;obtain⟨n,L⟩:=H;obtain⟨p,g2⟩:=aj.1 g;have l:=aF g2;have k:=υ p;rw[aG,w];simp only[go_sem,seval,a3,a7,a8,l,k,c2,su,v];simp only[cg];refine bL (dE (Zo (C:=C) (o3:=o3) (o7:=o7) (bad:=bad) (s:=s) (i:=i) aa aa s.length _ ⟨n,L⟩ (μ _) ⟨⟨tm,g⟩,c2,?_,?_,?_,?_,b7⟩ ?_)) ?_
  case refine_6=>
   rintro _ ⟨D,H1,rfl,rfl,⟨_,_,a2,a3,a7,a8,_⟩,y,E,W⟩;obtain⟨q,M⟩:=fG (show i<bad.length by omega);obtain⟨os,N⟩:=axk o7 s y E;have J:(s.take y).length=y:=by rw[aDx];omega
   have Y:(s.drop y).length=s.length-y:=atB;obtain⟨Z,⟨U,La⟩,p1,A,X,b⟩:=QN (H:=⟨n,L⟩) (o:=.nil) (o2:=.ro) (es:=[]) (xs:=s.take y) (.inl ⟨rfl,rfl⟩) (by rw[J];simp;omega);obtain⟨r,z⟩:=aj.1 (b _ _ _ g);obtain⟨Q,⟨K,O⟩,p2,B,lb,x⟩:=QN (H:=⟨U,La⟩) (o:=Z) (o2:=.full) (es:=[]++s.take y) (xs:=[q]) A aX;obtain⟨oc,⟨nc,Lc⟩,p3,F,G,kc⟩:=QN (H:=⟨K,O⟩) (o:=Q) (o2:=os) (es:=[]++s.take y++[q]) (xs:=s.drop y) B (by simp[Y];omega);have T:cw []=[]:=rfl;have n1:cw [q]=[.agg [.i q.1,.i q.2]]:=rfl;simp only[aDl] at p1 p2 p3 A B F;rw[T] at p1;rw[n1] at p2;simp only[go_sem,seval,a3,a7,a8,W,axj o7 s y E,N,p1,p2,p3,R5 o3 M,aF z,υ r,c2,(fD i aa),cQ];have a:(s.take y++[q]++s.drop y).length=i+1:=by simp[t];omega
   refine aT (Zp hb d (i+1) (s.take y++[q]++s.drop y) oc _ ⟨nc,Lc⟩ aa a ⟨⟨tm,kc _ _ _ (x _ _ _ (b _ _ _ g))⟩,c2,?_,?_,?_,?_,?_⟩ ?_) ?_;case refine_5=>rw[F.bare];rfl
   case refine_6=>
    obtain⟨te,cs,j⟩:=j;exact⟨te,cs,kc _ _ _ (x _ _ _ (b _ _ _ j))⟩
   case refine_7=>
    rintro e nZ H' ⟨rfl,f,u,P,q2,S,V⟩;exact⟨rfl,f,u,P,q2,aDj X (aDj lb (aDj G S)),λi te cs R=>V _ _ _ (kc _ _ _ (x _ _ _ (b _ _ _ R)))⟩
   all_goals simp[go_sem,a2,a3]
  all_goals simp[go_sem,a2,a3,a7,a8]
def axl{n}:dR 2 ⟨[],[],[]⟩ ⟨3,[(2,.z [.vec .nil [],.vec .nil [],.vec .nil []]),(1,.k 89 [.vec .nil [],.vec .nil [],.vec .nil []]),(0,.z (aC n))]⟩:=⟨none,.nil,.nil,.nil,rfl,.inl ⟨rfl,rfl⟩,.inl ⟨rfl,rfl⟩,.inl ⟨rfl,rfl⟩⟩
def atg{bs:List Bi}{ms:List Me}{o1 o2 o3:Ab.Own}{bad:List (Nat×Nat)}(a:o1.bare=au bs.length)(g2:o2.bare=au ms.length)(g3:o3.bare=au bad.length)(b0):(AV.agg [.vec o1 (bs.map a_),.vec o2 (ms.map cv),.vec o3 (cw bad)]).erase=mapA ⟨bs,ms,b0⟩ bad:=by simp[AV.erase,AV.bare,a,g2,g3];rfl
def aBa{n:Nd}(g:n.ks.length<=900000000000000000)(D:∀x∈n.ks,dz x<=300000/\mx x<=900000000000000000)(d:lh (iK n)):∃v,aI prog (run cC) 74 [aB n]=some v/\∃bad,bad.length=(iK n).bad.length/\v=mapA (iK n) bad:=by
 refine uO (c:=.seq _ (.seq _ (.seq _ (.seq (.seq _ (.block 0 (.loop JY))) (.seq (.seq _ (.block 2 (.loop JZ))) (.seq _ (.seq (.seq _ (.block 4 (.loop FJ))) _))))))) rfl rfl func74 rfl (by rw[ntmps74];simp) (bW:=[aB n]) (by simp[xP]) (by rw[Ew];rfl) ?_;have f:sx prog 89 []=some (.agg [.vec .nil [],.vec .nil [],.vec .nil []]):=af;have j:∀H,fY (.agg [.vec .nil [],.vec .nil [],.vec .nil []]) H=some (.ptr H.next 0,H.push (.z [.vec .nil [],.vec .nil [],.vec .nil []])):=λH=>by simp[fY,AV.width,AV.cells]
 have B:iK n=gk (dO 0 ⟨[],[],[]⟩ [] n.ks).2 0 (dO 0 ⟨[],[],[]⟩ [] n.ks).1 n.ks:=rfl;rw[B] at d⊢;have t:lh (dO 0 ⟨[],[],[]⟩ [] n.ks).1:=d.le (Cc _ _ _ _);have u:iQ ⟨[],[],[]⟩ [] 0:=⟨λi hi=>(by cases hi),ai,(by unfold Bw;simp)⟩;simp only[go_sem,seval,ab.empty,f,j];simp only[cg];refine bL (dE (H8 (n:=n) g n.ks 0 ⟨[],[],[]⟩ [] .nil ⟨3,[(2,.z [.vec .nil [],.vec .nil [],.vec .nil []]),(1,.k 89 [.vec .nil [],.vec .nil [],.vec .nil []]),(0,.z (aC n))]⟩ _ rfl axl u t rfl ?_ ?_ ?_ ?_ ?_)) ?_
 case refine_6=>
  rintro _ ⟨aM,y,rfl,E,l1,k1,a1,a2,a3,o4,a4⟩;simp only[go_sem,seval,];simp only[cg];refine bL (dE (OA (n:=n) (l:=(dO 0 ⟨[],[],[]⟩ [] n.ks).2) (o:=o4) g D n.ks 0 _ y _ rfl E l1 d (k1.2 0 none (aC n) aA rfl) ?_ ?_ ?_ ?_ ?_)) ?_
  case refine_6=>
   rintro _ ⟨gH,F,rfl,⟨tm,o1,o2,o3,hm,w,g2,g3⟩,I,k2,b1,b2,m⟩;have h:=k2.2 1 _ _ aA (k1.2 1 (some 89) _ aA rfl);simp only[go_sem,seval,];simp only[cg];refine bL (dE (Zp (bad:=(gk (dO 0 ⟨[],[],[]⟩ [] n.ks).2 0 (dO 0 ⟨[],[],[]⟩ [] n.ks).1 n.ks).bad) (o3:=o3) (d.bad I.bw) _ 0 [] .nil _ F (aDz _) rfl ⟨⟨tm,hm⟩,rfl,?_,?_,?_,?_,rfl⟩ ⟨_,_,h⟩)) ?_
   case refine_5=>
    rintro _ ⟨vR,⟨n3,L3⟩,rfl,s,o7,C,⟨⟨tm',hg⟩,_,c2,A,r,_,e⟩,oV,G⟩;obtain⟨p,b⟩:=aj.1 hg;obtain⟨q,a⟩:=aj.1 (G _ _ _ h);simp only[go_sem,seval,c2,A,r,aF b,υ p,aF a,υ q,a,b,fU,bg,results74];refine⟨_,_,_,rfl,?_,s,C,rfl⟩;rw[atg w.bare g2.bare e (gk (dO 0 ⟨[],[],[]⟩ [] n.ks).2 0 (dO 0 ⟨[],[],[]⟩ [] n.ks).1 n.ks).bad,ν (yh _ _)]
   all_goals simp[go_sem,b2,m]
   all_goals(try rfl)
  all_goals simp[go_sem,a1,a2,a3,a4]
  all_goals(try rfl)
 all_goals simp[go_sem,]
 all_goals rfl
end Go.Proofs.YtmehamiifalmaaaGreatDoor
