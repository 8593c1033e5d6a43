/- LintFinds: part 17 of its proof. -/
import Derived.Test.YtmehamiifalmaaaGreatDoorG15
set_option linter.all false
namespace Go.Proofs.YtmehamiifalmaaaGreatDoor
open Go Go.Ab Go.Proofs.Tryz
set_option maxRecDepth 100000
set_option maxHeartbeats 8000000
def ayg:cC.P=prog:=(rfl)
def ayh(l:Array Oper):cC.any l=false:=(rfl)
def atZ:cC.fq=λ_=>false:=(rfl)
def at1:cC.dyn 4=false:=(rfl)
def at2:cC.dyn 9=false:=(rfl)
def aou:cC.dyn 12=true:=(rfl)
def aov:cC.dyn 13=false:=(rfl)
def aow:cC.dyn 16=true:=(rfl)
def aox:cC.dyn 17=true:=(rfl)
def aoy:cC.dyn 20=false:=(rfl)
attribute [go_sem] ayg ayh atZ at1 at2 aou aov aow aox aoy
def wv:RN->AV
 | .fu lam=>.agg [.i 0,.bool true,.bool lam]
 | .nm i=>.agg [.i i,.bool false,.bool false]
def de(l:List RN):List AV:=(l.map wv).reverse
def akn(x)(l):de (x::l)=de l++[wv x]:=by simp[de]
def Fa(l:List RN):(de l).length=l.length:=by simp[de]
def at3(pre)(x)(r:List RN):(de (pre++x::r))[r.length]? =some (wv x):=by
 have:de (pre++x::r)=de r++wv x::(pre.map wv).reverse:=by simp[de]
 rw[this,Ψ (by rw[Fa];exact ν _),Fa,aFI];rfl
def Oo(l):cQ 3 (de l):=λe a=>by unfold de at a;rw[List.mem_reverse] at a;obtain⟨x,_,rfl⟩:=aEI.1 a;cases x<;>rfl
def vp(l):cQ 2 (cO l):=λe a=>by obtain⟨x,_,rfl⟩:=aEI.1 a;rfl
def D':RN->List AV
 | .fu lam=>[.i 0,.bool true,.bool lam]
 | .nm i=>[.i i,.bool false,.bool false]
def LO(o)(pre)(x)(r:List RN):dW prog 206 (.vec o (de (pre++x::r))) (.i r.length)=some (.rptr (D' x)):=by have:=at3 pre x r;cases x<;>simp[dW,E',E_,this,wv,D',AV.width,AV.cells]
def zu(o){bs:List Bi}{i:Nat}{x:Bi}(h:bs[i]? =some x):dW prog 85 (.vec o (bs.map bg)) (.i i)=some (.rptr [.i x.at_,.i x.k,.str x.w,.i x.item]):=by
 have:(bs.map bg)[i]? =some (bg x):=by simp[h]
 simp[dW,Jz,Fu,this,bg,AV.width,AV.cells]
def aCe(a c)(H):dZ prog 87 1 [(0,.agg [.i a,.i c])] H=some (.vec .full [.agg [.i a,.i c]],H):=by simp[dZ,CV,AH,JB,mc,fF,lj,sY,sZ,AV.width,AV.cells,eo,AV.one]
def aCf(b:Bi)(H):dZ prog 85 1 [(0,.agg [.i b.at_,.i b.k,.str b.w,.i b.item])] H=some (.vec .full [bg b],H):=by simp[dZ,Jz,Fu,abx,mc,fF,lj,sY,sZ,CN,AV.width,AV.cells,eo,AV.one,bg]
def aCg(x:Me)(H):dZ prog 86 1 [(0,.agg [.i x.at_,.i (dS x.to),.bool x.wr,.i x.bK])] H=some (.vec .full [ck x],H):=by simp[dZ,JA,Fv,aby,mc,fF,lj,sY,sZ,IG,AV.width,AV.cells,eo,AV.one,ck]
def ayi(a)(c d)(H):dZ prog 206 1 [(0,.agg [.i a,.bool c,.bool d])] H=some (.vec .full [.agg [.i a,.bool c,.bool d]],H):=by simp[dZ,E',E_,Pm,mc,fF,lj,sY,sZ,IG,AV.width,AV.cells,eo,AV.one]
attribute [go_sem] aCe ayi
def Kq(mb:Nat)(H H':ab):Prop:=H.next<=H'.next/\∀i te cs,i≠mb->H.get i=some (.c te cs)->H'.get i=some (.c te cs)
def Kq.refl(mb)(H:ab):Kq mb H H:=⟨ν _,λ_ _ _ _ h=>h⟩
def Kq.trans{mb}{H H1 H2:ab}(h:Kq mb H H1)(g:Kq mb H1 H2):Kq mb H H2:=⟨atB h.1 g.1,λi te cs a b=>g.2 i te cs a (h.2 i te cs a b)⟩
def Kq.push{mb}(H:ab)(y):Kq mb H (H.push y):=⟨aEg _,λi te cs _ hi=>by
 rw[ab.fL,κ (by have:=ab.ep hi;omega)];exact hi⟩
def dX(mb:Nat)(m:Mp)(H:ab):Prop:=∃tm o1 o2 o3,H.get mb=some (.cells tm [.vec o1 (m.bs.map bg),.vec o2 (m.ms.map ck),.vec o3 (cO m.bad)])/\cY H 93 o1 m.bs.length/\cY H 97 o2 m.ms.length/\cY H 210 o3 m.bad.length
def dX.cj{mb}{m}{H H':ab}(h:dX mb m H)(b:∀i x,(∀n,x≠.bQ n 260)->H.get i=some x->H'.get i=some x):dX mb m H':=by obtain⟨tm,o1,o2,o3,hm,d,g2,g3⟩:=h;exact⟨tm,o1,o2,o3,b _ _ ah hm,d.cj λj n a=>b _ _ (λc e=>by cases e) a,g2.cj λj n a=>b _ _ (λc e=>by cases e) a,g3.cj λj n a=>b _ _ (λc e=>by cases e) a⟩
def dX.push{mb}{m:Mp}{H:ab}(h:dX mb m H)(y):dX mb m (H.push y):=h.cj λi x _ hi=>by rw[ab.fL,κ (by have:=ab.ep hi;omega)];exact hi
structure Grown(mb:Nat)(m m':Mp)(t:TypeId)(o1 o2 o3 o:Ab.Own)(es xs:List AV)(j n:Nat)(L:List (Nat×bB))(tm:Option TypeId)(cs:List AV)(n4:Nat)(L4:List (Nat×bB)):Prop where
 gm:cg L mb=some (.cells tm [.vec o1 (m.bs.map bg),.vec o2 (m.ms.map ck),.vec o3 (cO m.bad)])
 ap:cH (λ_=>false) prog t t (.vec o es) (.vec .full xs) ⟨n,L⟩=some (.vec (.own j) (es++xs),⟨n4,L4⟩)
 fJ:cg L4 mb=some (.cells tm [.vec o1 (m.bs.map bg),.vec o2 (m.ms.map ck),.vec o3 (cO m.bad)])
 z4:mb<n4
 inv:dX mb m' ⟨n4,aH L4 mb (.cells tm cs)⟩
 kq:Kq mb ⟨n,L⟩ ⟨n4,aH L4 mb (.cells tm cs)⟩
 kp:∀i te cs,ab.get ⟨n,L⟩ i=some (.c te cs)->ab.get ⟨n4,L4⟩ i=some (.c te cs)
def ayj{mb n}{m:Mp}{L}(h:dX mb m ⟨n,L⟩)(hn:m.bs.length<=1000000)(x):∃tm o1 o2 o3 j n4 L4,Grown mb m ⟨m.bs++[x],m.ms,m.bad⟩ 85 o1 o2 o3 o1 (m.bs.map bg) [bg x] j n L tm [.vec (.own j) (m.bs.map bg++[bg x]),.vec o2 (m.ms.map ck),.vec o3 (cO m.bad)] n4 L4:=by
 obtain⟨tm,o1,o2,o3,hm,q,g2,g3⟩:=h;obtain⟨j,⟨n4,L4⟩,v,hg,c,p4⟩:=wE an8 (m:=λ_=>false) rfl (o:=o1) (o2:=.full) (es:=m.bs.map bg) (xs:=[bg x]) (H:=⟨n,L⟩) (by rw[Θ];exact q) (Is _) (Is [_]) ah aP aP;have f:=p4 _ _ ah hm;obtain⟨zm,gm⟩:=ai.1 hm;obtain⟨g,fJ⟩:=ai.1 f;have a:∀(C:List AV) i y,i≠mb->ab.get ⟨n4,L4⟩ i=some y->ab.get ⟨n4,aH L4 mb (.cells tm C)⟩ i=some y:=λC i y b r=>by obtain⟨s,w⟩:=ai.1 r;exact ai.2 ⟨s,by rw[aR,κ (λe=>b e.symm)];exact w⟩
 have l:∀{i k et},ab.get ⟨n,L⟩ i=some (.bQ k et)->i≠mb:=λ{i k et} hi e=>by rw[e,hm] at hi;cases hi
 have u:∀{i k et},ab.get ⟨n4,L4⟩ i=some (.bQ k et)->i≠mb:=λ{i k et} hi e=>by rw[e,f] at hi;cases hi
 refine⟨tm,o1,o2,o3,j,n4,L4,gm,v,fJ,g,⟨tm,.own j,o2,o3,?_,?_,?_,?_⟩,⟨c,λi te cs b d=>a _ _ _ b (p4 _ _ ah d)⟩,λi te cs d=>p4 _ _ ah d⟩
 ·exact ai.2 ⟨g,by rw[aR,μ rfl,fJ];simp⟩
 ·have t:((m.bs.map bg)++[bg x]).length=(m.bs++[x]).length:=ah;rw[t] at hg;exact hg.cj λi k hi=>a _ _ _ (u hi) hi
 ·exact g2.cj λi k hi=>a _ _ _ (l hi) (p4 _ _ (λp e=>by cases e) hi)
 ·exact g3.cj λi k hi=>a _ _ _ (l hi) (p4 _ _ (λp e=>by cases e) hi)
def ayk{mb n}{m:Mp}{L}(h:dX mb m ⟨n,L⟩)(hn:m.ms.length<=1000000)(x):∃tm o1 o2 o3 j n4 L4,Grown mb m ⟨m.bs,m.ms++[x],m.bad⟩ 86 o1 o2 o3 o2 (m.ms.map ck) [ck x] j n L tm [.vec o1 (m.bs.map bg),.vec (.own j) (m.ms.map ck++[ck x]),.vec o3 (cO m.bad)] n4 L4:=by
 obtain⟨tm,o1,o2,o3,hm,q,g2,g3⟩:=h;obtain⟨j,⟨n4,L4⟩,v,hg,c,p4⟩:=wE aoh (m:=λ_=>false) rfl (o:=o2) (o2:=.full) (es:=m.ms.map ck) (xs:=[ck x]) (H:=⟨n,L⟩) (by rw[Θ];exact g2) (It _) (It [_]) ah aP aP;have f:=p4 _ _ ah hm;obtain⟨zm,gm⟩:=ai.1 hm;obtain⟨g,fJ⟩:=ai.1 f;have a:∀(C:List AV) i y,i≠mb->ab.get ⟨n4,L4⟩ i=some y->ab.get ⟨n4,aH L4 mb (.cells tm C)⟩ i=some y:=λC i y b r=>by obtain⟨s,w⟩:=ai.1 r;exact ai.2 ⟨s,by rw[aR,κ (λe=>b e.symm)];exact w⟩
 have l:∀{i k et},ab.get ⟨n,L⟩ i=some (.bQ k et)->i≠mb:=λ{i k et} hi e=>by rw[e,hm] at hi;cases hi
 have u:∀{i k et},ab.get ⟨n4,L4⟩ i=some (.bQ k et)->i≠mb:=λ{i k et} hi e=>by rw[e,f] at hi;cases hi
 refine⟨tm,o1,o2,o3,j,n4,L4,gm,v,fJ,g,⟨tm,o1,.own j,o3,?_,?_,?_,?_⟩,⟨c,λi te cs b d=>a _ _ _ b (p4 _ _ ah d)⟩,λi te cs d=>p4 _ _ ah d⟩
 ·exact ai.2 ⟨g,by rw[aR,μ rfl,fJ];simp⟩
 ·exact q.cj λi k hi=>a _ _ _ (l hi) (p4 _ _ (λp e=>by cases e) hi)
 ·have t:((m.ms.map ck)++[ck x]).length=(m.ms++[x]).length:=ah;rw[t] at hg;exact hg.cj λi k hi=>a _ _ _ (u hi) hi
 ·exact g3.cj λi k hi=>a _ _ _ (l hi) (p4 _ _ (λp e=>by cases e) hi)
def Re{mb n}{m:Mp}{L}(h:dX mb m ⟨n,L⟩)(hn:m.bad.length<=1000000000)(a c:Nat):∃tm o1 o2 o3 j n4 L4,Grown mb m ⟨m.bs,m.ms,m.bad++[(a,c)]⟩ 87 o1 o2 o3 o3 (cO m.bad) [.agg [.i a,.i c]] j n L tm [.vec o1 (m.bs.map bg),.vec o2 (m.ms.map ck),.vec (.own j) (cO m.bad++[.agg [.i a,.i c]])] n4 L4:=by
 obtain⟨tm,o1,o2,o3,hm,t,g2,g3⟩:=h;have g:(cO m.bad).length=m.bad.length:=by simp[cO]
 obtain⟨j,⟨n4,L4⟩,z,hg,f,p4⟩:=wE AJ (m:=λ_=>false) rfl (o:=o3) (o2:=.full) (es:=cO m.bad) (xs:=[.agg [.i a,.i c]]) (H:=⟨n,L⟩) (by rw[g];exact g3) (vp _) (vp [(a,c)]) ah (by simp[g];omega) (by simp[g];omega);have p:=p4 _ _ ah hm;obtain⟨zm,gm⟩:=ai.1 hm;obtain⟨q,fJ⟩:=ai.1 p;have b:∀(C:List AV) i y,i≠mb->ab.get ⟨n4,L4⟩ i=some y->ab.get ⟨n4,aH L4 mb (.cells tm C)⟩ i=some y:=λC i y d u=>by obtain⟨v,A⟩:=ai.1 u;exact ai.2 ⟨v,by rw[aR,κ (λe=>d e.symm)];exact A⟩
 have r:∀{i k et},ab.get ⟨n,L⟩ i=some (.bQ k et)->i≠mb:=λ{i k et} hi e=>by rw[e,hm] at hi;cases hi
 have x:∀{i k et},ab.get ⟨n4,L4⟩ i=some (.bQ k et)->i≠mb:=λ{i k et} hi e=>by rw[e,p] at hi;cases hi
 refine⟨tm,o1,o2,o3,j,n4,L4,gm,z,fJ,q,⟨tm,o1,o2,.own j,?_,?_,?_,?_⟩,⟨f,λi te cs d l=>b _ _ _ d (p4 _ _ ah l)⟩,λi te cs l=>p4 _ _ ah l⟩
 ·exact ai.2 ⟨q,by rw[aR,μ rfl,fJ];simp[cO,ny]⟩
 ·exact t.cj λi k hi=>b _ _ _ (r hi) (p4 _ _ (λs e=>by cases e) hi)
 ·exact g2.cj λi k hi=>b _ _ _ (r hi) (p4 _ _ (λs e=>by cases e) hi)
 ·have w:(cO m.bad++[AV.agg [.i a,.i c]]).length=(m.bad++[(a,c)]).length:=by simp[cO]
  rw[w] at hg;exact hg.cj λi k hi=>b _ _ _ (x hi) hi
def ako(o2)(H):cH (λ_=>false) prog 206 206 (.vec .nil []) (.vec o2 []) H=some (.vec .nil [],H):=by simp[cH,E',E_,ZP,Pm,jK,nH,ou]
structure ayl(mb:Nat)(m:Mp)(o:Ab.Own)(l:List RN)(x:RN)(n:Nat)(L:List (Nat×bB))(oc:Ab.Own)(nc:Nat)(Lc:List (Nat×bB))(j n4:Nat)(L4:List (Nat×bB)):Prop where
 cp:cH (λ_=>false) prog 206 206 (.vec .nil []) (.vec o (de l)) ⟨n,L⟩=some (.vec oc (de l),⟨nc,Lc⟩)
 ap:cH (λ_=>false) prog 206 206 (.vec oc (de l)) (.vec .full [wv x]) ⟨nc,Lc⟩=some (.vec (.own j) (de (x::l)),⟨n4,L4⟩)
 kc:∀i te cs,ab.get ⟨n,L⟩ i=some (.c te cs)->ab.get ⟨nc,Lc⟩ i=some (.c te cs)
 inv:dX mb m ⟨n4,L4⟩
 kq:Kq mb ⟨n,L⟩ ⟨n4,L4⟩
def named{mb n}{m}{L}(h:dX mb m ⟨n,L⟩)(o)(l:List RN)(hl:l.length<=1000000)(x):∃oc nc Lc j n4 L4,ayl mb m o l x n L oc nc Lc j n4 L4:=by
 have a:(de l).length=l.length:=Fa l
 obtain⟨oc,⟨nc,Lc⟩,s,r,k,p1⟩:∃oc b,cH (λ_=>false) prog 206 206 (.vec .nil []) (.vec o (de l)) ⟨n,L⟩=some (.vec oc (de l),b)/\cY b 260 oc (de l).length/\n<=b.next/\∀i x,(∀n,x≠.bQ n 260)->ab.get ⟨n,L⟩ i=some x->b.get i=some x:=by
  by_cases c:l=[]
  ·subst c;exact⟨.nil,⟨n,L⟩,ako o _,.inl ⟨rfl,rfl⟩,ν _,λ_ _ _ h=>h⟩
  ·obtain⟨j,b,e,g,le,p⟩:=wE X8 (m:=λ_=>false) rfl (o:=.nil) (o2:=o) (es:=[]) (xs:=de l) (H:=⟨n,L⟩) (.inl ⟨rfl,rfl⟩) (λe c=>by cases c) (Oo _) (by intro t;apply c;have:=Ι List.length t;rw[a] at this;exact Ξ.1 this) (by simp[a];omega) (by simp[a];omega);exact⟨.own j,b,e,g,le,p⟩
 obtain⟨j,⟨n4,L4⟩,u,g2,d,q⟩:=wE X8 (m:=λ_=>false) rfl (o:=oc) (o2:=.full) (es:=de l) (xs:=[wv x]) (H:=⟨nc,Lc⟩) r (Oo _) (Oo [x]) ah (by simp[a];omega) (by simp[a];omega);exact⟨oc,nc,Lc,j,n4,L4,s,by rw[akn];exact u,λi te cs f=>p1 _ _ ah f,(h.cj p1).cj q,atB k d,λi te cs _ f=>q _ _ ah (p1 _ _ ah f)⟩
def akp:=gI cC 112 rfl rfl
def akq:=gI cC 113 rfl rfl
def akr:=gI cC 160 rfl rfl
def aks:=gI cC 161 rfl rfl
def akt:=gI cC 202 rfl rfl
attribute [go_sem] akp akq akr aks akt
def jy:mX (.slice none 0 0)=.vec .nil []:=(rfl)
attribute [go_sem] jy
def ZQ{mb}{m}{H}(h:dX mb m H)(o)(l:List RN)(c:l.length<=1000000)(lam):∃a H',run cC 160 [.vec o (de l),.bool lam] H=some (.vec a (de (.fu lam::l)),H')/\dX mb m H'/\Kq mb H H':=by
 obtain⟨n,L⟩:=H;obtain⟨oc,nc,Lc,j,n4,L4,N⟩:=named h o l c (.fu lam);suffices hh:∃r,run cC 160 [.vec o (de l),.bool lam] ⟨n,L⟩=some r/\∃a H',r=(.vec a (de (.fu lam::l)),H')/\dX mb m H'/\Kq mb ⟨n,L⟩ H' by obtain⟨r,d,a,H',rfl,q⟩:=hh;exact⟨a,H',d,q⟩
 refine fM rfl rfl func160 rfl (by rw[ntmps160];simp) ?_;have b:=N.ap;simp[wv] at b;simp only[go_sem,seval,aQ,cG,N.cp,b,results160];exact⟨_,rfl,_,_,rfl,N.inv,N.kq⟩
def uF(bs:List Bi)(l:List RN):Prop:=∀i,RN.nm i∈l->i<bs.length
def uF.tail{bs:List Bi}{x}{l:List RN}(h:uF bs (x::l)):uF bs l:=λi hi=>h i (Κ _ hi)
def uF.app{bs a:List Bi}{l:List RN}(h:uF bs l)(b:bs.length<=a.length):uF a l:=λi hi=>Nat.lt_of_lt_of_le (h i hi) b
def vQ:List RN->Int
 |[]=> -1
 |_::r=>(r.length:Int)
def Fb(l:List RN)(h:l.length<=1000000):IntKind.i64.wrap ((l.length:Int)-1)=vQ l:=by
 rw[aEC _ (by omega)]
 cases l with
 |nil=>rfl
 |cons x r=>simp only[vQ,Γ];omega
noncomputable def DC:=f112.c.r.l.r.b.b
noncomputable def Rf:=DC.r.l.b.r.t.l.o
def abA{bs}{i}{b:Bi}{w}(h:bs[i]? =some b):jh bs i w=decide (b.w=w):=by simp[jh,h]
def ZR{mb n7}{m:Mp}{o}{l:List RN}{nd:Nd}{k item}(v:l.length<=1000000)(hb:m.bad.length<=1000000000)(x:n7≠mb):∀rest pre H α,l=pre++rest->uF m.bs rest->dX mb m H->H.get n7=some (.z (aB nd))->
  α 0=.ptr mb 0->α 1=.vec o (de l)->α 3=.i k->α 4=.i item->α 7=.ptr n7 0->α 11=.i (vQ rest)->
  aF (aL (aN cC (run cC) aL DC) α H) λe d H'=>e=.exit 0/\dX mb ⟨m.bs,m.ms,if tw m.bs nd.w rest then m.bad++[(nd.a,31)] else m.bad⟩ H'/\Kq mb H H'/\d 0=.ptr mb 0/\d 1=.vec o (de l)/\d 3=.i k/\d 4=.i item/\d 7=.ptr n7 0
 |[],pre,H,α,f,q,h,h7,a0,a1,a3,a4,a7,bY=>by have g:DC=.seq _ _:=rfl;have p:decide ((-1:Int)≥0)=false:=rfl;simp[vQ] at bY;rw[aJ,g];simp only[go_sem,seval,a1,bY];refine⟨aI,h,Kq.refl _ _,?_⟩;simp[go_sem,a0,a3,a4,a7]
 | .fu lam::r,pre,H,α,f,q,h,h7,a0,a1,a3,a4,a7,bY=>by have g:DC=.seq _ _:=rfl;have p:=bH ((r.length:Int)≥0);have c:=LO o pre (.fu lam) r;rw[<-f] at c;simp[D'] at c;simp[vQ] at bY;rw[aJ,g];simp only[go_sem,seval,ω,a1,bY,p,c];refine⟨aI,h,Kq.refl _ _,?_⟩;simp[go_sem,a0,a3,a4,a7]
 | .nm i::r,pre,H,α,f,q,h,h7,a0,a1,a3,a4,a7,bY=>by
  have g:DC=.seq _ (.seq (.block 1 (.seq _ (.cond _ (.seq (.region 5 Rf.toArray true) _) _))) _):=rfl;have p:=bH ((r.length:Int)≥0);have c:=LO o pre (.nm i) r;rw[<-f] at c;simp[D'] at c;simp[vQ] at bY;have K:r.length<=1000000:=by rw[f] at v;simp at v;omega
  obtain⟨b,J⟩:=fo (q i ah);obtain⟨n,L⟩:=H;obtain⟨tm,o1,o2,o3,j,n4,L4,G⟩:=Re h hb nd.a 31;have F:=zu o1 J;have fJ:=G.fJ;obtain⟨M,Q⟩:=ai.1 h7;obtain⟨z74,g74⟩:=ai.1 (G.kp _ _ _ h7);have y:=aC G.gm;have C:=aC Q;have D:(mb<n)=True:=by obtain⟨_,_,_,_,R,_⟩:=h;exact ο (ai.1 R).1
  have I:=ο M;have ap:cH (λ_=>false) prog 87 87 (.vec o3 (cO m.bad)) (.vec .full [.agg [.i nd.a,.i 31]]) ⟨n,L⟩=some (.vec (.own j) (cO m.bad++[.agg [.i nd.a,.i 31]]),⟨n4,L4⟩):=G.ap;have E:=abA (w:=nd.w) J;by_cases s:b.w=nd.w
  ·have t:tw m.bs nd.w (.nm i::r)=true:=by simp[tw,E,π s]
   have u:jM .eql b.w nd.w=some (.bool true):=by simp[jM,s]
   rw[t];obtain⟨B,V,N,T,S,P⟩:∃A,A=Rf.toArray/\behind A A.size 9 4=true/\behind A A.size 9 6=true/\behind A A.size 12 4=true/\behind A A.size 12 6=true:=⟨_,rfl,af,af,af,af⟩;have U:∀α H,aN cC (run cC) aL (.region 5 Rf.toArray true) α H=an (eY cC (run cC) B 0 [_,_,_,_,_,_,_,_,_,_,_,_,_] [] [] α H) λr=>some (.normal,r.1,r.2):=λα H=>by rw[nG _ _ rfl rfl,V];exact rfl
   rw[aJ,g];simp only[go_sem,seval,χ,a0,a1,a7,bY,p,c,F,fJ,y,aC fJ,C,D,I,ο G.z4,u,U,N,T,S,P,aEO,aQ,cG,ap];refine⟨rfl,G.inv,G.kq,?_⟩;simp[go_sem,a0,a1,a3,a4,a7]
  ·have t:tw m.bs nd.w (.nm i::r)=tw m.bs nd.w r:=by simp[tw,E,ξ s]
   have u:jM .eql b.w nd.w=some (.bool false):=by simp[jM,s]
   rw[t,aJ,g];simp only[go_sem,seval,χ,a0,a1,a7,bY,p,c,F,y,C,D,I,u,Fb r K];refine aW (ZR (o:=o) (k:=k) (item:=item) v hb x r (pre++[.nm i]) ⟨n,L⟩ _ (by rw[f];simp) q.tail h h7 ?_ ?_ ?_ ?_ ?_ ?_) ?_
   case refine_7=>
    rintro e d H' O;exact O
   all_goals simp[go_sem,a0,a1,a3,a4,a7]
noncomputable def Rg:=f112.c.r.r.l.o
def aoz{mb}{m:Mp}{H}(h:dX mb m H)(o)(l:List RN)(p:l.length<=1000000)(Q:uF m.bs l)(I:m.bs.length<=1000000)(T:m.bad.length<=1000000000)(nd)(k item:Nat):
  ∃f H',run cC 112 [.ptr mb 0,.vec o (de l),aw nd,.i k,.i item] H=some (.vec f (de (.nm m.bs.length::l)),H')/\dX mb (fz m l nd k item) H'/\Kq mb H H':=by
 suffices d:∃r,run cC 112 [.ptr mb 0,.vec o (de l),aw nd,.i k,.i item] H=some r/\∃f H',r=(.vec f (de (.nm m.bs.length::l)),H')/\dX mb (fz m l nd k item) H'/\Kq mb H H' by obtain⟨r,J,f,H',rfl,q⟩:=d;exact⟨f,H',J,q⟩
 refine fM (c:=.seq _ (.seq (.seq _ (.block 0 (.loop DC))) (.seq (.region 6 Rg.toArray true) _))) rfl rfl func112 rfl (by rw[ntmps112];simp) ?_;obtain⟨n,L⟩:=H;have nm:n≠mb:=by obtain⟨_,_,_,_,d,_⟩:=h;have:=(ai.1 d).1;omega
 simp only[go_sem,seval,Fa,Fb l p];simp only[bW];refine bz (dm (ZR (mb:=mb) (n7:=n) (m:=m) (o:=o) (l:=l) (nd:=nd) (k:=k) (item:=item) p T nm l [] ⟨n+1,(n,.z (aB nd))::L⟩ _ rfl Q (h.push (.z (aB nd))) (ai.2 ⟨aa,by rw[bo,μ rfl]⟩) ?_ ?_ ?_ ?_ ?_ ?_)) ?_
 case refine_7=>
  rintro _ ⟨cT,⟨n2,L2⟩,rfl,s,k2,D,b1,y,M,b7⟩;have u:=k2.2 n none _ nm (ai.2 ⟨aa,by rw[bo,μ rfl]⟩);obtain⟨tm,o1,o2,o3,j,n4,L4,G⟩:=ayj s I ⟨nd.a,k,nd.w,item⟩;obtain⟨oc,nc,Lc,j6,n6,L6,N⟩:=named G.inv o l p (.nm m.bs.length);have fJ:=G.fJ;obtain⟨K,C⟩:=ai.1 u;obtain⟨zq4,gq4⟩:=ai.1 (G.kp _ _ _ u);have F:(mb<n2)=True:=by obtain⟨_,_,_,_,d,_⟩:=s;exact ο (ai.1 d).1
  have e:=λH=>aCf ⟨nd.a,k,nd.w,item⟩ H;simp only at e;have g:=N.kc mb tm [.vec (.own j) (m.bs.map bg++[bg ⟨nd.a,k,nd.w,item⟩]),.vec o2 (m.ms.map ck),.vec o3 (cO (if tw m.bs nd.w l then m.bad++[(nd.a,31)] else m.bad))] (ai.2 ⟨G.z4,by rw[aR,μ rfl,fJ];rfl⟩);obtain⟨V,O⟩:=ai.1 g;have t:=N.ap;simp only[wv] at t;have b:(m.bs.map bg++[bg ⟨nd.a,k,nd.w,item⟩]).length=m.bs.length+1:=ah;have W:=gK (((m.bs.length+1:Nat):Int)-1) m.bs.length;obtain⟨B,X,x,R,v,P,E,S⟩:∃A,A=Rg.toArray/\behind A A.size 13 4=true/\behind A A.size 13 6=true/\behind A A.size 13 9=true/\behind A A.size 16 4=true/\behind A A.size 16 6=true/\behind A A.size 16 9=true:=⟨_,rfl,af,af,af,af,af,af⟩;have U:∀α H,aN cC (run cC) aL (.region 6 Rg.toArray true) α H=an (eY cC (run cC) B 0 [_,_,_,_,_,_,_,_,_,_,_,_,_,_,_,_,_] [] [] α H) λr=>some (.normal,r.1,r.2):=λα H=>by rw[nG _ _ rfl rfl,X];exact rfl
  simp only[go_sem,seval,D,b1,y,M,b7,fJ,aC G.gm,aC fJ,aC C,F,ο K,ο G.z4,ο V,aC O,U,x,R,v,P,E,S,aEO,aQ,cG,G.ap,N.cp,t,e,b,W,results112];refine⟨_,rfl,_,_,rfl,N.inv,(Kq.push (mb:=mb) ⟨n,L⟩ (.z (aB nd))).trans (k2.trans (G.kq.trans N.kq))⟩
 all_goals simp[go_sem,]
 all_goals rfl
noncomputable def Gf:=f202.c.r.r.r.l.r.b.b
noncomputable def acY:=f202.c.r.r.r.r.l
noncomputable def J9:=acY.r.t.o
noncomputable def J_:=acY.r.e.r.e.r.t.o
noncomputable def J':=f202.c.r.r.r.r.r.o
def Found(H H':ab)(n8:Nat)(a:Nat)(wr:Bool)(b:az):Option (Nat×Nat)->Prop
 |none=>H'=H
 |some (i,d)=>H'=H.set n8 (.k 97 [.i a,.i i,.bool wr,.i 0])/\b 9=.i d
def I0{mb n6 n8}{m:Mp}{o}{l:List RN}{nd:Nd}{wr:Bool}(s:l.length<=1000000){H:ab}(h:dX mb m H)(u:H.get n6=some (.z (aB nd)))(t:H.get n8=some (.k 97 [.i nd.a,.i (-1),.bool wr,.i 0])):∀rest pre bK α,l=pre++rest->bK+rest.length<=1000000->uF m.bs rest->
  α 0=.ptr mb 0->α 1=.vec o (de l)->α 3=.bool wr->α 6=.ptr n6 0->α 8=.ptr n8 0->α 9=.i bK->α 10=.i (vQ rest)->
  aF (aL (aT cC Gf) α H) λe d H'=>e=.exit 0/\d 0=.ptr mb 0/\d 3=.bool wr/\d 6=.ptr n6 0/\d 8=.ptr n8 0/\Found H H' n8 nd.a wr d (nQ m.bs nd.w rest bK)
 |[],pre,bK,α,f,hf,g,a0,a1,a3,a6,a8,a9,bD=>by
  have p:Gf=.seq _ _:=rfl;have j:decide ((-1:Int)≥0)=false:=rfl;simp[vQ] at bD;rw[aJ,p];simp only[go_sem,seval,bD];refine⟨aI,?_,?_,?_,?_,rfl⟩;all_goals simp[go_sem,a0,a3,a6,a8]
 | .fu lam::r,pre,bK,α,f,hf,g,a0,a1,a3,a6,a8,a9,bD=>by
  have p:Gf=.seq _ _:=rfl;have j:=bH ((r.length:Int)≥0);have c:=LO o pre (.fu lam) r;rw[<-f] at c;simp[D'] at c;simp[vQ] at bD;have y:r.length<=1000000:=by rw[f] at s;simp at s;omega
  simp at hf;have w1:=Fb r y;rw[aJ,p]
  cases lam with
  |true=>
   simp[go_sem,a1,a9,bD,j,c,w1,(eN bK aa)];refine aW (I0 (o:=o) (l:=l) s h u t r (pre++[.fu true]) (bK+1) _ (by rw[f];simp) aa g.tail ?_ ?_ ?_ ?_ ?_ ?_ ?_) ?_;case refine_8=>exact λe d H' q=>q
   all_goals simp[go_sem,a0,a1,a3,a6,a8]
  |false=>
   simp[go_sem,a1,bD,j,c,w1];refine aW (I0 (o:=o) (l:=l) s h u t r (pre++[.fu false]) bK _ (by rw[f];simp) aa g.tail ?_ ?_ ?_ ?_ ?_ ?_ ?_) ?_;case refine_8=>exact λe d H' q=>q
   all_goals simp[go_sem,a0,a1,a3,a6,a8,a9]
 | .nm i::r,pre,bK,α,f,hf,g,a0,a1,a3,a6,a8,a9,bD=>by
  have p:Gf=.seq _ _:=rfl;have j:=bH ((r.length:Int)≥0);have c:=LO o pre (.nm i) r;rw[<-f] at c;simp[D'] at c;simp[vQ] at bD;simp at hf;have y:r.length<=1000000:=aa;have w1:=Fb r y;obtain⟨b,J⟩:=fo (g i ah);have Q:=h;obtain⟨n,L⟩:=H;obtain⟨tm,o1,o2,o3,hm,_⟩:=Q;have G:=zu o1 J;obtain⟨N,gm⟩:=ai.1 hm;obtain⟨O,K⟩:=ai.1 u;obtain⟨R,E⟩:=ai.1 t;have D:=aC gm;have I:=aC K;have M:=aC E;have C:=ο N;have B:=ο O;have P:=ο R;have F:=abA (w:=nd.w) J;by_cases v:b.w=nd.w
  ·have x:nQ m.bs nd.w (.nm i::r) bK=some (i,bK):=by simp[nQ,F,π v]
   have A:jM .eql b.w nd.w=some (.bool true):=by simp[jM,v]
   rw[x,aJ,p];simp only[go_sem,seval,a0,a1,a6,a8,bD,j,c,G,D,I,M,E,C,B,P,A];refine⟨rfl,?_,?_,?_,?_,rfl,?_⟩;all_goals simp[go_sem,a0,a3,a6,a8,a9]
  ·have x:nQ m.bs nd.w (.nm i::r) bK=nQ m.bs nd.w r bK:=by simp[nQ,F,ξ v]
   have A:jM .eql b.w nd.w=some (.bool false):=by simp[jM,v]
   rw[x,aJ,p];simp only[go_sem,seval,a0,a1,a6,bD,j,c,G,D,I,C,B,A,w1];refine aW (I0 (o:=o) (l:=l) s h u t r (pre++[.nm i]) bK _ (by rw[f];simp) aa g.tail ?_ ?_ ?_ ?_ ?_ ?_ ?_) ?_;case refine_8=>exact λe d H' q=>q
   all_goals simp[go_sem,a0,a1,a3,a6,a8,a9]
def Oq{bs}{w}:∀{l:List RN} {bK i d:Nat},nQ bs w l bK=some (i,d)->RN.nm i∈l
 | .fu lam::r,bK,i,d,h=>by simp[nQ] at h;exact Κ _ (Oq h)
 | .nm j::r,bK,i,d,h=>by
  simp[nQ] at h;split at h
  ·simp at h;rw[h.1];simp
  ·exact Κ _ (Oq h)
def dX.set{mb i}{m}{H:ab}(h:dX mb m H){te}{cs}(hi:H.get i=some (.c te cs))(d:i≠mb)(y):dX mb m (H.set i y):=by
 obtain⟨tm,o1,o2,o3,hm,f,g2,g3⟩:=h;have g:∀{k n et},H.get k=some (.bQ n et)->i≠k:=λ{k n et} b e=>by rw[<-e,hi] at b;cases b
 refine⟨tm,o1,o2,o3,by rw[ab.eE,κ d];exact hm,f.cj λj n a=> ?_,g2.cj λj n a=> ?_,g3.cj λj n a=> ?_⟩;all_goals(rw[ab.eE,κ (g a)];exact a)
def aym{mb n6 n8}{m:Mp}{nd:Nd}{H:ab}{α}(h:dX mb m H)(r:m.bad.length<=1000000000)(f:H.get n6=some (.z (aB nd)))(a0:α 0=.ptr mb 0)(a6:α 6=.ptr n6 0)(a8:α 8=.ptr n8 0):
  aF (aN cC (run cC) aL (.region 12 J9.toArray true) α H) λe b H'=>e=.normal/\dX mb ⟨m.bs,m.ms,m.bad++[(nd.a,30)]⟩ H'/\Kq mb H H'/\b 0=.ptr mb 0/\b 8=.ptr n8 0:=by
 obtain⟨n,L⟩:=H;obtain⟨tm,o1,o2,o3,j,n4,L4,G⟩:=Re h r nd.a 30;have fJ:=G.fJ;obtain⟨o,d⟩:=ai.1 f;have q:(mb<n)=True:=by obtain⟨_,_,_,_,k,_⟩:=h;exact ο (ai.1 k).1
 have ap:cH (λ_=>false) prog 87 87 (.vec o3 (cO m.bad)) (.vec .full [.agg [.i nd.a,.i 30]]) ⟨n,L⟩=some (.vec (.own j) (cO m.bad++[.agg [.i nd.a,.i 30]]),⟨n4,L4⟩):=G.ap;obtain⟨B,s,l,c,p,g⟩:∃A,A=J9.toArray/\behind A A.size 9 4=true/\behind A A.size 9 6=true/\behind A A.size 12 4=true/\behind A A.size 12 6=true:=⟨_,rfl,af,af,af,af⟩;rw[nG _ _ rfl rfl,<-s,show J9=[_,_,_,_,_,_,_,_,_,_,_,_,_] from rfl];simp only[go_sem,seval,a0,a6,a8,fJ,aC G.gm,aC fJ,aC d,q,ο o,ο G.z4,l,c,p,g,aEO,aQ,cG,ap];refine⟨aI,G.inv,G.kq,?_⟩;simp[go_sem]
def ayn{mb n6 n8}{m:Mp}{nd:Nd}{H:ab}{α}(h:dX mb m H)(r:m.bad.length<=1000000000)(f:H.get n6=some (.z (aB nd)))(a0:α 0=.ptr mb 0)(a6:α 6=.ptr n6 0)(a8:α 8=.ptr n8 0):
  aF (aN cC (run cC) aL (.region 16 J_.toArray true) α H) λe b H'=>e=.normal/\dX mb ⟨m.bs,m.ms,m.bad++[(nd.a,35)]⟩ H'/\Kq mb H H'/\b 0=.ptr mb 0/\b 8=.ptr n8 0:=by
 obtain⟨n,L⟩:=H;obtain⟨tm,o1,o2,o3,j,n4,L4,G⟩:=Re h r nd.a 35;have fJ:=G.fJ;obtain⟨o,d⟩:=ai.1 f;have q:(mb<n)=True:=by obtain⟨_,_,_,_,k,_⟩:=h;exact ο (ai.1 k).1
 have ap:cH (λ_=>false) prog 87 87 (.vec o3 (cO m.bad)) (.vec .full [.agg [.i nd.a,.i 35]]) ⟨n,L⟩=some (.vec (.own j) (cO m.bad++[.agg [.i nd.a,.i 35]]),⟨n4,L4⟩):=G.ap;obtain⟨B,s,l,c,p,g⟩:∃A,A=J_.toArray/\behind A A.size 9 4=true/\behind A A.size 9 6=true/\behind A A.size 12 4=true/\behind A A.size 12 6=true:=⟨_,rfl,af,af,af,af⟩;rw[nG _ _ rfl rfl,<-s,show J_=[_,_,_,_,_,_,_,_,_,_,_,_,_] from rfl];simp only[go_sem,seval,a0,a6,a8,fJ,aC G.gm,aC fJ,aC d,q,ο o,ο G.z4,l,c,p,g,aEO,aQ,cG,ap];refine⟨aI,G.inv,G.kq,?_⟩;simp[go_sem]
def JC{mb n8}{m:Mp}{x:Me}{te}{H:ab}{α}(h:dX mb m H)(q:m.ms.length<=1000000)(a:H.get n8=some (.c te [.i x.at_,.i (dS x.to),.bool x.wr,.i x.bK]))(a0:α 0=.ptr mb 0)(a8:α 8=.ptr n8 0):
  aF (aN cC (run cC) aL (.region 17 J'.toArray true) α H) λe ae H'=>e=.normal/\dX mb ⟨m.bs,m.ms++[x],m.bad⟩ H'/\Kq mb H H':=by
 obtain⟨n,L⟩:=H;obtain⟨tm,o1,o2,o3,j,n4,L4,G⟩:=ayk h q x;have fJ:=G.fJ;obtain⟨d,p⟩:=ai.1 a;obtain⟨z84,g84⟩:=ai.1 (G.kp _ _ _ a);have o:(mb<n)=True:=by obtain⟨_,_,_,_,g,_⟩:=h;exact ο (ai.1 g).1
 obtain⟨B,r,k,b,l,f⟩:∃A,A=J'.toArray/\behind A A.size 7 4=true/\behind A A.size 7 5=true/\behind A A.size 10 4=true/\behind A A.size 10 5=true:=⟨_,rfl,af,af,af,af⟩;rw[nG _ _ rfl rfl,<-r,show J'=[_,_,_,_,_,_,_,_,_,_,_] from rfl];simp only[go_sem,seval,a0,a8,fJ,aC G.gm,aC fJ,aC p,o,ο d,ο G.z4,k,b,l,f,aEO,cG,G.ap,(λH=>aCg x H)];exact⟨aI,G.inv,G.kq⟩
def Kq.fresh{mb i}{H0 H H':ab}(h:Kq mb H0 H)(hi:H0.next<=i)(c:H'=H\/∃y,H'=H.set i y):Kq mb H0 H':=by
 rcases c with rfl|⟨y,rfl⟩
 ·exact h
 ·refine⟨h.1,λk te cs b a=> ?_⟩;have:=ab.ep a;rw[ab.eE,bM];exact h.2 k te cs b a
def agM{mb}{m:Mp}{H}(h:dX mb m H)(o)(l:List RN)(hl:l.length<=1000000)(hn:uF m.bs l)(D:m.ms.length<=1000000)(LP:m.bad.length<=1000000000)(nd)(wr):
  ∃H',run cC 202 [.ptr mb 0,.vec o (de l),aw nd,.bool wr] H=some (.tup [],H')/\dX mb (fg m l nd wr) H'/\Kq mb H H':=by
 suffices P:∃r,run cC 202 [.ptr mb 0,.vec o (de l),aw nd,.bool wr] H=some r/\∃H',r=(.tup [],H')/\dX mb (fg m l nd wr) H'/\Kq mb H H' by obtain⟨r,hr,H',rfl,q⟩:=P;exact⟨H',hr,q⟩
 refine fM (c:=.seq _ (.seq _ (.seq _ (.seq (.seq _ (.block 0 (.loop Gf))) (.seq (.seq _ (.cond _ (.region 12 J9.toArray true) (.seq _ (.cond _ _ (.seq _ (.cond _ (.region 16 J_.toArray true) _)))))) (.region 17 J'.toArray true)))))) rfl rfl func202 rfl (by rw[ntmps202];simp) ?_;obtain⟨n,L⟩:=H;have M:=(h.push (.z (aB nd))).push (.k 97 [.i nd.a,.i (-1),.bool wr,.i 0]);have k1:Kq mb ⟨n,L⟩ ⟨n+1+1,(n+1,.k 97 [.i nd.a,.i (-1),.bool wr,.i 0])::(n,.z (aB nd))::L⟩:=(Kq.push (mb:=mb) ⟨n,L⟩ (.z (aB nd))).trans (Kq.push (mb:=mb) ⟨n+1,(n,.z (aB nd))::L⟩ (.k 97 [.i nd.a,.i (-1),.bool wr,.i 0]));have zmb:mb<n:=by obtain⟨_,_,_,_,P,_⟩:=h;exact(ai.1 P).1
 have y0:=bf (n<n+1);have Z:=bf (n+1<n+1+1);have y2:=dJ (n+1=n);have y3:=bf (n<n+1+1);have y4:¬n=n+1:=aa;have E:ab.get ⟨n+1+1,(n+1,.k 97 [.i nd.a,.i (-1),.bool wr,.i 0])::(n,.z (aB nd))::L⟩ n=some (.z (aB nd)):=ai.2 ⟨aa,by rw[bo,bM,bo,μ rfl]⟩;have A:ab.get ⟨n+1+1,(n+1,.k 97 [.i nd.a,.i (-1),.bool wr,.i 0])::(n,.z (aB nd))::L⟩ (n+1)=some (.k 97 [.i nd.a,.i (-1),.bool wr,.i 0]):=ai.2 ⟨aa,by rw[bo,μ rfl]⟩;simp only[go_sem,seval,y0,Z,Fa,Fb l hl,aQ];simp only[bW];refine bz (dm (I0 (mb:=mb) (n6:=n) (n8:=n+1) (m:=m) (o:=o) (l:=l) (nd:=nd) (wr:=wr) hl (H:=⟨n+1+1,(n+1,.k 97 [.i nd.a,.i (-1),.bool wr,.i 0])::(n,.z (aB nd))::L⟩) M E A l [] 0 _ rfl aa hn ?_ ?_ ?_ ?_ ?_ ?_ ?_)) ?_
 case refine_8=>
  rintro _ ⟨cT,H1,rfl,j,Y,X,b8,hf⟩
  cases BN:nQ m.bs nd.w l 0 with
  |none=>
   rw[BN] at hf;have s:fg m l nd wr=⟨m.bs,m.ms++[⟨nd.a,none,wr,0⟩],m.bad++[(nd.a,30)]⟩:=by simp only[fg,BN]
   rw[s];simp only[Found] at hf;subst hf;have v:decide ((-1:Int)<0)=true:=rfl;simp only[go_sem,seval,b8,Z];refine bz (yN (aym (n6:=n) (n8:=n+1) (nd:=nd) M LP E ?_ ?_ ?_)) ?_
   case refine_4=>
    rintro _ ⟨_,fS,H2,rfl,rfl,F,k2,V,f⟩;simp only[go_sem,seval,];refine aW (JC (x:=⟨nd.a,none,wr,0⟩) (n8:=n+1) F D (k2.2 _ _ _ aa A) V f) ?_;rintro e N I ⟨rfl,p,g⟩;simp only[go_sem,seval,results202];exact⟨_,rfl,_,rfl,p,k1.trans (k2.trans g)⟩
   all_goals simp only[go_sem,seval,j,X,b8]
  |some q=>
   obtain⟨i,d⟩:=q;rw[BN] at hf;obtain⟨y,b9⟩:=hf;obtain⟨b,gM⟩:=fo (hn i (Oq BN));have U:rV m.bs i=b.k:=by simp[rV,gM]
   have B:dX mb m H1:=by rw[y];exact M.set A aa _
   have T:Kq mb ⟨n,L⟩ H1:=k1.fresh (show n<=n+1 by omega) (.inr ⟨_,y⟩);have G:H1.get n=some (.z (aB nd)):=by rw[y,ab.eE,bM];exact E
   have u:H1.get (n+1)=some (.k 97 [.i nd.a,.i i,.bool wr,.i 0]):=by rw[y,ab.eE,μ rfl,A];rfl
   have zT:=B;obtain⟨n2,L2⟩:=H1;obtain⟨tm,o1,o2,o3,hm,_⟩:=zT;have S:=zu o1 gM;obtain⟨zm,gm⟩:=ai.1 hm;obtain⟨z8,t⟩:=ai.1 u;have K:=aC gm;have f:=aC t;have J:=ο zm;have R:=ο z8;have v:=bU ((i:Int)<0);by_cases W:3<=b.k
   ·have C:=bH ((b.k:Int)≥3);have s:fg m l nd wr=⟨m.bs,m.ms++[⟨nd.a,some i,wr,d⟩],m.bad⟩:=by simp only[fg,BN,U];rw[μ W]
    rw[s];simp only[go_sem,seval,j,b8,b9,f,R,t,K,J,v,S,C];have i4:=B.set u aa (.k 97 [.i nd.a,.i i,.bool wr,.i d]);have O:Kq mb ⟨n,L⟩ (ab.set ⟨n2,L2⟩ (n+1) (.k 97 [.i nd.a,.i i,.bool wr,.i d])):=T.fresh (show n<=n+1 by omega) (.inr ⟨_,rfl⟩);have Q:(ab.set ⟨n2,L2⟩ (n+1) (.k 97 [.i nd.a,.i i,.bool wr,.i d])).get (n+1)=some (.k 97 [.i nd.a,.i i,.bool wr,.i d]):=by rw[ab.eE,μ rfl,u];rfl
    refine aW (JC (x:=⟨nd.a,some i,wr,d⟩) (n8:=n+1) i4 D Q ?_ ?_) ?_
    case refine_3=>
     rintro e N I ⟨rfl,p,g⟩;simp only[go_sem,seval,results202];exact⟨_,rfl,_,rfl,p,O.trans g⟩
    all_goals simp only[go_sem,seval,j,b8]
   ·have C:=bU ((b.k:Int)≥3)
    cases BG:wr with
    |true=>
     subst BG;have s:fg m l nd true=⟨m.bs,m.ms++[⟨nd.a,some i,true,0⟩],m.bad++[(nd.a,35)]⟩:=by simp only[fg,BN,U];rw[κ W];simp
     rw[s];simp only[go_sem,seval,j,Y,b8,f,R,K,J,v,S,C];refine bz (yN (ayn (n6:=n) (n8:=n+1) (nd:=nd) B LP G ?_ ?_ ?_)) ?_
     case refine_4=>
      rintro _ ⟨_,fS,H2,rfl,rfl,F,k2,V,f⟩;simp only[go_sem,seval,];refine aW (JC (x:=⟨nd.a,some i,true,0⟩) (n8:=n+1) F D (k2.2 _ _ _ aa u) V f) ?_;rintro e N I ⟨rfl,p,g⟩;simp only[go_sem,seval,results202];exact⟨_,rfl,_,rfl,p,T.trans (k2.trans g)⟩
     all_goals simp only[go_sem,seval,j,X,b8]
    |false=>
     subst BG;have s:fg m l nd false=⟨m.bs,m.ms++[⟨nd.a,some i,false,0⟩],m.bad⟩:=by simp only[fg,BN,U];rw[κ W,κ aA]
     rw[s];simp only[go_sem,seval,j,Y,b8,f,R,K,J,v,S,C];refine aW (JC (x:=⟨nd.a,some i,false,0⟩) (n8:=n+1) B D u ?_ ?_) ?_
     case refine_3=>
      rintro e N I ⟨rfl,p,g⟩;simp only[go_sem,seval,results202];exact⟨_,rfl,_,rfl,p,T.trans g⟩
     all_goals simp only[go_sem,seval,j,b8]
 all_goals simp only[go_sem,seval,]
 all_goals rfl
structure iG(m:Mp)(l:List RN)(D:Nat):Prop where
 nm:uF m.bs l
 len:l.length<=m.bs.length+D
 bw:Bw m
def iG.bind{m:Mp}{l}{D}(h:iG m l D)(n)(k item):iG (fz m l n k item) (.nm m.bs.length::l) D:=by
 refine⟨λi hi=> ?_,?_,E9 h.bw _ _ _ _⟩
 ·simp[fz];rcases Υ.1 hi with hi|hi
  ·cases hi;omega
  ·have:=h.nm i hi;omega
 ·have:=h.len;simp[fz];omega
def VS(m:Mp)(l)(n)(wr):(fg m l n wr).bs=m.bs:=by
 unfold fg;split
 ·rfl
 ·split<;>rfl
def iG.ZS{m}{l}{D}(h:iG m l D)(n)(wr):iG (fg m l n wr) l D:=⟨by rw[VS];exact h.nm,by rw[VS];exact h.len,Nn h.bw _ _ _⟩
def iG.fu{m}{l}{D}(h:iG m l D)(lam):iG m (.fu lam::l) (D+1):=by
 refine⟨λi hi=> ?_,?_,h.bw⟩
 ·rcases Υ.1 hi with hi|hi
  ·cases hi
  ·exact h.nm i hi
 ·have:=h.len;simp;omega
def iG.up{m m':Mp}{l}{D}(h:iG m l D)(a:Le m m')(hb:Bw m'):iG m' l D:=⟨h.nm.app a.1,atB h.len (by have:=a.1;omega),hb⟩
def kX(m:Mp):Prop:=m.bs.length<=500000/\m.ms.length<=1000000
def kX.le{m m':Mp}(h:kX m')(a:Le m m'):kX m:=⟨atB a.1 h.1,atB a.2 h.2⟩
def kX.bad{m:Mp}(h:kX m)(hb:Bw m):m.bad.length<=1000000000:=by unfold Bw at hb;have:=h.1;have:=h.2;omega
def JD{mb}{m:Mp}{H}(h:dX mb m H)(o){l}{D}(a:iG m l D)(b:kX m)(hD:D<=400000)(nd)(k item:Nat):
  ∃c H',run cC 112 [.ptr mb 0,.vec o (de l),aw nd,.i k,.i item] H=some (.vec c (de (.nm m.bs.length::l)),H')/\dX mb (fz m l nd k item) H'/\Kq mb H H':=
 aoz h o l (by have:=a.len;have:=b.1;omega) a.nm (by have:=b.1;omega) (b.bad a.bw) nd k item
def WB{mb}{m}{H}(h:dX mb m H)(o){l}{D}(a:iG m l D)(b:kX m)(hD:D<=400000)(nd)(wr):
  ∃H',run cC 202 [.ptr mb 0,.vec o (de l),aw nd,.bool wr] H=some (.tup [],H')/\dX mb (fg m l nd wr) H'/\Kq mb H H':=
 agM h o l (by have:=a.len;have:=b.1;omega) a.nm b.2 (b.bad a.bw) nd wr
noncomputable def KJ:=f113.c.r.r.l.r.b.b
def ZT{mb item D}{oo}{p t bk:Nd}(q:D<=400000)(E:p.ks.length<=900000000000000000):∀rest i m l o H α,p.ks.drop i=rest->dX mb m H->iG m l D->kX (iB item m l rest).1->
  α 0=.ptr mb 0->α 2=.vec oo (br [p,t,bk])->α 3=.i item->α 10=.vec o (de l)->α 11=.i i->
  aF (aL (aT cC KJ) α H) λe b H'=>e=.exit 0/\dX mb (iB item m l rest).1 H'/\iG (iB item m l rest).1 (iB item m l rest).2 D/\Kq mb H H'/\b 0=.ptr mb 0/\b 2=.vec oo (br [p,t,bk])/\b 3=.i item/\∃F,b 10=.vec F (de (iB item m l rest).2)
 |[],i,m,l,o,H,α,a,h,c,d,a0,a2,a3,bD,bY=>by
  have hi:p.ks.length<=i:=aED.1 a;have k:KJ=.seq _ _:=rfl;have j:=bU ((i:Int)<(p.ks.length:Int));have f:dW prog 69 (.vec oo (br [p,t,bk])) (.i 0)=some (.rptr (aB p)):=kD (i:=0) oo rfl;rw[aJ,k];simp only[go_sem,seval,a2,bY,j,f,wW,bL];refine⟨aI,h,c,Kq.refl _ _,?_,?_,?_,o,?_⟩;all_goals simp[go_sem,a0,a3,bD]
  rfl
 |x::rest,i,m,l,o,H,α,a,h,c,d,a0,a2,a3,bD,bY=>by
  have hi:i<p.ks.length:=by
   by_cases B:i<p.ks.length
   ·exact B
   ·rw[aEk aa] at a;cases a
  have A:p.ks[i]? =some x:=by have:=Μ hi;rw[a] at this;rw[Ν hi];exact Ι some (aEJ this).1.symm
  have y:p.ks.drop (i+1)=rest:=by have:=Μ hi;rw[a] at this;exact(aEJ this).2.symm
  have k:KJ=.seq _ _:=rfl;have j:=bH ((i:Int)<(p.ks.length:Int));have f:dW prog 69 (.vec oo (br [p,t,bk])) (.i 0)=some (.rptr (aB p)):=kD (i:=0) oo rfl;have g:iB item m l (x::rest)=iB item (fz m l x 3 item) (.nm m.bs.length::l) rest:=by simp[iB]
  rw[g] at d⊢;have C:kX (fz m l x 3 item):=d.le (Cj _ _ _ _);obtain⟨o2,H2,w,s,k2⟩:=JD h o c (C.le (sR _ _ _ _ _)) q x 3 item;have z:run cC 112 [.ptr mb 0,.vec o (de l),aw x,.i 3,.i item] H=some (.vec o2 (de (.nm m.bs.length::l)),H2):=w;obtain⟨n,L⟩:=H;rw[aJ,k];simp only[go_sem,seval,a0,a2,a3,bD,bY,j,f,kD (if p.ks.isEmpty then .nil else .ro) A,wW,bL,z,(o8 (n:=i) aa)];refine aW (ZT (oo:=oo) (t:=t) (bk:=bk) q E rest (i+1) _ _ o2 H2 _ y s (c.bind x 3 item) d ?_ ?_ ?_ ?_ ?_) ?_
  case refine_6=>
   rintro e b H' ⟨rfl,r,G,u,v⟩;exact⟨rfl,r,G,k2.trans u,v⟩
  all_goals simp[go_sem,a0,a2,a3]
def Df(mb item:Nat)(n:Nd):Prop:=∀m l o D H,dX mb m H->iG m l D->kX (eP item m l n).1->D+db n<=400000->mx n<=900000000000000000->
 ∃a H',run cC 161 [.ptr mb 0,.vec o (de l),aw n,.i item] H=some (.vec a (de (eP item m l n).2),H')/\dX mb (eP item m l n).1 H'/\iG (eP item m l n).1 (eP item m l n).2 D/\Kq mb H H'
def WC{mb item}{ks:List Nd}(ih:∀x∈ks,Df mb item x){oo}{m}{l}{o}{D}{H}{lam}(h:dX mb m H)(b:iG m l D)(d:kX (kf item lam m l ks))(hd:D+eS ks+1<=400000)(hm:fl ks<=900000000000000000)(hlen:ks.length<=900000000000000000):
  ∃H',run cC 113 [.ptr mb 0,.vec o (de l),.vec oo (br ks),.i item,.bool lam] H=some (.tup [],H')/\dX mb (kf item lam m l ks) H'/\iG (kf item lam m l ks) l D/\Kq mb H H':=by
 suffices hh:∃r,run cC 113 [.ptr mb 0,.vec o (de l),.vec oo (br ks),.i item,.bool lam] H=some r/\∃H',r=(.tup [],H')/\dX mb (kf item lam m l ks) H'/\iG (kf item lam m l ks) l D/\Kq mb H H' by obtain⟨r,C,H',rfl,q⟩:=hh;exact⟨H',C,q⟩
 refine fM (c:=.seq _ (.seq _ (.seq (.seq _ (.block 0 (.loop KJ))) _))) rfl rfl func113 rfl (by rw[ntmps113];simp) ?_;by_cases h3:ks.length=3
 ·obtain⟨p,t,bk,rfl⟩:=acT h3;have j:(((3:Nat):Int) != 3)=false:=rfl;have G:kf item lam m l [p,t,bk]=(eP item (iB item m (.fu lam::l) p.ks).1 (iB item m (.fu lam::l) p.ks).2 bk).1:=by simp[kf]
  rw[G] at d⊢;have K:kX m:=(d.le (CE _ _ _ _)).le (Cj _ _ _ _);obtain⟨o1,H1,I,F,k1⟩:=ZQ h o l (by have:=b.len;have:=K.1;omega) lam;have s:mx p<=900000000000000000/\mx bk<=900000000000000000:=⟨by have:=qC (l:=[p,t,bk]) (n:=p) ah;omega,by have:=qC (l:=[p,t,bk]) (n:=bk) ah;omega⟩;have hdb:db bk<=eS [p,t,bk]:=sN ah
  have e:p.ks.length<=900000000000000000:=by
   have:=s.1
   cases p with
   |mk k f t w a ks=>rw[ew] at this;simp[Nd.ks];omega
  have E:dW prog 69 (.vec oo (br [p,t,bk])) (.i 2)=some (.rptr (aB bk)):=kD (i:=2) oo rfl;simp only[go_sem,seval,bL,I];try simp only[bW]
  refine bz (dm (ZT (mb:=mb) (item:=item) (D:=D+1) (oo:=oo) (p:=p) (t:=t) (bk:=bk) aa e p.ks 0 m (.fu lam::l) o1 H1 _ rfl F (b.fu lam) (d.le (CE _ _ _ _)) ?_ ?_ ?_ ?_ ?_)) ?_
  case refine_6=>
   rintro _ ⟨ae,H2,rfl,u,J,k2,z,b2,v,o2,L⟩;obtain⟨o3,H3,g,B,A,y⟩:=ih bk ah _ _ o2 (D+1) H2 u J d aa s.2;obtain⟨n2,L2⟩:=H2;simp only[go_sem,seval,z,b2,v,L,E,g,results113];refine⟨_,rfl,_,rfl,B,b.up ((Cj item p.ks m _).trans (CE item _ _ bk)) A.bw,k1.trans (k2.trans y)⟩
  all_goals simp[go_sem,]
  all_goals rfl
 ·have j:((ks.length:Int) != 3)=true:=by rw[bne_iff_ne];omega
  rw[VQ item lam m l h3];simp only[go_sem,seval,bL,j,results113];exact⟨_,rfl,_,rfl,h,b,Kq.refl _ _⟩
noncomputable def KK:=f161.c.r.r.r.r
noncomputable def KL:=KK.l.r.b.b
def ZU{mb item D n6}{nd:Nd}{o1}(v:n6≠mb)(J:nd.ks.length<=900000000000000000):∀rest i m l o H α,nd.ks.drop i=rest->(∀x∈rest,Df mb item x)->(∀x∈rest,D+db x<=400000/\mx x<=900000000000000000)->dX mb m H->iG m l D->kX (dE item m l rest).1->H.get n6=some (.z (aB nd))->
  α 0=.ptr mb 0->α 1=o1->α 3=.i item->α 6=.ptr n6 0->α 9=.vec o (de l)->α 10=.i i->
  aF (aL (aT cC KL) α H) λe b H'=>e=.exit 1/\dX mb (dE item m l rest).1 H'/\iG (dE item m l rest).1 (dE item m l rest).2 D/\Kq mb H H'/\b 0=.ptr mb 0/\b 1=o1/\b 3=.i item/\b 6=.ptr n6 0/\∃K,b 9=.vec K (de (dE item m l rest).2)
 |[],i,m,l,o,H,α,a,ih,c,h,p,f,d,a0,a1,a3,a6,a9,bD=>by
  have hi:nd.ks.length<=i:=aED.1 a;have u:KL=.seq _ _:=rfl;have s:=bU ((i:Int)<(nd.ks.length:Int));obtain⟨n,L⟩:=H;obtain⟨r,g⟩:=ai.1 d;have t:=aC g;have k:=ο r;have h5:=oK nd;rw[aJ,u];simp only[go_sem,seval,a6,bD,s,t,k,h5,bL];refine⟨aI,h,p,Kq.refl _ _,?_,?_,?_,?_,o,?_⟩;all_goals simp[go_sem,a0,a1,a3,a9]
  rfl
 |x::rest,i,m,l,o,H,α,a,ih,c,h,p,f,d,a0,a1,a3,a6,a9,bD=>by
  have hi:i<nd.ks.length:=by
   by_cases I:i<nd.ks.length
   ·exact I
   ·rw[aEk aa] at a;cases a
  have G:nd.ks[i]? =some x:=by have:=Μ hi;rw[a] at this;rw[Ν hi];exact Ι some (aEJ this).1.symm
  have F:nd.ks.drop (i+1)=rest:=by have:=Μ hi;rw[a] at this;exact(aEJ this).2.symm
  have u:KL=.seq _ _:=rfl;have s:=bH ((i:Int)<(nd.ks.length:Int));have j:dE item m l (x::rest)=dE item (eP item m l x).1 (eP item m l x).2 rest:=by simp[dE]
  rw[j] at f⊢;obtain⟨o2,H2,E,A,M,k2⟩:=ih x ah m l o D H h p (f.le (yD _ _ _ _)) (c x ah).1 (c x ah).2;obtain⟨n,L⟩:=H;obtain⟨r,g⟩:=ai.1 d;have t:=aC g;have k:=ο r;have h5:=oK nd;rw[aJ,u];simp only[go_sem,seval,a0,a3,a6,a9,bD,s,kD (if nd.ks.isEmpty then .nil else .ro) G,t,k,h5,bL,E,(o8 (n:=i) aa)];refine aW (ZU (o1:=o1) v J rest (i+1) _ _ o2 H2 _ F (λy q=>ih y (by simp[q])) (λy q=>c y (by simp[q])) A M f (k2.2 _ _ _ v d) ?_ ?_ ?_ ?_ ?_ ?_) ?_
  case refine_7=>
   rintro e b H' ⟨rfl,w,N,B,C⟩;exact⟨rfl,w,N,k2.trans B,C⟩
  all_goals simp[go_sem,a0,a1,a3,a6]
def pb(item:Nat)(nd:Nd)(l:List RN)(q:Mp×List RN):Mp×List RN:=if nd.k=7 then(fz q.1 q.2 nd 4 item,.nm q.1.bs.length::q.2) else if nd.k=6 then(q.1,l) else q
def Pn{mb item D n6}{nd:Nd}{m}{l1 l}{o o9}{H:ab}{α}(u:n6≠mb)(N:nd.ks.length<=900000000000000000)(E:D<=400000)(ih:∀x∈nd.ks,Df mb item x)(P:∀x∈nd.ks,D+db x<=400000/\mx x<=900000000000000000)(h:dX mb m H)(L:iG m l1 D)(A:kX (dE item m l1 nd.ks).1)(y:H.get n6=some (.z (aB nd)))
  (a0:α 0=.ptr mb 0) (a1:α 1=.vec o (de l)) (a3:α 3=.i item) (a6:α 6=.ptr n6 0) (a9:α 9=.vec o9 (de l1)):
  aF (aT cC KK α H) λe v H'=>e=.ret/\iG (dE item m l1 nd.ks).1 (dE item m l1 nd.ks).2 D/\dX mb (pb item nd l (dE item m l1 nd.ks)).1 H'/\Kq mb H H'/\∃O,v 8=.vec O (de (pb item nd l (dE item m l1 nd.ks)).2):=by
 have R:KK=.seq (.seq _ (.block 1 (.loop KL))) (.seq (.seq _ (.cond _ _ _)) (.seq (.seq _ (.cond _ _ _)) _)):=rfl;rw[R];simp[go_sem,];simp[bW];refine bz (dm (ZU (D:=D) (o1:=.vec o (de l)) u N nd.ks 0 m l1 o9 H _ rfl ih P h L A y ?_ ?_ ?_ ?_ ?_ ?_)) ?_
 case refine_7=>
  rintro _ ⟨v,H1,rfl,t,j,k1,I,b1,B,q,o2,w⟩;have b:=k1.2 _ _ _ u y;have c:((nd.k:Int)==7)=decide (nd.k=7):=dF nd.k 7;have g:((nd.k:Int)==6)=decide (nd.k=6):=dF nd.k 6;have r:=rZ nd;by_cases h7:nd.k=7
  ·have a:pb item nd l (dE item m l1 nd.ks)=(fz (dE item m l1 nd.ks).1 (dE item m l1 nd.ks).2 nd 4 item,.nm (dE item m l1 nd.ks).1.bs.length::(dE item m l1 nd.ks).2):=μ h7;rw[π h7] at c;rw[a];obtain⟨o3,⟨C,F⟩,G,M,J⟩:=JD t o2 j A E nd 4 item;have K:run cC 112 [.ptr mb 0,.vec o2 (de (dE item m l1 nd.ks).2),aw nd,.i 4,.i item] H1=some (.vec o3 (de (.nm (dE item m l1 nd.ks).1.bs.length::(dE item m l1 nd.ks).2)),⟨C,F⟩):=G;obtain⟨n2,Q⟩:=H1;obtain⟨s,p⟩:=ai.1 b;have n:=aC p;have d:=ο s;simp only[go_sem,seval,I,B,q,w,n,d,r,c,K];refine⟨aI,j,M,k1.trans J,o3,?_⟩;simp[go_sem,]
  ·rw[ξ h7] at c;obtain⟨n2,Q⟩:=H1;obtain⟨s,p⟩:=ai.1 b;have n:=aC p;have d:=ο s;by_cases f:nd.k=6
   ·have a:pb item nd l (dE item m l1 nd.ks)=((dE item m l1 nd.ks).1,l):=by
     unfold pb;rw[κ h7,μ f]
    rw[π f] at g;rw[a];simp only[go_sem,seval,b1,q,n,d,r,c,g];refine⟨aI,j,t,k1,o,?_⟩;simp[go_sem,]
   ·have a:pb item nd l (dE item m l1 nd.ks)=dE item m l1 nd.ks:=by
     unfold pb;rw[κ h7,κ f]
    rw[ξ f] at g;rw[a];simp only[go_sem,seval,q,w,n,d,r,c,g];refine⟨aI,j,t,k1,o2,?_⟩;simp[go_sem,]
 all_goals simp[go_sem,a0,a1,a3,a6,a9]
 all_goals rfl
set_option maxHeartbeats 16000000
def ahR(item)(nd:Nd)(m)(l)(d:nd.k≠23)(c:nd.k≠28)(b:nd.k≠8)(a:nd.k≠6):eP item m l nd=pb item nd l (dE item m l nd.ks):=by
 unfold pb;by_cases h7:nd.k=7
 ·rw[μ h7,ZL _ _ _ h7]
 ·rw[κ h7,κ a,VR _ _ _ d c b h7 a]
def agN{mb item}{nd:Nd}(ih:∀x∈nd.ks,Df mb item x):Df mb item nd:=by
 intro m l o D H h j b hd hm;suffices X:∃r,run cC 161 [.ptr mb 0,.vec o (de l),aw nd,.i item] H=some r/\∃Z H',r=(.vec Z (de (eP item m l nd).2),H')/\dX mb (eP item m l nd).1 H'/\iG (eP item m l nd).1 (eP item m l nd).2 D/\Kq mb H H' by obtain⟨r,hr,Z,H',rfl,q⟩:=X;exact⟨Z,H',hr,q⟩
 have hdk:eS nd.ks+1=db nd:=by cases nd with|mk k f t w a ks=>rw[s9];simp[Nd.ks]
 have N:fl nd.ks<=900000000000000000/\nd.ks.length<=900000000000000000:=by
  cases nd with
  |mk k f t w a ks=>rw[ew] at hm;simp[Nd.ks];omega
 obtain⟨n,L⟩:=H;have K:=h.push (.z (aB nd));have k1:=Kq.push (mb:=mb) ⟨n,L⟩ (.z (aB nd));have M:n≠mb:=by obtain⟨_,_,_,_,X,_⟩:=h;have:=(ai.1 X).1;omega
 have T:ab.get ⟨n+1,(n,.z (aB nd))::L⟩ n=some (.z (aB nd)):=ai.2 ⟨aa,by rw[bo,μ rfl]⟩;have O:=bf (n<n+1);have I:=rZ nd;have d:((nd.k:Int)==23)=decide (nd.k=23):=dF nd.k 23;have g:((nd.k:Int)==28)=decide (nd.k=28):=dF nd.k 28;have u:((nd.k:Int)==8)=decide (nd.k=8):=dF nd.k 8;have F:((nd.k:Int)==6)=decide (nd.k=6):=dF nd.k 6;refine fM (c:=.seq _ (.seq (.seq _ (.block 0 _)) (.seq _ (.seq (.seq _ (.cond _ _ _)) KK)))) rfl rfl func161 rfl (by rw[ntmps161];simp) ?_;by_cases R:nd.k=23
 ·rw[X0 item m l R] at b⊢;rw[π R] at d;obtain⟨⟨n2,C⟩,v,s,k2⟩:=WB K o j (b.le (B' _ _ _ _)) aa nd false;have y:run cC 202 [.ptr mb 0,.vec o (de l),aw nd,.bool false] ⟨n+1,(n,.z (aB nd))::L⟩=some (.tup [],⟨n2,C⟩):=v;simp only[go_sem,seval,O,I,d,y,results161];exact⟨_,rfl,_,_,rfl,s,j.ZS nd false,k1.trans k2⟩
 ·rw[ξ R] at d;by_cases P:nd.k=28
  ·rw[X1 item m l P] at b⊢;rw[π P] at g;rw[bU _] at u;obtain⟨⟨n2,C⟩,v,s,l2,k2⟩:=WC ih (oo:=if nd.ks.isEmpty then .nil else .ro) (o:=o) (D:=D) (lam:=true) K j b aa N.1 N.2;have y:run cC 113 [.ptr mb 0,.vec o (de l),.vec (if nd.ks.isEmpty then .nil else .ro) (br nd.ks),.i item,.bool true] ⟨n+1,(n,.z (aB nd))::L⟩=some (.tup [],⟨n2,C⟩):=v;simp only[go_sem,seval,O,I,oK nd,d,u,g,y,results161];exact⟨_,rfl,_,_,rfl,s,l2,k1.trans k2⟩
  ·rw[ξ P] at g;by_cases Q:nd.k=8
   ·have G:eP item m l nd=dE item (fg m l nd true) l nd.ks:=ZM item m l Q;rw[G] at b⊢;rw[π Q] at u;rw[bU _] at F;obtain⟨⟨n2,C⟩,v,s,k2⟩:=WB K o j ((b.le (yD _ _ _ _)).le (B' _ _ _ _)) aa nd true;have y:run cC 202 [.ptr mb 0,.vec o (de l),aw nd,.bool true] ⟨n+1,(n,.z (aB nd))::L⟩=some (.tup [],⟨n2,C⟩):=v;have S:=k2.2 _ _ _ M T;obtain⟨Y,W⟩:=ai.1 S;have U:pb item nd l (dE item (fg m l nd true) l nd.ks)=dE item (fg m l nd true) l nd.ks:=by unfold pb;rw[bM,bM]
    simp only[go_sem,seval,O,I,d,u,F,y,aC W,ο Y];refine aW (Pn (D:=D) (item:=item) (l:=l) (l1:=l) (o:=o) (o9:=o) (nd:=nd) M N.2 aa ih (λx p=>⟨by have:=sN p;omega,by have:=qC p;omega⟩) s (j.ZS nd true) b S ?_ ?_ ?_ ?_ ?_) ?_
    case refine_6=>
     rintro e ae ⟨n3,L3⟩ ⟨rfl,E,A,J,o3,b8⟩;rw[U] at A b8;simp only[go_sem,seval,b8,results161];exact⟨_,rfl,_,_,rfl,A,E,k1.trans (k2.trans J)⟩
    all_goals simp[go_sem,]
   ·rw[ξ Q] at u;by_cases B:nd.k=6
    ·have G:eP item m l nd=((dE item m (.fu false::l) nd.ks).1,l):=ZK item m l B;rw[G] at b⊢;rw[π B] at F;have lY:kX m:=b.le (yD _ _ _ _);obtain⟨o2,⟨n2,C⟩,v,s,k2⟩:=ZQ K o l (by have:=j.len;have:=lY.1;omega) false;have y:run cC 160 [.vec o (de l),.bool false] ⟨n+1,(n,.z (aB nd))::L⟩=some (.vec o2 (de (.fu false::l)),⟨n2,C⟩):=v;have S:=k2.2 _ _ _ M T;have U:pb item nd l (dE item m (.fu false::l) nd.ks)=((dE item m (.fu false::l) nd.ks).1,l):=by unfold pb;rw[bM,μ B]
     simp only[go_sem,seval,O,I,d,u,g,F,y];refine aW (Pn (D:=D+1) (item:=item) (l:=l) (l1:=.fu false::l) (o:=o) (o9:=o2) (nd:=nd) M N.2 aa ih (λx p=>⟨by have:=sN p;omega,by have:=qC p;omega⟩) s (j.fu false) b S ?_ ?_ ?_ ?_ ?_) ?_
     case refine_6=>
      rintro e ae ⟨n3,L3⟩ ⟨rfl,E,A,J,o3,b8⟩;rw[U] at A b8;simp only[go_sem,seval,b8,results161];exact⟨_,rfl,_,_,rfl,A,j.up (yD item m _ nd.ks) E.bw,k1.trans (k2.trans J)⟩
     all_goals simp[go_sem,]
    ·have G:eP item m l nd=pb item nd l (dE item m l nd.ks):=ahR item nd m l R P Q B;rw[ξ B] at F
     have V:kX (dE item m l nd.ks).1:=by
      rw[G] at b;unfold pb at b;by_cases h7:nd.k=7
      ·rw[μ h7] at b;exact b.le (sR _ _ _ _ _)
      ·rw[κ h7,κ B] at b;exact b
     rw[G];simp only[go_sem,seval,O,I,d,u,g,F];refine aW (Pn (D:=D) (item:=item) (l:=l) (l1:=l) (o:=o) (o9:=o) (nd:=nd) M N.2 aa ih (λx p=>⟨by have:=sN p;omega,by have:=qC p;omega⟩) K j V T ?_ ?_ ?_ ?_ ?_) ?_
     case refine_6=>
      rintro e ae ⟨n3,L3⟩ ⟨rfl,E,A,J,o3,b8⟩;simp only[go_sem,seval,b8,results161];refine⟨_,rfl,_,_,rfl,A,?_,k1.trans J⟩;unfold pb;by_cases h7:nd.k=7
      ·rw[μ h7];exact E.bind nd 4 item
      ·rw[κ h7,κ B];exact E
     all_goals simp[go_sem,]
def WD(mb item):∀nd:Nd,Df mb item nd
 | .mk k f t w a ks=>agN λx b=>WD mb item x
 termination_by nd=>SizeOf.sizeOf nd
 decreasing_by
  have:=List.sizeOf_lt_of_mem b;simp[Nd.ks] at this;simp[Nd.mk.sizeOf_spec];omega
def CW(n):bV prog 71 0 (.rptr (aB n))=some (.rptr (aB n)):=by
 cases n with
 |mk k f t w a ks=>exact Zf _ _ _ _ _ _
attribute [go_sem] CW
noncomputable def KM:=f74.c.r.r.r.l.r.b.b
noncomputable def KO:=f74.c.r.r.r.r.l.r.b.b
def I1{n:Nd}(Q:n.ks.length<=900000000000000000):∀rest i m l o H α,n.ks.drop i=rest->dX 2 m H->iG m l 0->kX (eh i m l rest).1->H.get 0=some (.z (aB n))->
  α 1=.ptr 0 0->α 2=.ptr 1 0->α 3=.ptr 2 0->α 4=.vec o (de l)->α 5=.i i->
  aF (aL (aT cC KM) α H) λe c H'=>e=.exit 0/\dX 2 (eh i m l rest).1 H'/\iG (eh i m l rest).1 (eh i m l rest).2 0/\Kq 2 H H'/\c 1=.ptr 0 0/\c 2=.ptr 1 0/\c 3=.ptr 2 0/\∃V,c 4=.vec V (de (eh i m l rest).2)
 |[],i,m,l,o,H,α,f,h,d,b,g,a1,a2,a3,a4,a5=>by
  have hi:n.ks.length<=i:=aED.1 f;have w:KM=.seq _ _:=rfl;have u:=bU ((i:Int)<(n.ks.length:Int));obtain⟨C,L⟩:=H;obtain⟨R,G⟩:=ai.1 g;have y:=aC G;have t0:=ο R;have h5:=oK n;rw[aJ,w];simp only[go_sem,seval,a1,a5,u,y,t0,h5,bL];refine⟨aI,h,d,Kq.refl _ _,?_,?_,?_,o,?_⟩;all_goals simp[go_sem,a2,a3,a4]
  rfl
 |x::rest,i,m,l,o,H,α,f,h,d,b,g,a1,a2,a3,a4,a5=>by
  have hi:i<n.ks.length:=by
   by_cases U:i<n.ks.length
   ·exact U
   ·rw[aEk aa] at f;cases f
  have T:n.ks[i]? =some x:=by have:=Μ hi;rw[f] at this;rw[Ν hi];exact Ι some (aEJ this).1.symm
  have I:n.ks.drop (i+1)=rest:=by have:=Μ hi;rw[f] at this;exact(aEJ this).2.symm
  have w:KM=.seq _ _:=rfl;have u:=bH ((i:Int)<(n.ks.length:Int));have S:=kD (if n.ks.isEmpty then .nil else .ro) T;have J:=o8 (n:=i) aa;have p:((x.k:Int)==2)=decide (x.k=2):=dF x.k 2;have j:((x.k:Int)==3)=decide (x.k=3):=dF x.k 3;have M:=rZ x;obtain⟨C,L⟩:=H;obtain⟨R,G⟩:=ai.1 g;have y:=aC G;have t0:=ο R;have h5:=oK n;by_cases r:x.k=2
  ·rw[π r] at p;rw[bU _] at j;have a:eh i m l (x::rest)=eh (i+1) (fz m l x 1 i) (.nm m.bs.length::l) rest:=by simp[eh,r]
   rw[a] at b⊢;have O:kX (fz m l x 1 i):=b.le (AG _ _ _ _);obtain⟨o2,⟨n2,v⟩,F,E,k2⟩:=JD h o d (O.le (sR _ _ _ _ _)) aa x 1 i;have K:run cC 112 [.ptr 2 0,.vec o (de l),aw x,.i 1,.i i] ⟨C,L⟩=some (.vec o2 (de (.nm m.bs.length::l)),⟨n2,v⟩):=F;have B:=k2.2 _ _ _ aA g;obtain⟨N,P⟩:=ai.1 B;rw[aJ,w];simp only[go_sem,seval,a1,a3,a4,a5,u,S,y,t0,aC P,ο N,h5,M,bL,K,J,p,j];refine aW (I1 (n:=n) Q rest (i+1) _ _ o2 ⟨n2,v⟩ _ I E (d.bind x 1 i) b B ?_ ?_ ?_ ?_ ?_) ?_
   case refine_6=>
    rintro e c H' ⟨rfl,q,A,s,t⟩;exact⟨rfl,q,A,k2.trans s,t⟩
   all_goals simp[go_sem,a1,a2,a3]
  ·rw[ξ r] at p;by_cases D:x.k=3
   ·rw[π D] at j;have a:eh i m l (x::rest)=eh (i+1) (fz m l x 2 i) (.nm m.bs.length::l) rest:=by simp[eh];rw[κ r,μ D]
    rw[a] at b⊢;have O:kX (fz m l x 2 i):=b.le (AG _ _ _ _);obtain⟨o2,⟨n2,v⟩,F,E,k2⟩:=JD h o d (O.le (sR _ _ _ _ _)) aa x 2 i;have K:run cC 112 [.ptr 2 0,.vec o (de l),aw x,.i 2,.i i] ⟨C,L⟩=some (.vec o2 (de (.nm m.bs.length::l)),⟨n2,v⟩):=F;have B:=k2.2 _ _ _ aA g;rw[aJ,w];simp only[go_sem,seval,a1,a3,a4,a5,u,S,y,t0,h5,M,bL,K,J,p,j];refine aW (I1 (n:=n) Q rest (i+1) _ _ o2 ⟨n2,v⟩ _ I E (d.bind x 2 i) b B ?_ ?_ ?_ ?_ ?_) ?_
    case refine_6=>
     rintro e c H' ⟨rfl,q,A,s,t⟩;exact⟨rfl,q,A,k2.trans s,t⟩
    all_goals simp[go_sem,a1,a2,a3]
   ·rw[ξ D] at j;have a:eh i m l (x::rest)=eh (i+1) m l rest:=by simp[eh];rw[κ r,κ D]
    rw[a] at b⊢;rw[aJ,w];simp only[go_sem,seval,a1,a5,u,S,y,t0,h5,M,bL,J,p,j];refine aW (I1 (n:=n) Q rest (i+1) _ _ o ⟨C,L⟩ _ I h d b g ?_ ?_ ?_ ?_ ?_) ?_
    case refine_6=>
     rintro e c H' ⟨rfl,q,A,s,t⟩;exact⟨rfl,q,A,s,t⟩
    all_goals simp[go_sem,a1,a2,a3,a4]
def Po{n:Nd}{l}{o}(P:n.ks.length<=900000000000000000)(F:∀x∈n.ks,db x<=300000/\mx x<=900000000000000000):∀rest i m H α,n.ks.drop i=rest->dX 2 m H->iG m l 0->kX (hC l i m rest)->H.get 0=some (.z (aB n))->
  α 1=.ptr 0 0->α 2=.ptr 1 0->α 3=.ptr 2 0->α 4=.vec o (de l)->α 6=.i i->
  aF (aL (aT cC KO) α H) λe j H'=>e=.exit 2/\dX 2 (hC l i m rest) H'/\iG (hC l i m rest) l 0/\Kq 2 H H'/\j 1=.ptr 0 0/\j 2=.ptr 1 0/\j 3=.ptr 2 0
 |[],i,m,H,α,c,h,p,d,g,a1,a2,a3,a4,a6=>by
  have hi:n.ks.length<=i:=aED.1 c;have s:KO=.seq _ _:=rfl;have r:=bU ((i:Int)<(n.ks.length:Int));obtain⟨Q,L⟩:=H;obtain⟨G,A⟩:=ai.1 g;have u:=aC A;have t0:=ο G;have h5:=oK n;rw[aJ,s];simp only[go_sem,seval,a1,a6,r,u,t0,h5,bL];refine⟨aI,h,p,Kq.refl _ _,?_,?_,?_⟩;all_goals simp[go_sem,a2,a3]
 |x::rest,i,m,H,α,c,h,p,d,g,a1,a2,a3,a4,a6=>by
  have hi:i<n.ks.length:=by
   by_cases W:i<n.ks.length
   ·exact W
   ·rw[aEk aa] at c;cases c
  have O:n.ks[i]? =some x:=by have:=Μ hi;rw[c] at this;rw[Ν hi];exact Ι some (aEJ this).1.symm
  have K:n.ks.drop (i+1)=rest:=by have:=Μ hi;rw[c] at this;exact(aEJ this).2.symm
  have s:KO=.seq _ _:=rfl;have r:=bH ((i:Int)<(n.ks.length:Int));have R:=kD (if n.ks.isEmpty then .nil else .ro) O;have M:=o8 (n:=i) aa;have q:((x.k:Int)==3)=decide (x.k=3):=dF x.k 3;have N:=rZ x;obtain⟨T,U⟩:=F x (Δ O);obtain⟨Q,L⟩:=H;obtain⟨G,A⟩:=ai.1 g;have u:=aC A;have t0:=ο G;have h5:=oK n;by_cases v:x.k=3
  ·rw[π v] at q;have b:hC l i m (x::rest)=hC l (i+1) (kf i false m l x.ks) rest:=by simp[hC];rw[μ v]
   rw[b] at d⊢;have X:kX (kf i false m l x.ks):=d.le (CF _ _ _ _)
   have J:fl x.ks<=900000000000000000/\x.ks.length<=900000000000000000/\eS x.ks<=300000:=by
    cases x with
    |mk k f t w a D4=>rw[ew] at U;rw[s9] at T;simp[Nd.ks];omega
   obtain⟨⟨n2,Y⟩,V,S,Z,k2⟩:=WC (mb:=2) (item:=i) (ks:=x.ks) (λy _=>WD 2 i y) (oo:=if x.ks.isEmpty then .nil else .ro) (o:=o) (D:=0) (lam:=false) h p X aa J.1 J.2.1;rw[aJ,s];simp only[go_sem,seval,a1,a3,a4,a6,r,R,u,t0,h5,N,bL,V,M,q];refine aW (Po (n:=n) (o:=o) P F rest (i+1) _ ⟨n2,Y⟩ _ K S Z d (k2.2 _ _ _ aA g) ?_ ?_ ?_ ?_ ?_) ?_
   case refine_6=>
    rintro e j H' ⟨rfl,B,I,C,E⟩;exact⟨rfl,B,I,k2.trans C,E⟩
   all_goals simp[go_sem,a1,a2,a3,a4]
  ·rw[ξ v] at q;have b:hC l i m (x::rest)=hC l (i+1) m rest:=by simp[hC];rw[κ v]
   rw[b] at d⊢;rw[aJ,s];simp only[go_sem,seval,a1,a6,r,R,u,t0,h5,N,bL,M,q];refine aW (Po (n:=n) (o:=o) P F rest (i+1) _ ⟨Q,L⟩ _ K h p d g ?_ ?_ ?_ ?_ ?_) ?_
   case refine_6=>
    rintro e j H' ⟨rfl,B,I,C,E⟩;exact⟨rfl,B,I,C,E⟩
   all_goals simp[go_sem,a1,a2,a3,a4]
def Sz(o){l}{i:Nat}{p:Nat×Nat}(h:l[i]? =some p):dW prog 87 (.vec o (cO l)) (.i i)=some (.rptr [.i p.1,.i p.2]):=by
 have:(cO l)[i]? =some (.agg [.i p.1,.i p.2]):=by simp[cO,h,ny]
 simp[dW,CV,AH,this,AV.width,AV.cells]
def sT(l:List (Nat×Nat)):(cO l).length=l.length:=by simp[cO]
def ZV(l r):cO (l++r)=cO l++cO r:=by simp[cO]
def Rh{H:ab}{o o2}{es xs:List (Nat×Nat)}(h:cY H 210 o es.length)(k:es.length+xs.length<=2000000000):∃q H',cH (λ_=>false) prog 87 87 (.vec o (cO es)) (.vec o2 (cO xs)) H=some (.vec q (cO (es++xs)),H')/\cY H' 210 q (es++xs).length/\H.next<=H'.next/\∀i te cs,H.get i=some (.c te cs)->H'.get i=some (.c te cs):=by
 by_cases r:xs=[]
 ·subst r;rw[Η];rcases h with⟨rfl,a⟩|⟨rfl,a⟩|⟨a,j,rfl,f⟩
  ·have d:es=[]:=Ξ.1 a;subst d;refine⟨.nil,H,?_,.inl ⟨rfl,rfl⟩,ν _,λ_ _ _ h=>h⟩;simp[cH,CV,AH,Qg,JB,jK,nH,ou,cO]
  ·refine⟨.full,H,?_,.inr (.inl ⟨rfl,a⟩),ν _,λ_ _ _ h=>h⟩;have n:=(vp es).lr AJ;have l:=(vp ([]:List (Nat×Nat))).lr AJ;simp[cO] at n l⊢;simp only[cH,CV,AH,Qg,JB,jK,nH];simp only[Χ,aFG] at k;rw[μ ⟨trivial,aA,rfl⟩];simp only[υ,ap1];rw[μ ⟨n,l,aP,aP⟩];simp
  ·have d:=HG (m:=λ_=>false) AJ (o2:=o2) (xs:=cO []) (j:=j) (es:=cO es) (H:=H) (by rw[sT];exact f) (vp _) (vp _) (by simp[cO];simp at k;omega) (by simp[cO];simp at k;omega);simp[cO] at d⊢;refine⟨.own j,_,d,.inr (.inr ⟨a,j,rfl,by rw[ab.eE,μ rfl,f];rfl⟩),ν _,λi te cs b=> ?_⟩;rw[ab.eE,κ (by rintro rfl;rw[f] at b;cases b)];exact b
 ·obtain⟨j,H',e,g,le,p⟩:=wE AJ (m:=λ_=>false) rfl (o:=o) (o2:=o2) (es:=cO es) (xs:=cO xs) (H:=H) (by rw[sT];exact h) (vp _) (vp _) (by intro s;apply r;have:=Ι List.length s;rw[sT] at this;exact Ξ.1 this) (by rw[sT,sT];omega) (by rw[sT,sT];omega);refine⟨.own j,H',by rw[ZV];exact e,by rw[<-ZV,sT] at g;exact g,le,λi te cs b=>p _ _ ah b⟩
def ayo(o)(s:List (Nat×Nat))(x)(a:x<=s.length):kg prog 87 none (some (.i x)) (.vec o (cO s))=some (.vec .ro (cO (s.take x))):=by
 have qZ:x<=(cO s).length:=by rw[sT];exact a
 have b1:nI (cO s).length none (some (.i x))=some (0,x):=by simp only[nI,j9];rw[μ ⟨aa,aa⟩];simp
 simp[kg,(vp s).lr AJ,b1];simp[cO,List.map_take,yH]
def ayp(o)(s:List (Nat×Nat))(x)(b:x<=s.length):∃a,kg prog 87 (some (.i x)) none (.vec o (cO s))=some (.vec a (cO (s.drop x))):=by
 have qZ:x<=(cO s).length:=by rw[sT];exact b
 refine⟨yH o none,?_⟩;have b1:nI (cO s).length (some (.i x)) none=some (x,(cO s).length):=by simp only[nI,j9];rw[μ ⟨aa,aa⟩];simp
 simp[kg,(vp s).lr AJ,b1,aGt];simp[cO,List.map_drop]
noncomputable def Gh:=f74.c.r.r.r.r.r.r.l.r.b.b
noncomputable def LV:=Gh.r.l.b.r.l.b.b
structure LW(C:List AV)(o3:Ab.Own)(bad:List (Nat×Nat))(s:List (Nat×Nat))(o7:Ab.Own)(i:Nat)(α:az)(H:ab):Prop where
 g:∃tm,H.get 2=some (.cells tm C)
 c2:C[2]? =some (.vec o3 (cO bad))
 a2:α 2=.ptr 1 0
 a3:α 3=.ptr 2 0
 a7:α 7=.vec o7 (cO s)
 a8:α 8=.i i
 b7:o7.bare=aD s.length
def ZW{C}{o3 o7:Ab.Own}{bad s:List (Nat×Nat)}{i:Nat}(hi:i<bad.length)(A:s.length<=1000000000):∀x α H,x<=s.length->LW C o3 bad s o7 i α H->α 9=.i x->
  aF (aL (aT cC LV) α H) λe j H'=>e=.exit 6/\H'=H/\LW C o3 bad s o7 i j H/\∃y:Nat,y<=s.length/\j 9=.i y
 |0,α,H,v,h,a9=>by
  have c:LV=.seq _ _:=rfl;have f:=GY (a:=0) (b:=0) aa;obtain⟨⟨tm,g⟩,c2,a2,a3,a7,a8,b7⟩:=h;have k:α 9=.i 0:=a9;rw[aJ,c];simp only[go_sem,seval,k];refine⟨aI,aI,⟨⟨tm,g⟩,c2,?_,?_,?_,?_,b7⟩,0,aa,?_⟩;all_goals(try simp[go_sem,a2,a3,a7,a8])
  all_goals(try rfl)
 |x+1,α,H,v,h,a9=>by
  have c:LV=.seq _ _:=rfl;have f:=bH (((x+1:Nat):Int)>0);have w1:=vP (x+1) aa aa;simp only[aGH] at w1;obtain⟨⟨tm,g⟩,c2,a2,a3,a7,a8,b7⟩:=h;obtain⟨p,w⟩:=fo (show x<s.length by omega);obtain⟨q,d⟩:=fo hi;have t:=Sz o7 w;have o:=Sz o3 d;obtain⟨n,L⟩:=H;obtain⟨z,g2⟩:=ai.1 g;have r:=aC g2;have m:=ο z;by_cases u:q.1<p.1
  ·have l:=LN (a:=p.1) (b:=q.1) u;rw[aJ,c];simp only[go_sem,seval,a3,a7,a8,a9,f,w1,t,o,r,m,c2,l];refine aW (ZW (o7:=o7) hi A x _ ⟨n,L⟩ aa ⟨⟨tm,g⟩,c2,?_,?_,?_,?_,b7⟩ ?_) ?_;case refine_6=>exact λe j H' d=>d
   all_goals simp[go_sem,a2,a3,a7,a8]
  ·have l:=GY (a:=p.1) (b:=q.1) u;rw[aJ,c];simp only[go_sem,seval,a3,a7,a8,a9,f,w1,t,o,r,m,c2,l];refine⟨aI,aI,⟨⟨tm,g⟩,c2,?_,?_,?_,?_,b7⟩,x+1,v,?_⟩;all_goals simp[go_sem,a2,a3,a7,a8]
def ZX{C:List AV}{o3:Ab.Own}{bad:List (Nat×Nat)}(hb:bad.length<=1000000000):∀d i s o7 α H,i+d=bad.length->s.length=i->LW C o3 bad s o7 i α H->(∃te cs,H.get 1=some (.c te cs))->
  aF (aL (aT cC Gh) α H) λe E H'=>e=.exit 4/\∃f u,f.length=bad.length/\LW C o3 bad f u bad.length E H'/\H.next<=H'.next/\∀i te cs,H.get i=some (.c te cs)->H'.get i=some (.c te cs)
 |0,i,s,o7,α,H,J,t,h,j=>by
  have x:Gh=.seq _ _:=rfl;have hi:i=bad.length:=aa;subst hi;have w:=bU ((bad.length:Int)<(bad.length:Int));have v:=h;obtain⟨⟨tm,g⟩,c2,a2,a3,a7,a8,b7⟩:=v;obtain⟨n,L⟩:=H;obtain⟨p,g2⟩:=ai.1 g;have m:=aC g2;have k:=ο p;rw[aJ,x];simp only[go_sem,seval,a3,a8,m,k,c2,sT,w];refine⟨aI,s,o7,t,⟨⟨tm,g⟩,c2,?_,?_,?_,?_,b7⟩,ν _,λ_ _ _ h=>h⟩;all_goals simp[go_sem,a2,a3,a7,a8]
 |d+1,i,s,o7,α,H,J,t,h,j=>by
  have x:Gh=.seq _ (.seq (.block 5 (.seq _ (.seq (.block 6 (.loop LV)) _))) _):=rfl;have w:=bH ((i:Int)<(bad.length:Int));have v:=h;obtain⟨⟨tm,g⟩,c2,a2,a3,a7,a8,b7⟩:=v;obtain⟨n,L⟩:=H;obtain⟨p,g2⟩:=ai.1 g;have m:=aC g2;have k:=ο p;rw[aJ,x];simp only[go_sem,seval,a3,a7,a8,m,k,c2,sT,w];simp only[bW];refine bz (dm (ZW (C:=C) (o3:=o3) (o7:=o7) (bad:=bad) (s:=s) (i:=i) aa aa s.length _ ⟨n,L⟩ (ν _) ⟨⟨tm,g⟩,c2,?_,?_,?_,?_,b7⟩ ?_)) ?_
  case refine_6=>
   rintro _ ⟨E,H1,rfl,rfl,⟨_,_,a2,a3,a7,a8,_⟩,y,F,a9⟩;obtain⟨q,O⟩:=fo (show i<bad.length by omega);obtain⟨os,P⟩:=ayp o7 s y F;have K:(s.take y).length=y:=by rw[aEH];omega
   have M:(s.drop y).length=s.length-y:=adv;obtain⟨Z,⟨W,La⟩,p1,B,Y,b⟩:=Rh (H:=⟨n,L⟩) (o:=.nil) (o2:=.ro) (es:=[]) (xs:=s.take y) (.inl ⟨rfl,rfl⟩) (by rw[K];simp;omega);obtain⟨r,A⟩:=ai.1 (b _ _ _ g);obtain⟨S,⟨N,Q⟩,l,D,lb,z⟩:=Rh (H:=⟨W,La⟩) (o:=Z) (o2:=.full) (es:=[]++s.take y) (xs:=[q]) B aP;obtain⟨oc,⟨nc,Lc⟩,p3,G,I,kc⟩:=Rh (H:=⟨N,Q⟩) (o:=S) (o2:=os) (es:=[]++s.take y++[q]) (xs:=s.drop y) D (by simp[M];omega);have V:cO []=[]:=rfl;have n1:cO [q]=[.agg [.i q.1,.i q.2]]:=rfl;simp only[Ο] at p1 l p3 B D G;rw[V] at p1;rw[n1] at l;simp only[go_sem,seval,a3,a7,a8,a9,ayo o7 s y F,P,p1,l,p3,Sz o3 O,aC A,ο r,c2,(eN i aa),cG];have a:(s.take y++[q]++s.drop y).length=i+1:=by simp[t];omega
   refine aW (ZX hb d (i+1) (s.take y++[q]++s.drop y) oc _ ⟨nc,Lc⟩ aa a ⟨⟨tm,kc _ _ _ (z _ _ _ (b _ _ _ g))⟩,c2,?_,?_,?_,?_,?_⟩ ?_) ?_;case refine_5=>rw[G.bare];rfl
   case refine_6=>
    obtain⟨te,cs,j⟩:=j;exact⟨te,cs,kc _ _ _ (z _ _ _ (b _ _ _ j))⟩
   case refine_7=>
    rintro e qQ H' ⟨rfl,f,u,R,q2,U,X⟩;exact⟨rfl,f,u,R,q2,atB Y (atB lb (atB I U)),λi te cs T=>X _ _ _ (kc _ _ _ (z _ _ _ (b _ _ _ T)))⟩
   all_goals simp[go_sem,a2,a3]
  all_goals simp[go_sem,a2,a3,a7,a8]
def ayq{n}:dX 2 ⟨[],[],[]⟩ ⟨3,[(2,.z [.vec .nil [],.vec .nil [],.vec .nil []]),(1,.k 89 [.vec .nil [],.vec .nil [],.vec .nil []]),(0,.z (aB n))]⟩:=⟨none,.nil,.nil,.nil,rfl,.inl ⟨rfl,rfl⟩,.inl ⟨rfl,rfl⟩,.inl ⟨rfl,rfl⟩⟩
def at4{bs:List Bi}{ms:List Me}{o1 o2 o3:Ab.Own}{bad:List (Nat×Nat)}(a:o1.bare=aD bs.length)(g2:o2.bare=aD ms.length)(g3:o3.bare=aD bad.length)(b0):(AV.agg [.vec o1 (bs.map bg),.vec o2 (ms.map ck),.vec o3 (cO bad)]).erase=mapA ⟨bs,ms,b0⟩ bad:=by simp[AV.erase,AV.bare,a,g2,g3];rfl
def aCi{n:Nd}(g:n.ks.length<=900000000000000000)(C:∀x∈n.ks,db x<=300000/\mx x<=900000000000000000)(d:kX (jN n)):∃v,aK prog (run cC) 74 [aw n]=some v/\∃bad,bad.length=(jN n).bad.length/\v=mapA (jN n) bad:=by
 refine yl (c:=.seq _ (.seq _ (.seq _ (.seq (.seq _ (.block 0 (.loop KM))) (.seq (.seq _ (.block 2 (.loop KO))) (.seq _ (.seq (.seq _ (.block 4 (.loop Gh))) _))))))) rfl rfl func74 rfl (by rw[ntmps74];simp) (bE:=[aw n]) (by simp[pP]) (by rw[yB];rfl) ?_;have f:sU prog 89 []=some (.agg [.vec .nil [],.vec .nil [],.vec .nil []]):=af;have j:∀H,eQ (.agg [.vec .nil [],.vec .nil [],.vec .nil []]) H=some (.ptr H.next 0,H.push (.z [.vec .nil [],.vec .nil [],.vec .nil []])):=λH=>by simp[eQ,AV.width,AV.cells]
 have m:jN n=hC (eh 0 ⟨[],[],[]⟩ [] n.ks).2 0 (eh 0 ⟨[],[],[]⟩ [] n.ks).1 n.ks:=rfl;rw[m] at d⊢;have u:kX (eh 0 ⟨[],[],[]⟩ [] n.ks).1:=d.le (CF _ _ _ _);have w:iG ⟨[],[],[]⟩ [] 0:=⟨λi hi=>(by cases hi),ah,(by unfold Bw;simp)⟩;simp only[go_sem,seval,ab.empty,f,j];simp only[bW];refine bz (dm (I1 (n:=n) g n.ks 0 ⟨[],[],[]⟩ [] .nil ⟨3,[(2,.z [.vec .nil [],.vec .nil [],.vec .nil []]),(1,.k 89 [.vec .nil [],.vec .nil [],.vec .nil []]),(0,.z (aB n))]⟩ _ rfl ayq w u rfl ?_ ?_ ?_ ?_ ?_)) ?_
 case refine_6=>
  rintro _ ⟨cT,H1,rfl,D,l1,k1,a1,a2,a3,o4,a4⟩;simp only[go_sem,seval,];simp only[bW];refine bz (dm (Po (n:=n) (l:=(eh 0 ⟨[],[],[]⟩ [] n.ks).2) (o:=o4) g C n.ks 0 _ H1 _ rfl D l1 d (k1.2 0 none (aB n) aA rfl) ?_ ?_ ?_ ?_ ?_)) ?_
  case refine_6=>
   rintro _ ⟨fS,H2,rfl,⟨tm,o1,o2,o3,hm,y,g2,g3⟩,E,k2,b1,b2,p⟩;have h:=k2.2 1 _ _ aA (k1.2 1 (some 89) _ aA rfl);simp only[go_sem,seval,];simp only[bW];refine bz (dm (ZX (bad:=(hC (eh 0 ⟨[],[],[]⟩ [] n.ks).2 0 (eh 0 ⟨[],[],[]⟩ [] n.ks).1 n.ks).bad) (o3:=o3) (d.bad E.bw) _ 0 [] .nil _ H2 (aEF _) rfl ⟨⟨tm,hm⟩,rfl,?_,?_,?_,?_,rfl⟩ ⟨_,_,h⟩)) ?_
   case refine_5=>
    rintro _ ⟨uV,⟨n3,L3⟩,rfl,s,o7,B,⟨⟨tm',hg⟩,_,c2,A,t,_,e⟩,oR,F⟩;obtain⟨q,b⟩:=ai.1 hg;obtain⟨r,a⟩:=ai.1 (F _ _ _ h);simp only[go_sem,seval,c2,A,t,aC b,ο q,aC a,ο r,a,b,fV,aR,results74];refine⟨_,_,_,rfl,?_,s,B,rfl⟩;rw[at4 y.bare g2.bare e (hC (eh 0 ⟨[],[],[]⟩ [] n.ks).2 0 (eh 0 ⟨[],[],[]⟩ [] n.ks).1 n.ks).bad,μ (CG _ _)]
   all_goals simp[go_sem,b2,p]
   all_goals(try rfl)
  all_goals simp[go_sem,a1,a2,a3,a4]
  all_goals(try rfl)
 all_goals simp[go_sem,]
 all_goals rfl
end Go.Proofs.YtmehamiifalmaaaGreatDoor
