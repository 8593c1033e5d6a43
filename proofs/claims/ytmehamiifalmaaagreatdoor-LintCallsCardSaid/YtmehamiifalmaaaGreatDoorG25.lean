/- LintCalls: part 26 of its proof. -/
import Derived.RangeFuncNested
import Derived.RangeFuncBound
import Derived.RangeFuncCalls
import Derived.RangeFuncLeaves
import Derived.Shelf.Abstract
import Derived.Shelf.RegionOpenPlain
import Derived.OwnWalkIn
import Derived.TacticsInMore
import Derived.LoopNIn
import Derived.LoopIn
import Derived.Test.YtmehamiifalmaaaGreatDoorG21
import Derived.Test.YtmehamiifalmaaaGreatDoorG22
set_option linter.all false
namespace Go.Proofs.YtmehamiifalmaaaGreatDoor
open Go Go.RowKit Go.Shelf Go.Proofs Go.Proofs.Tryz
attribute [local go_sem] Oper.semAt_some
def upto{α:Type}(f:Nat->α)(k:Nat):List α:=(List.range k).map f
def Hj{α:Type}(f:Nat->α)(k:Nat):upto f (k+1)=upto f k++[f k]:=by simp[upto,List.range_succ]
def afm{α:Type}(f:Nat->α)(k:Nat):(upto f k).length=k:=by simp[upto]
abbrev mZ:=Int×Int×ByteArray×Int
def zB:mZ:=(0,0,.empty,0)
def C_(z:mZ):Value:=.agg #[.int .i64 z.1,.int .i64 z.2.1,.string z.2.2.1,.int .i64 z.2.2.2]
def fB(zs:List mZ)(k:Nat):Nat×mZ:=(zs.length-1-k,zs[zs.length-1-k]?.getD zB)
set_option maxRecDepth 100000 in
set_option maxHeartbeats 2000000 in
def aku(F:Fence)(n)(h8:F.fn 213)(kS:F.round=none)(hn:1<=n)(l Bs pt b off cap:Nat)(zs:List mZ)(Cz:zs.length*40<=140737488351232)(hb:b<pt)(hBl:Bs<pt)(J Jx:List (Nat×mZ)->World->Prop)
  (hY:∀pre x W,J pre W->pre.length<zs.length->YieldAt F (n-1) prog l #[.int .i64 x.1,C_ x.2] W λe W'=>
   (e=.returned (.bool true)/\J (pre++[x]) W'/\Below pt W W')\/(e=.returned (.bool false)/\Jx (pre++[x]) W'))
  (W:World) (LK:W.cell? ⟨Bs,0,none⟩=some (.slice (some ⟨b,off,none⟩) zs.length cap))
  (hc:∀j,j<zs.length->W.cell? ⟨b,off+j*4,none⟩=some (.int .i64 (zs[j]?.getD zB).1)/\W.cell? ⟨b,off+j*4+1,none⟩=some (.int .i64 (zs[j]?.getD zB).2.1)/\W.cell? ⟨b,off+j*4+2,none⟩=some (.string (zs[j]?.getD zB).2.2.1)/\W.cell? ⟨b,off+j*4+3,none⟩=some (.int .i64 (zs[j]?.getD zB).2.2.2))
  (h0:J [] W):
  CallsIn F n prog 213 #[.func (.yield l) #[] #[],.pointer (some ⟨Bs,0,none⟩)] W λe W'=>(∃v,e=.returned v)/\
   ((∃ys,ys=upto (fB zs) zs.length/\J ys W')\/(∃pre,(∃k,k<=zs.length/\pre=upto (fB zs) k)/\Jx pre W')):=by
 refine callsIn_of_wp func213 rfl h8 ?_ kS;simp only[ntmps213,aDw,Ι,Χ,Nat.reduceAdd,Nat.reduceSub,aEW,aEX,aFh,aE5,aDl,aD8]
 gi_wp2
 gi_loopw [3] (λi wr=>∃m k:Nat,m+k=zs.length/\i=.int .i64 ((m:Int)-1)/\J (upto (fB zs) k) wr/\Below pt W wr)
  (λi _=>(intOf i+1).toNat)
 case atStart=>exact⟨zs.length,0,by omega,by simp;try omega,h0,Below.refl _ _⟩
 case round=>
  obtain⟨m,k,hk,rfl,LM,DR⟩:=hrel;have aDc:=(DR.cell (p:=⟨Bs,0,none⟩) hBl).trans LK
  cases m with
  |zero=>
   obtain rfl:k=zs.length:=by omega
   gi_wp2
   go_end0;exact⟨⟨_,rfl⟩,.inl ⟨_,rfl,LM⟩⟩
  |succ m=>
   have hm:m<zs.length:=by omega
   obtain⟨c0,c1,c2,c3⟩:=hc m hm;have d0:=(DR.cell (p:=⟨b,off+m*4,none⟩) hb).trans c0;have d1:=(DR.cell (p:=⟨b,off+m*4+1,none⟩) hb).trans c1;have d2:=(DR.cell (p:=⟨b,off+m*4+2,none⟩) hb).trans c2;have d3:=(DR.cell (p:=⟨b,off+m*4+3,none⟩) hb).trans c3;have hmi:((m+1:Nat):Int)-1=(m:Int):=by omega
   have TI:fB zs k=(m,zs[m]?.getD zB):=by
    have:zs.length-1-k=m:=by omega
    simp[fB,this]
   generalize hz:zs[m]?.getD zB=z at d0 d1 d2 d3 TI;obtain⟨z1,z2,z3,z4⟩:=z;dsimp only at d0 d1 d2 d3;obtain⟨fn,tmps,assign,body,hy,hR⟩:=hY _ (m,(z1,z2,z3,z4)) wr LM (by rw[afm];omega);dsimp[C_] at hy;rw[hmi]
   gi_wp2
   refine hR.mono ?_;rintro e W3 (⟨rfl,hJ3,gZ⟩|⟨rfl,aBG⟩)
   ·gi_wp2
    go_roundw;case rel=>exact⟨m,k+1,by omega,by simp,by rw[Hj,TI];exact hJ3,DR.trans gZ⟩
    case measure=>simp[intOf]
   ·gi_wp2
    refine bodyPost_ret (results_none rfl _ _ _) rfl ?_;exact⟨⟨_,rfl⟩,.inr ⟨_,⟨k+1,by omega,rfl⟩,by rw[Hj,TI];exact aBG⟩⟩
set_option maxRecDepth 100000 in
set_option maxHeartbeats 1000000 in
def aeK(F:Fence)(n)(h7:F.fn 213)(kS:F.round=none)(l Bs)(J:List (Nat×mZ)->World->Prop)(W:World)(LK:W.cell? ⟨Bs,0,none⟩=some (.slice none 0 0))(h0:J [] W):
  CallsIn F n prog 213 #[.func (.yield l) #[] #[],.pointer (some ⟨Bs,0,none⟩)] W λe W'=>(∃v,e=.returned v)/\J [] W':=by
 refine callsIn_of_wp func213 rfl h7 ?_ kS;simp[ntmps213,aDw,Nat.reduceAdd,Nat.reduceSub,aEW,aEX,aFh,aE5]
 gi_wp2
 gi_loopw [3] (λi wr=>i=.int .i64 (-1)/\J [] wr) (λ_ _=>0)
 case atStart=>exact⟨rfl,h0⟩
 case round=>
  obtain⟨rfl,LM⟩:=hrel
  gi_wp2
  go_end0;exact⟨⟨_,rfl⟩,LM⟩
set_option maxHeartbeats 1000000 in
def apQ(F:Fence)(n)(h5:F.fn 169)(kS:F.round=none)(a)(len cap)(w:World):
  CallsIn F n prog 169 #[.slice a len cap] w λe w'=>e=.returned (.func (.func 213) #[] #[.pointer (some ⟨w.heap.size,0,none⟩)])/\w'=w.alloc (.cells #[.slice a len cap] 72):=by
 refine callsIn_of_wp func169 rfl h5 ?_ kS;simp[ntmps169,aDw,Nat.reduceAdd,Nat.reduceSub,aEW,aEX,aFh,aE5]
 gi_wp2
 go_ret;exact⟨rfl,rfl⟩
def A'(c:Nat)(W:World)(a:Value)(zs:List mZ):Prop:=
 (a=.slice none 0 0/\zs=[])\/∃b off cap,a=.slice (some ⟨b,off,none⟩) zs.length cap/\b<c/\∀j,j<zs.length->W.cell? ⟨b,off+j*4,none⟩=some (.int .i64 (zs[j]?.getD zB).1)/\W.cell? ⟨b,off+j*4+1,none⟩=some (.int .i64 (zs[j]?.getD zB).2.1)/\W.cell? ⟨b,off+j*4+2,none⟩=some (.string (zs[j]?.getD zB).2.2.1)/\W.cell? ⟨b,off+j*4+3,none⟩=some (.int .i64 (zs[j]?.getD zB).2.2.2)
def A'.below{a}{A B}(h:Below a A B){c:Value}{zs:List mZ}:A' a A c zs->A' a B c zs
 | .inl e=>.inl e
 | .inr ⟨b,off,cap,e,hb,k⟩=>.inr ⟨b,off,cap,e,hb,λj d=>by
   obtain⟨i,g,c2,f⟩:=k j d
   exact⟨(h.cell (p:=⟨b,_,none⟩) hb).trans i,(h.cell (p:=⟨b,_,none⟩) hb).trans g,(h.cell (p:=⟨b,_,none⟩) hb).trans c2,(h.cell (p:=⟨b,_,none⟩) hb).trans f⟩⟩
def agh(F:Fence)(n)(g:F.fn 213)(i:F.round=none)(y:1<=n)(Bs pt)(f:Value)(zs:List mZ)(u:zs.length*40<=140737488351232)(w:World)(r:Bs<pt)(a:pt<=w.heap.size)
  (v:w.cell? ⟨Bs,0,none⟩=some f) (j:A' pt w f zs):
  SeqStopsK F n prog 213 #[.pointer (some ⟨Bs,0,none⟩)] (λx:Nat×mZ=>#[Value.int .i64 x.1,C_ x.2]) (Below pt) (λm=>m=upto (fB zs) zs.length) (λpre=>∃k,k<=zs.length/\pre=upto (fB zs) k) zs.length w:=λl J s W c _ _ z h=>by
 have d:=(c.cell (p:=⟨Bs,0,none⟩) (by show Bs<_;omega)).trans v;rcases j.below (c.mono a) with⟨rfl,rfl⟩|⟨b,off,cap,rfl,hb,t⟩
 ·exact(aeK F n g i l Bs J W d h).mono λe W' ⟨o,q⟩=>⟨o,.inl ⟨_,rfl,q⟩⟩
 ·exact aku F n g i y l Bs pt b off cap zs u hb r J s z W d t h
def hit(s:ByteArray)(x:Nat×mZ):Bool:=decide (x.2.2.1=2)&&(x.2.2.2.1.toList==s.toList)
def tF(h:Nat->Bool):Nat->Int
 |0=> -1
 |n+1=>if h n=true then n else tF h n
def Uu{h:Nat->Bool}:∀n,(∀j,j<n->h j=false)->tF h n= -1
 |0,_=>rfl
 |n+1,k=>by simp[tF];rw[κ (by rw[k n (by omega)];simp)];exact Uu n λj hj=>k j (by omega)
def Uv{h}{m:Nat}:∀n,m<n->h m=true->(∀j,m<j->j<n->h j=false)->tF h n=m
 |0,hm,_,_=>by omega
 |n+1,hm,a,k=>by
  simp[tF];by_cases e:m=n
  ·subst e;rw[ν a]
  ·rw[κ (by rw[k n (by omega) (by omega)];simp)];exact Uv n (by omega) a λj b h2=>k j b (by omega)
def CR(s:ByteArray)(zs:List mZ)(j:Nat):Bool:=hit s (j,zs[j]?.getD zB)
def E8(pre:List (Nat×mZ)):Int:=match pre.getLast? with|some x=>x.1|none=>0
def U0(pre)(x):E8 (pre++[x])=x.1:=by simp[E8]
def abx(s:ByteArray)(pre:List (Nat×mZ)):Prop:=∃a x,pre=a++[x]/\(∀y∈a,hit s y=false)/\hit s x=true
def PW(s:ByteArray)(zs:List mZ)(k:Nat):hit s (fB zs k)=CR s zs (zs.length-1-k):=rfl
def afn{s:ByteArray}{zs:List mZ}(a:∀x∈upto (fB zs) zs.length,hit s x=false):tF (CR s zs) zs.length= -1:=by
 refine Uu _ λj hj=> ?_;have:=a (fB zs (zs.length-1-j)) (aDt.2 ⟨_,aDU.2 (by omega),rfl⟩);rw[PW] at this;have e:zs.length-1-(zs.length-1-j)=j:=by omega
 rwa [e] at this
def afo{s:ByteArray}{zs:List mZ}{k:Nat}(hk:k<=zs.length)(h:abx s (upto (fB zs) k)):tF (CR s zs) zs.length=E8 (upto (fB zs) k):=by
 obtain⟨init,x,a,hi,c⟩:=h
 cases k with
 |zero=>simp[upto] at a
 |succ k=>
  rw[Hj] at a;obtain⟨rfl,b⟩:=List.append_inj' a rfl;simp at b;subst b;rw[Hj,U0];rw[PW] at c;show _=((zs.length-1-k:Nat):Int);refine Uv _ (by omega) c λj h1 b=> ?_;have:=hi (fB zs (zs.length-1-j)) (aDt.2 ⟨_,aDU.2 (by omega),rfl⟩);rw[PW] at this;have e:zs.length-1-(zs.length-1-j)=j:=by omega
  rwa [e] at this
def ahp{β:Type}(B:Nat)(c:Array Value)(t:TypeId):Own (λ(_:β) W=>W.heap[B]? =some (.cells c t (0,0))):=λs X Y row a hg e=>
 (hg.block B (Δ.1 a).1 (λe'=>by obtain⟨o,b,d⟩:=e B e'.symm;rw[show X.heap[B]? =_ from a] at b;cases b;cases d)).trans a
set_option maxRecDepth 100000 in
set_option maxHeartbeats 4000000 in
def apR(F:Fence)(n)(h3:F.fn 135)(h4:F.fn 169)(h5:F.fn 213)(kS:F.round=none)(hn:6<=n)(u0 u1 u2 u3 u4 u5 u6 u7 u8 zA zC zD zE)(a:Option Addr)(len cap:Nat)(s:ByteArray)(zs:List mZ)(Cz:zs.length*40<=140737488351232)(w:World)(hI:A' w.heap.size w (.slice a len cap) zs):
  CallsIn F n prog 135 #[.agg #[u0,u1,u2,u3,u4,u5,u6,u7,u8,.slice a len cap,zA,zC,zD,zE],.string s] w λe W'=>e=.returned (.int .i64 (tF (CR s zs) zs.length))/\Below w.heap.size w W':=by
 have h1:1<=n:=by omega
 refine callsIn_of_wp_marks func135 rfl h3 ?_ kS;simp[ntmps135,aDw,Nat.reduceAdd,Nat.reduceSub,aEW,aEX,aFh,aE5]
 gi_wp2_with (gi_at_call 169;refine(apQ F (n-1) h4 kS _ _ _ _).mono ?_;rintro e w' ⟨rfl,rfl⟩)
 have bS:=(Boxed.new (w.alloc (.cells #[u0,u1,u2,u3,u4,u5,u6,u7,u8,.slice a len cap,zA,zC,zD,zE] 78)) 9 (.string s)).alloc (.cells #[.int .i64 0] 3);replace bS:=bS.alloc (.cells #[.slice a len cap] 72);have bR:=(Boxed.new ((w.alloc (.cells #[u0,u1,u2,u3,u4,u5,u6,u7,u8,.slice a len cap,zA,zC,zD,zE] 78)).alloc (.cells #[.string s] 9)) 3 (.int .i64 0)).alloc (.cells #[.slice a len cap] 72);have bN:=Boxed.new (((w.alloc (.cells #[u0,u1,u2,u3,u4,u5,u6,u7,u8,.slice a len cap,zA,zC,zD,zE] 78)).alloc (.cells #[.string s] 9)).alloc (.cells #[.int .i64 0] 3)) 72 (.slice a len cap);simp[World.size_alloc] at bS bR bN;have TJ:Below w.heap.size w ((((w.alloc (.cells #[u0,u1,u2,u3,u4,u5,u6,u7,u8,.slice a len cap,zA,zC,zD,zE] 78)).alloc (.cells #[.string s] 9)).alloc (.cells #[.int .i64 0] 3)).alloc (.cells #[.slice a len cap] 72)):=((((Below.refl _ w).alloc (μ _) _).alloc (by simp) _).alloc (by simp;omega) _).alloc (by simp;omega) _;have bZ:((((w.alloc (.cells #[u0,u1,u2,u3,u4,u5,u6,u7,u8,.slice a len cap,zA,zC,zD,zE] 78)).alloc (.cells #[.string s] 9)).alloc (.cells #[.int .i64 0] 3)).alloc (.cells #[.slice a len cap] 72)).heap.size=w.heap.size+4:=by simp
 obtain⟨W0,hW0⟩:∃W0,((((w.alloc (.cells #[u0,u1,u2,u3,u4,u5,u6,u7,u8,.slice a len cap,zA,zC,zD,zE] 78)).alloc (.cells #[.string s] 9)).alloc (.cells #[.int .i64 0] 3)).alloc (.cells #[.slice a len cap] 72))=W0:=⟨_,rfl⟩;rw[hW0] at bS bR bN TJ bZ⊢;generalize Value.agg #[u0,u1,u2,u3,u4,u5,u6,u7,u8,.slice a len cap,zA,zC,zD,zE]=U
 have hI0:A' (w.heap.size+4) W0 (.slice a len cap) zs:=by
  rcases hI.below TJ with h|⟨b,off,vm,e,hb,hc⟩
  ·exact .inl h
  ·exact .inr ⟨b,off,vm,e,by omega,hc⟩
 refine wpIn_rangeFunc_ownH kS h1 (gf:=213) (lb:=#[.pointer (some ⟨w.heap.size+1+1+1,0,none⟩)]) rfl h5 (enters_of func213 rfl rfl)
  (agh F (n-1) h5 kS (by omega) (w.heap.size+1+1+1) (w.heap.size+4) (.slice a len cap) zs Cz W0 (by omega) (by omega) bN.cell hI0) belowK_t (belowK_b (by omega)) (Below.refl _ _) (λ_=>rfl)
  (λpre W=>(((∀x∈pre,hit s x=false)/\Boxed W (w.heap.size+1) 9 (.string s))/\Boxed W (w.heap.size+1+1) 3 (.int .i64 0))/\(Below w.heap.size w W/\Below (w.heap.size+4) W0 W))
  (λc pre W=>((c=.ret/\abx s pre)/\Boxed W (w.heap.size+1+1) 3 (.int .i64 (E8 pre)))/\Below w.heap.size w W)
  (OwnFrom.and (OwnFrom.and (OwnFrom.and (ownFrom_pure _ _) (Own.from (boxed_own _ _ _) _)) (Own.from (boxed_own _ _ _) _)) (OwnFrom.and (ownFrom_below (μ _) (by omega)) (ownFrom_below (by omega) (by omega))))
  (λc=>OwnFrom.and (OwnFrom.and (ownFrom_pure _ _) (Own.from (boxed_own _ _ _) _)) (ownFrom_below (μ _) (by omega)))
  ⟨⟨⟨by simp,bS⟩,bR⟩,TJ,Below.refl _ _⟩
  (λx a' W=>∃Bx,w.heap.size+4<=Bx/\W.heap[Bx]? =some (.cells #[.int .i64 x.2.1,.int .i64 x.2.2.1,.string x.2.2.2.1,.int .i64 x.2.2.2.2] 102 (0,0))/\a'={tmps:=#[U,.string s,.pointer (some ⟨w.heap.size,0,none⟩),.pointer (some ⟨w.heap.size+1,0,none⟩),.pointer (some ⟨w.heap.size+1+1,0,none⟩),.int .i64 x.1,.pointer (some ⟨Bx,0,none⟩),
   .pointer (some ⟨w.heap.size,9,none⟩),.pointer (some ⟨w.heap.size,9,none⟩),.slice a len cap,.func (.func 213) #[] #[.pointer (some ⟨w.heap.size+1+1+1,0,none⟩)],.int .i64 x.1,C_ x.2,undef,undef,undef,undef,undef,undef,undef,undef,undef,undef],defers:=[]})
  (λx a' _ X Y row hs hg hr=>by obtain⟨Bx,e1,e2,e3⟩:=hs;exact⟨Bx,e1,ahp (β:=Unit) Bx _ _ () X Y row e2 hg (λr e=>(hr r e).2),e3⟩)
  ?assign ?body ?done ?stop
 case assign=>
  rintro l pre ⟨xi,x1,x2,x3,x4⟩ W K ⟨⟨⟨hp,DS⟩,se⟩,lS,zF⟩ hK;dsimp[C_] at hK⊢
  gi_wp2
  exact hK _ _ ((KeepsOthers.alloc _ _).from _) ((Below.refl _ W).alloc (by have:=zF.size;omega) _) ⟨⟨⟨hp,DS.alloc _⟩,se.alloc _⟩,lS.alloc lS.size _,zF.alloc (by have:=zF.size;omega) _⟩ ⟨W.heap.size,by have:=zF.size;omega,World.alloc_heap_new W _,rfl⟩
 case body=>
  rintro l pre ⟨xi,x1,x2,x3,x4⟩ a' W hl ⟨r,hr⟩ ⟨⟨⟨hp,DS⟩,se⟩,lS,zF⟩ ⟨Bx,hBx,r8,rfl⟩ aN;dsimp[C_] at r8⊢;have cS:=DS.cell;have cR:=se.cell;have fR:=se.frozen;have cX1:W.cell? ⟨Bx,1,none⟩=some (.int .i64 x2):=by simp[World.cell?,r8]
  have cX2:W.cell? ⟨Bx,2,none⟩=some (.string x3):=by simp[World.cell?,r8]
  gi_wp2
  ·rename_i h2 heq;exact⟨(KeepsOthers.setCell _ _ _).from _,⟨⟨rfl,pre,_,rfl,hp,by simp[hit,heq,h2]⟩,by rw[U0];exact se.set _⟩,lS.setCell (p:=⟨w.heap.size+1+1,0,none⟩) (by simp;omega) _⟩
  ·rename_i h2 heq
   exact⟨KeepsFrom.refl _ _,Below.refl _ _,⟨⟨λy hy=>(Ω.1 hy).elim (hp y) (λe=>by
    simp[Μ] at e;subst e;simp only[hit,aFl]
    exact .inr (by simpa using heq)),DS⟩,se⟩,lS,zF⟩
  ·rename_i h2
   exact⟨KeepsFrom.refl _ _,Below.refl _ _,⟨⟨λy hy=>(Ω.1 hy).elim (hp y) (λe=>by
    simp[Μ] at e;subst e;simp only[hit,aFl]
    exact .inl (by simpa using h2)),DS⟩,se⟩,lS,zF⟩
 case done=>
  rintro D ys W hD rfl ⟨⟨⟨hp,DS⟩,se⟩,lS,zF⟩ hK;have cR:=se.cell;have fR:=se.frozen
  gi_wp2
  have TK:=(KeepsOthers.setCell W ⟨w.heap.size+1+1,0,none⟩ (.int .i64 (-1))).same D _ hK rfl;refine⟨by simp,.inl ⟨_,_,rfl,run_takeDeferred TK,?_⟩⟩;have TL:=cell_kept (se.set (.int .i64 (-1))).cell (grownBy_putObj' _ D (.deferred none)) (λr e=>by cases e;exact⟨_,TK,rfl⟩);refine⟨.int .i64 (-1),?_,by rw[afn hp],(lS.setCell (p:=⟨w.heap.size+1+1,0,none⟩) (by simp;omega) _).trans (belowK_b (w:=w) (μ _) _ D _ _ (by omega) TK rfl rfl)⟩;simp[results,f135,go_sem,TL]
 case stop=>
  rintro D c pre W hD ⟨k,hk,rfl⟩ ⟨⟨⟨rfl,JB⟩,se⟩,lS⟩ hK
  gi_wp2
  refine⟨by simp,.inl ⟨_,_,rfl,run_takeDeferred hK,?_⟩⟩;have TL:=cell_kept se.cell (grownBy_putObj' _ D (.deferred none)) (λr e=>by cases e;exact⟨_,hK,rfl⟩);refine⟨.int .i64 (E8 (upto (fB zs) k)),?_,by rw[afo hk JB],lS.trans (belowK_b (w:=w) (μ _) W D _ _ (by omega) hK rfl rfl)⟩;simp[results,f135,go_sem,TL]
end Go.Proofs.YtmehamiifalmaaaGreatDoor
namespace Go.Proofs.YtmehamiifalmaaaGreatDoor
open Go Go.RowKit Go.Proofs Go.Ab Go.Proofs.Tryz
def Wp:∀{es:List AV} {bs:List Bi},xb es=some bs->es=bs.map a_
 |[],bs,h=>by simp[xb] at h;subst h;rfl
 |e::es,bs,h=>by
  unfold xb at h;split at h
  ·rename_i b;cases b
  ·rename_i a k l i r b;cases b;split at h
   ·rename_i c;obtain⟨f,d,g⟩:=c
    cases hb:xb es with
    |none=>rw[hb] at h;cases h
    |some l'=>rw[hb] at h;simp[an] at h;subst h;rw[(@Wp es) hb,aDm];simp[a_,aE3 f,aE3 d,aE3 g]
   ·cases h
  ·cases h
def uF(b:Bi):mZ:=((b.at_:Int),(b.k:Int),⟨b.w.toArray⟩,(b.item:Int))
def Uw(p):∀n,dQ ((List.range n).reverse.find? p)=tF p n
 |0=>rfl
 |n+1=>by
  rw[List.range_succ,List.reverse_append,List.reverse_singleton,aFk,aD1];unfold tF
  cases p n with
  |true=>rfl
  |false=>exact Uw p n
def apS(bs:List Bi)(w:List UInt8):dQ (nR bs w)=tF (CR ⟨w.toArray⟩ (bs.map uF)) (bs.map uF).length:=by
 unfold nR;rw[Uw,φ];congr 1;funext j;unfold CR hit
 cases hj:bs[j]? with
 |none=>simp only[aDC,hj,Option.map_none,aFO];rfl
 |some z=>
  simp only[aDC,hj,aEL,aDR,uF];rw[ByteArray.toList_mk,ByteArray.toList_mk]
  have:decide (z.k=2)=decide ((z.k:Int)=2):=by
   by_cases h:z.k=2
   ·rw[π h];exact(bJ _).symm
   ·rw[ξ h];exact(bP _).symm
  rw[this]
def akv:dN prog vd:=by
 intro f args H v H' d;unfold vd at d;split at d
 ·rename_i W;subst W;refine⟨⟨_,func135,af,af⟩,?_⟩;split at d
  ·rename_i a0 a1 a2 a3 a4 a5 a6 a7 a8 o es b0 b1 b2 b3 wd;split at d
   ·rename_i R;obtain⟨T,P⟩:=R
    cases hb:xb es with
    |none=>simp[hb,an] at d
    |some zs=>
     simp[hb,an] at d;obtain⟨rfl,rfl⟩:=d;have q:=Wp hb;have c:es.length=zs.length:=by rw[q];simp
     intro B W0 σ w us g C;simp only[aw] at C;obtain⟨u,r1,rfl,D,u',r2,rfl,y,rfl⟩:=C;simp only[ah] at D y;subst y;obtain⟨cs,rfl,r⟩:=D;simp only[aw] at r;obtain⟨J,q0,rfl,_,x1,q1,rfl,_,x2,q2,rfl,_,L,q3,rfl,_,K,q4,rfl,_,x5,q5,rfl,_,x6,q6,rfl,_,O,q7,rfl,_,x8,q8,rfl,_,x9,q9,rfl,E,Lk,uo,rfl,_,Z,Dj,rfl,_,U,SU,rfl,_,N,q13,rfl,_,rfl⟩:=r;simp only[ah] at E;obtain⟨a,cap,rfl,hle,V,l⟩:=E
     have Y:A' w.heap.size w (.slice a es.length cap) (zs.map uF):=by
      by_cases n:es=[]
      ·subst n;have X:o=.nil:=by cases o<;>simp[adB] at P<;>rfl
       subst X;obtain⟨rfl,_,rfl⟩:=V;have:zs=[]:=by cases zs with|nil=>rfl|cons z zs=>simp at c
       subst this;exact .inl ⟨rfl,rfl⟩
      ·rcases l with h|⟨b,off,s,rfl,l⟩
       ·exact absurd h n
       have wZ:0<zs.length:=by have:=aDV.2 n;omega
       have key:∀j,j<zs.length->w.cell? ⟨b,off+j*4,none⟩=some (.i ((zs.map uF)[j]?.getD zB).1)/\w.cell? ⟨b,off+j*4+1,none⟩=some (.i ((zs.map uF)[j]?.getD zB).2.1)/\
         w.cell? ⟨b,off+j*4+2,none⟩=some (.string ((zs.map uF)[j]?.getD zB).2.2.1)/\w.cell? ⟨b,off+j*4+3,none⟩=some (.i ((zs.map uF)[j]?.getD zB).2.2.2):=by
        intro j m;have A:zs[j]? =some zs[j]:=Φ m;have M:es[j]? =some (a_ zs[j]):=by rw[q];simp[A]
        obtain⟨u,I,Q,k⟩:=l.get j _ M;simp[a_,ah] at I;obtain⟨ds,rfl,t⟩:=I;simp only[aw] at t;obtain⟨y0,p0,rfl,p,y1,p1,rfl,F,y2,p2,rfl,x,y3,p3,rfl,G,rfl⟩:=t;simp only[ah] at p F x G;subst p F x G;have S:s=4:=by rw[<-Q];rfl
        subst S;have hm:(zs.map uF)[j]?.getD zB=uF zs[j]:=by simp[A]
        rw[hm];exact⟨g.cells _ _ _ (k 0 _ rfl),g.cells _ _ _ (k 1 _ rfl),g.cells _ _ _ (k 2 _ rfl),g.cells _ _ _ (k 3 _ rfl)⟩
       have hb:b<w.heap.size:=by
        have:=(key 0 wZ).1;rcases aEo b w.heap.size with h|h
        ·exact h
        ·simp[World.cell?,aEJ h] at this
       exact .inr ⟨b,off,cap,by simp[c],hb,λj m=>key j (by simpa using m)⟩
     refine(callsIn_wide.1 (apR Fence.wide 6 trivial trivial trivial rfl aa J x1 x2 L K x5 x6 O x8 Lk Z U N a es.length cap ⟨wd.toArray⟩ (zs.map uF) (by simpa[c] using T) w Y)).mono ?_;rintro e w' ⟨rfl,jk⟩;refine⟨_,rfl,σ,Ext.refl B σ,g.under jk,?_⟩;rw[apS];simp[ah]
   ·cases d
  ·cases d
 ·cases d
end Go.Proofs.YtmehamiifalmaaaGreatDoor
namespace Go.Proofs.YtmehamiifalmaaaGreatDoor
open Go Go.Ab Go.Proofs.Tryz
set_option maxRecDepth 1000000
set_option maxHeartbeats 8000000
def au1:prog.follows .mixedOrders=true:=af
def au2{E:Env}(a:E.P=prog)(h:∀f,E.G f=true->okF E f=true)(c:dN E.P E.ext):ia E where
 mixed:=by rw[a];exact au1
 pZ:=λf b=>WL (h f b)
 ext:=c
def nS{E:Env}(l:List FuncId)(a:E.P=prog)(d:∀f,E.G f=l.contains f)(h:l.all (okF E)=true)(c:dN E.P E.ext):ia E:=
 au2 a (λf b=>aDn.1 h f (Θ.1 ((d f).symm.trans b))) c
def Q2:List FuncId:=[7,21,22,46,49,81,117,82,51,52,23,19,20,43,44,45,60,47,78,50,83,84,56,86,33,64,53,85,118,57,87,126,114,162,203,63,98]
def apT:List FuncId:=[7,19,20,45,47,50,51,52,43,44,60,33,64,56,86,63,98]
noncomputable def Sg:Env:={P:=prog,G:=λf=>Q2.contains f,cl:=λf=>apT.contains f,eX:=λt=>[103,98,28,69].contains t,dyn:=λ_=>true,df:=λ_=>false,ext:=λ_ _ _=>none,any:=aBr}
def apU:Q2.all (okF Sg)=true:=af
def au3:ia Sg:=nS Q2 rfl (λ_=>rfl) apU (λf args H v H' h=>by cases h)
def Ay:Option AV->AV->Bool
 |some u,v=>ef u v
 |none,_=>false
def akw{o v}(h:Ay o v=true):o=some v:=by
 cases o with
 |none=>cases h
 |some u=>rw[zI _ _ h]
def oZ:List UInt8:=[100,101,102,32,109,97,105,110,40,41,32,123,32,108,101,116,32,97,32,61,32,49,59,32,125]
def GC:List AV:=oW (kl ed oZ [] []) []
def GD:AV:=.vec .ro [.agg [.str ed,.i 17,.i 4]]
def aBH:aI prog (eI Sg 60) 7 [.rptr [.vec .ro [.agg (GC.set 11 .any)]]]=some GD:=akw af
def ayS(b1 b2):∃b,cU (kl ed oZ b1 b2)=GC.set 11 (.vec (au b.length) (cw b)):=by
 unfold cU GC kl
 cases iW oZ with
 |error q=>exact⟨[],rfl⟩
 |ok q=>exact⟨b1,rfl⟩
def Z9{σ x}(h:∀u,ah σ x u->u.oneCell'=true):∀(cs:List AV) (k us),aw σ (cs.set k x) us->aw σ (cs.set k .any) us
 |[],_,_,g=>g
 |c::cs,0,us,⟨u,a,e,b,g2⟩=>⟨u,a,e,by simp only[ah];exact h u b,g2⟩
 |c::cs,k+1,us,⟨u,a,e,b,g2⟩=>⟨u,a,e,b,Z9 h cs k a g2⟩
open Classical in
noncomputable def GF:ck:=λf args H=>if f=7/\∃b:List (Nat×Nat),args=[.rptr [.vec .ro [.agg (GC.set 11 (.vec (au b.length) (cw b)))]]] then some (GD,H) else none
def cb7:kG prog 7:=⟨_,func7,af,af⟩
def au4:dN prog GF:=λf args H v H' h=>by
 unfold GF at h;split at h
 ·rename_i l;obtain⟨rfl,b,rfl⟩:=l;cases h;refine⟨cb7,λB W0 σ w us A d=> ?_⟩;have k:aw σ [.rptr [.vec .ro [.agg (GC.set 11 .any)]]] us:=by simp only[aw,ah,eV] at d⊢;obtain⟨u,z,rfl,⟨j,off,rfl,⟨s,r,a,cap,C,q,D,E⟩,t⟩,i⟩:=d;refine⟨_,z,rfl,⟨j,off,rfl,⟨s,r,a,cap,C,q,D,.inr ?_⟩,t⟩,i⟩;obtain⟨b2,c,m,rfl,g⟩:=E.resolve_left (by simp);simp only[bM,ah] at g⊢;obtain⟨⟨n,⟨p,o,y⟩,g2,g3⟩,x⟩:=g;exact⟨b2,c,m,rfl,⟨n,⟨p,o,Z9 (λu e=>by simp only[ah] at e;obtain⟨a,cap,rfl,_⟩:=e;rfl) _ _ _ y⟩,g2,g3⟩,x⟩
  exact(GN A (UF au3 60) k aBH).2
 ·cases h
def Q3:List FuncId:=[6]
def apV:List FuncId:=[6,7,17]
noncomputable def n_:Env:={P:=prog,G:=λf=>Q3.contains f,cl:=λf=>apV.contains f,eX:=λ_=>false,dyn:=λ_=>false,df:=λ_=>false,ext:=bQ (bf gF [17]) GF}
def aBJ:okF n_ 6=true:=af
def ayT:n_.P=prog:=(rfl)
attribute [go_sem] ayT
def au5{f}(h:f≠7)(args)(H):GF f args H=none:=κ λk=>h k.1
def apW{us:List Un}(h:mP [(ed,oZ)]=.ok us)(H):bt n_ 17 [.vec .full [.agg [.str ed,.str oZ]]] H=some (.tup [.rptr [.vec (au us.length) (vU us)],.i 0],H):=
 ji (fs:=[17]) rfl rfl (λa H=>rH (au5 aA) a H) rfl (by
  have:=aba 1 [(ed,oZ)] ai;rw[h] at this;rw[<-wh]
  exact this) rfl (by
  show((dD us).aq&&_)=true
  rw[tM];rfl) H
def apX(b1 b2):lP none (gu [] [kl ed oZ b1 b2])=0:=af
def au6:∃us,mP [(ed,oZ)]=.ok us/\∀H,bt n_ 7 [.rptr [.vec (au us.length) (vU us)]] H=some (GD,H):=by
 refine⟨[eo (ed,oZ)],?_,λH=> ?_⟩
 ·unfold mP pH;have h:lP none (gu [] ([(ed,oZ)].map eo))=0:=apX _ _;rw[κ ai,ν h];rfl
 ·obtain⟨b,hb⟩:=ayS (Classical.choose (Eg ed oZ)) (Classical.choose (aEv (Eg ed oZ)));have a:n_.ext 7 [dD [eo (ed,oZ)]] .empty=some (GD,.empty):=by show bQ (bf gF [17]) GF 7 _ _=_;rw[gT (ep (fs:=[17]) rfl)];refine ν ⟨rfl,b,?_⟩;rw[<-hb];rfl
  have:=xK (E:=n_) (f:=7) (args:=[dD [eo (ed,oZ)]]) rfl (by show((dD [eo (ed,oZ)]).aq&&_)=true;rw[tM];rfl) a rfl;show dX n_ (run n_) _ [dD [eo (ed,oZ)]] H=_;rw[sf rfl,this];rfl
def au7(a b c):cr prog 33 1 (.rptr [a,b,c])=some (.rptr [b,c]):=(B5 PE 1 _ rfl fo).trans (ν (show 1<=3 by decide))
def ayU(a b)(H):dS prog 22 1 [(0,.agg [.str a,.str b])] H=some (.vec .full [.agg [.str a,.str b]],H):=tL an9 (.agg [.str a,.str b]) rfl rfl aA H
def au8:aI prog (run n_) 6 []=some (.bool true):=by obtain⟨us,d,b⟩:=au6;have a:=apW d;simp[ed,oZ,GD] at a b;have e:dC prog 28 (.vec .ro [.agg [.str [109,97,105,110],.i 17,.i 4]]) (.i 0)=some (.rptr [.str [109,97,105,110],.i 17,.i 4]):=oC (l:=[(ed,17,4)]) (i:=0) aa1 aaZ fiA .ro rfl rfl;refine tc (c:=.seq _ (.seq _ (.seq _ (.seq _ _)))) rfl rfl func6 rfl aA (bW:=[]) rfl rfl ?_ rfl rfl;simp[go_sem,ab.empty,aZ,ayU,a,b,e,au7,results6]
def afp{E}(b:ia E){f}(h:E.G f=true):kG E.P f:=by obtain⟨fn,c,a,d,e,_⟩:=b.pZ f h;exact⟨fn,a,e,by rw[d];rfl⟩
def mI{E}(a:ia E){fs:List FuncId}(h:fs.all E.G=true):dN E.P (bf E fs):=
 atU a λf b=>afp a (aDn.1 h f (Θ.1 b))
def Ft(P):dN P (λ_ _ _=>none):=λf args H v H' h=>by cases h
structure CS:Prop where
 lex:dN prog JG
 item:dN prog vd
 sI:dN prog uZ
 sS:dN prog Cx
def au9(g:CS):ia ak:=nS Qf rfl (λ_=>rfl) al8 g.lex
def ava:ia cC:=nS QJ rfl (λ_=>rfl) (by simp[QJ,aDI,aEq,aA0,aA1,aA2,aA3,aA4,aA5]) (Ft _)
def avb:ia eh:=nS Ql rfl (λ_=>rfl) ana (Ft _)
def PX:ia fg:=nS Jq rfl (λ_=>rfl) aoA (Ft _)
def avc:ia lj:=nS Ju rfl (λ_=>rfl) (by simp[Ju,aDI,aEq,axW,axX,axY,axZ,ax0]) (Ft _)
def avd:ia gy:=nS QO rfl (λ_=>rfl) aoH (mI PX rfl)
def aby(g:CS):ia fh:=nS QT rfl (λ_=>rfl) (by simp[QT,aDI,aEq,axG,axH,axI,axJ,axK,axL,axM,axN,axO]) (mK g.item (mK g.sI (mK g.sS (mI PX rfl))))
def akx:dN prog AE:=λf args H v H' h=>by
 unfold AE at h;split at h
 ·exact G4 avb f args H v H' h
 ·cases h
def ave:ia bu:=nS Qm rfl (λ_=>rfl) anc akx
def avf(g:CS):ia jC:=nS [39,41] rfl (λ_=>rfl) okA (mK (mI (au9 g) rfl) (mK (mI ave rfl) (mI ava rfl)))
def abz(g:CS):ia gF:=nS QR rfl (λ_=>rfl) aoS (mK (mI (avf g) rfl) (mK (mI avd rfl) (mI PX rfl)))
def avg(g:CS):ia n_:=nS Q3 rfl (λ_=>rfl) (by simp[Q3,aDI,aEq,aBJ]) (mK (mI (abz g) rfl) au4)
end Go.Proofs.YtmehamiifalmaaaGreatDoor
