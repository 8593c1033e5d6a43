/- LintFinds: part 25 of its proof. -/
import Derived.RangeFuncNested
import Derived.RangeFuncBound
import Derived.RangeFuncCalls
import Derived.RangeFuncLeaves
import Derived.Shelf.Abstract
import Derived.Shelf.RegionOpenPlain
import Derived.OwnWalkIn
import Derived.TacticsInMore
import Derived.LoopNIn
import Derived.LoopIn
import Derived.Test.YtmehamiifalmaaaGreatDoorG19
set_option linter.all false
namespace Go.Proofs.YtmehamiifalmaaaGreatDoor
open Go Go.RowKit Go.Shelf Go.Proofs Go.Proofs.Tryz
attribute [local go_sem] Oper.semAt_some
def upto{α:Type}(f:Nat->α)(k:Nat):List α:=(List.range k).map f
def Ia{α:Type}(f:Nat->α)(k:Nat):upto f (k+1)=upto f k++[f k]:=by simp[upto,List.range_succ]
def af3{α:Type}(f:Nat->α)(k:Nat):(upto f k).length=k:=by simp[upto]
abbrev mF:=Int×Int×ByteArray×Int
def zB:mF:=(0,0,.empty,0)
def DI(z:mF):Value:=.agg #[.int .i64 z.1,.int .i64 z.2.1,.string z.2.2.1,.int .i64 z.2.2.2]
def fB(zs:List mF)(k:Nat):Nat×mF:=(zs.length-1-k,zs[zs.length-1-k]?.getD zB)
set_option maxRecDepth 100000 in
set_option maxHeartbeats 2000000 in
def alb(F:Fence)(n)(h8:F.fn 213)(kK:F.round=none)(hn:1<=n)(l Bs pr b off cap:Nat)(zs:List mF)(C2:zs.length*40<=140737488351232)(hb:b<pr)(hBl:Bs<pr)(J Jx:List (Nat×mF)->World->Prop)
  (hY:∀pre x W,J pre W->pre.length<zs.length->YieldAt F (n-1) prog l #[.int .i64 x.1,DI x.2] W λe W'=>
   (e=.returned (.bool true)/\J (pre++[x]) W'/\Below pr W W')\/(e=.returned (.bool false)/\Jx (pre++[x]) W'))
  (W:World) (MH:W.cell? ⟨Bs,0,none⟩=some (.slice (some ⟨b,off,none⟩) zs.length cap))
  (hc:∀j,j<zs.length->W.cell? ⟨b,off+j*4,none⟩=some (.int .i64 (zs[j]?.getD zB).1)/\W.cell? ⟨b,off+j*4+1,none⟩=some (.int .i64 (zs[j]?.getD zB).2.1)/\W.cell? ⟨b,off+j*4+2,none⟩=some (.string (zs[j]?.getD zB).2.2.1)/\W.cell? ⟨b,off+j*4+3,none⟩=some (.int .i64 (zs[j]?.getD zB).2.2.2))
  (h0:J [] W):
  CallsIn F n prog 213 #[.func (.yield l) #[] #[],.pointer (some ⟨Bs,0,none⟩)] W λe W'=>(∃v,e=.returned v)/\
   ((∃ys,ys=upto (fB zs) zs.length/\J ys W')\/(∃pre,(∃k,k<=zs.length/\pre=upto (fB zs) k)/\Jx pre W')):=by
 refine callsIn_of_wp func213 rfl h8 ?_ kK;simp only[ntmps213,aEw,Γ,Χ,Nat.reduceAdd,Nat.reduceSub,aFX,aFY,aGk,aF5,Ο,aE9]
 gi_wp2
 gi_loopw [3] (λi wr=>∃m k:Nat,m+k=zs.length/\i=.int .i64 ((m:Int)-1)/\J (upto (fB zs) k) wr/\Below pr W wr)
  (λi _=>(intOf i+1).toNat)
 case atStart=>exact⟨zs.length,0,by omega,by simp;try omega,h0,Below.refl _ _⟩
 case round=>
  obtain⟨m,k,hk,rfl,MI,Em⟩:=hrel;have aEc:=(Em.cell (p:=⟨Bs,0,none⟩) hBl).trans MH
  cases m with
  |zero=>
   obtain rfl:k=zs.length:=by omega
   gi_wp2
   go_end0;exact⟨⟨_,rfl⟩,.inl ⟨_,rfl,MI⟩⟩
  |succ m=>
   have hm:m<zs.length:=by omega
   obtain⟨c0,c1,c2,c3⟩:=hc m hm;have d0:=(Em.cell (p:=⟨b,off+m*4,none⟩) hb).trans c0;have d1:=(Em.cell (p:=⟨b,off+m*4+1,none⟩) hb).trans c1;have d2:=(Em.cell (p:=⟨b,off+m*4+2,none⟩) hb).trans c2;have d3:=(Em.cell (p:=⟨b,off+m*4+3,none⟩) hb).trans c3;have hmi:((m+1:Nat):Int)-1=(m:Int):=by omega
   have T7:fB zs k=(m,zs[m]?.getD zB):=by
    have:zs.length-1-k=m:=by omega
    simp[fB,this]
   generalize hz:zs[m]?.getD zB=z at d0 d1 d2 d3 T7;obtain⟨z1,z2,z3,z4⟩:=z;dsimp only at d0 d1 d2 d3;obtain⟨fn,tmps,assign,body,hy,hR⟩:=hY _ (m,(z1,z2,z3,z4)) wr MI (by rw[af3];omega);dsimp[DI] at hy;rw[hmi]
   gi_wp2
   refine hR.mono ?_;rintro e W3 (⟨rfl,hJ3,gX⟩|⟨rfl,aCW⟩)
   ·gi_wp2
    go_roundw;case rel=>exact⟨m,k+1,by omega,by simp,by rw[Ia,T7];exact hJ3,Em.trans gX⟩
    case measure=>simp[intOf]
   ·gi_wp2
    refine bodyPost_ret (results_none rfl _ _ _) rfl ?_;exact⟨⟨_,rfl⟩,.inr ⟨_,⟨k+1,by omega,rfl⟩,by rw[Ia,T7];exact aCW⟩⟩
set_option maxRecDepth 100000 in
set_option maxHeartbeats 1000000 in
def afm(F:Fence)(n)(h7:F.fn 213)(kK:F.round=none)(l Bs)(J:List (Nat×mF)->World->Prop)(W:World)(MH:W.cell? ⟨Bs,0,none⟩=some (.slice none 0 0))(h0:J [] W):
  CallsIn F n prog 213 #[.func (.yield l) #[] #[],.pointer (some ⟨Bs,0,none⟩)] W λe W'=>(∃v,e=.returned v)/\J [] W':=by
 refine callsIn_of_wp func213 rfl h7 ?_ kK;simp[ntmps213,aEw,Nat.reduceAdd,Nat.reduceSub,aFX,aFY,aGk,aF5]
 gi_wp2
 gi_loopw [3] (λi wr=>i=.int .i64 (-1)/\J [] wr) (λ_ _=>0)
 case atStart=>exact⟨rfl,h0⟩
 case round=>
  obtain⟨rfl,MI⟩:=hrel
  gi_wp2
  go_end0;exact⟨⟨_,rfl⟩,MI⟩
set_option maxHeartbeats 1000000 in
def aqL(F:Fence)(n)(h5:F.fn 169)(kK:F.round=none)(a)(len cap)(w:World):
  CallsIn F n prog 169 #[.slice a len cap] w λe w'=>e=.returned (.func (.func 213) #[] #[.pointer (some ⟨w.heap.size,0,none⟩)])/\w'=w.alloc (.cells #[.slice a len cap] 72):=by
 refine callsIn_of_wp func169 rfl h5 ?_ kK;simp[ntmps169,aEw,Nat.reduceAdd,Nat.reduceSub,aFX,aFY,aGk,aF5]
 gi_wp2
 go_ret;exact⟨rfl,rfl⟩
def Bt(c:Nat)(W:World)(a:Value)(zs:List mF):Prop:=
 (a=.slice none 0 0/\zs=[])\/∃b off cap,a=.slice (some ⟨b,off,none⟩) zs.length cap/\b<c/\∀j,j<zs.length->W.cell? ⟨b,off+j*4,none⟩=some (.int .i64 (zs[j]?.getD zB).1)/\W.cell? ⟨b,off+j*4+1,none⟩=some (.int .i64 (zs[j]?.getD zB).2.1)/\W.cell? ⟨b,off+j*4+2,none⟩=some (.string (zs[j]?.getD zB).2.2.1)/\W.cell? ⟨b,off+j*4+3,none⟩=some (.int .i64 (zs[j]?.getD zB).2.2.2)
def Bt.below{a}{A B}(h:Below a A B){c:Value}{zs:List mF}:Bt a A c zs->Bt a B c zs
 | .inl e=>.inl e
 | .inr ⟨b,off,cap,e,hb,i⟩=>.inr ⟨b,off,cap,e,hb,λj d=>by
   obtain⟨g,k,c2,f⟩:=i j d
   exact⟨(h.cell (p:=⟨b,_,none⟩) hb).trans g,(h.cell (p:=⟨b,_,none⟩) hb).trans k,(h.cell (p:=⟨b,_,none⟩) hb).trans c2,(h.cell (p:=⟨b,_,none⟩) hb).trans f⟩⟩
def agR(F:Fence)(n)(h7:F.fn 213)(h:F.round=none)(v:1<=n)(Bs pr)(f:Value)(zs:List mF)(s:zs.length*40<=140737488351232)(w:World)(r:Bs<pr)(a:pr<=w.heap.size)
  (t:w.cell? ⟨Bs,0,none⟩=some f) (j:Bt pr w f zs):
  SeqStopsK F n prog 213 #[.pointer (some ⟨Bs,0,none⟩)] (λx:Nat×mF=>#[Value.int .i64 x.1,DI x.2]) (Below pr) (λm=>m=upto (fB zs) zs.length) (λpre=>∃k,k<=zs.length/\pre=upto (fB zs) k) zs.length w:=λl J u W c _ _ y g=>by
 have d:=(c.cell (p:=⟨Bs,0,none⟩) (by show Bs<_;omega)).trans t;rcases j.below (c.mono a) with⟨rfl,rfl⟩|⟨b,off,cap,rfl,hb,i⟩
 ·exact(afm F n h7 h l Bs J W d g).mono λe W' ⟨o,q⟩=>⟨o,.inl ⟨_,rfl,q⟩⟩
 ·exact alb F n h7 h v l Bs pr b off cap zs s hb r J u y W d i g
def hit(s:ByteArray)(x:Nat×mF):Bool:=decide (x.2.2.1=2)&&(x.2.2.2.1.toList==s.toList)
def uf(h:Nat->Bool):Nat->Int
 |0=> -1
 |n+1=>if h n=true then n else uf h n
def US{h:Nat->Bool}:∀n,(∀j,j<n->h j=false)->uf h n= -1
 |0,_=>rfl
 |n+1,k=>by simp[uf];rw[κ (by rw[k n (by omega)];simp)];exact US n λj hj=>k j (by omega)
def UT{h}{m:Nat}:∀n,m<n->h m=true->(∀j,m<j->j<n->h j=false)->uf h n=m
 |0,hm,_,_=>by omega
 |n+1,hm,a,k=>by
  simp[uf];by_cases e:m=n
  ·subst e;rw[μ a]
  ·rw[κ (by rw[k n (by omega) (by omega)];simp)];exact UT n (by omega) a λj b h2=>k j b (by omega)
def Dm(s:ByteArray)(zs:List mF)(j:Nat):Bool:=hit s (j,zs[j]?.getD zB)
def FC(pre:List (Nat×mF)):Int:=match pre.getLast? with|some x=>x.1|none=>0
def Vm(pre)(x):FC (pre++[x])=x.1:=by simp[FC]
def acm(s:ByteArray)(pre:List (Nat×mF)):Prop:=∃a x,pre=a++[x]/\(∀y∈a,hit s y=false)/\hit s x=true
def Qw(s:ByteArray)(zs:List mF)(k:Nat):hit s (fB zs k)=Dm s zs (zs.length-1-k):=rfl
def af4{s:ByteArray}{zs:List mF}(a:∀x∈upto (fB zs) zs.length,hit s x=false):uf (Dm s zs) zs.length= -1:=by
 refine US _ λj hj=> ?_;have:=a (fB zs (zs.length-1-j)) (aEI.2 ⟨_,aER.2 (by omega),rfl⟩);rw[Qw] at this;have e:zs.length-1-(zs.length-1-j)=j:=by omega
 rwa [e] at this
def af5{s:ByteArray}{zs:List mF}{k:Nat}(hk:k<=zs.length)(h:acm s (upto (fB zs) k)):uf (Dm s zs) zs.length=FC (upto (fB zs) k):=by
 obtain⟨init,x,a,hi,c⟩:=h
 cases k with
 |zero=>simp[upto] at a
 |succ k=>
  rw[Ia] at a;obtain⟨rfl,b⟩:=List.append_inj' a rfl;simp at b;subst b;rw[Ia,Vm];rw[Qw] at c;show _=((zs.length-1-k:Nat):Int);refine UT _ (by omega) c λj h1 b=> ?_;have:=hi (fB zs (zs.length-1-j)) (aEI.2 ⟨_,aER.2 (by omega),rfl⟩);rw[Qw] at this;have e:zs.length-1-(zs.length-1-j)=j:=by omega
  rwa [e] at this
def ah0{β:Type}(B:Nat)(c:Array Value)(t:TypeId):Own (λ(_:β) W=>W.heap[B]? =some (.cells c t (0,0))):=λs X Y row a hg e=>
 (hg.block B (Α.1 a).1 (λe'=>by obtain⟨o,b,d⟩:=e B e'.symm;rw[show X.heap[B]? =_ from a] at b;cases b;cases d)).trans a
set_option maxRecDepth 100000 in
set_option maxHeartbeats 4000000 in
def aqM(F:Fence)(n)(h3:F.fn 135)(h4:F.fn 169)(h5:F.fn 213)(kK:F.round=none)(hn:6<=n)(u0 u1 u2 u3 u4 u5 u6 u7 u8 Ae Af Ag Ah)(a:Option Addr)(len cap:Nat)(s:ByteArray)(zs:List mF)(C2:zs.length*40<=140737488351232)(w:World)(hI:Bt w.heap.size w (.slice a len cap) zs):
  CallsIn F n prog 135 #[.agg #[u0,u1,u2,u3,u4,u5,u6,u7,u8,.slice a len cap,Ae,Af,Ag,Ah],.string s] w λe W'=>e=.returned (.int .i64 (uf (Dm s zs) zs.length))/\Below w.heap.size w W':=by
 have h1:1<=n:=by omega
 refine callsIn_of_wp_marks func135 rfl h3 ?_ kK;simp[ntmps135,aEw,Nat.reduceAdd,Nat.reduceSub,aFX,aFY,aGk,aF5]
 gi_wp2_with (gi_at_call 169;refine(aqL F (n-1) h4 kK _ _ _ _).mono ?_;rintro e w' ⟨rfl,rfl⟩)
 have bS:=(Boxed.new (w.alloc (.cells #[u0,u1,u2,u3,u4,u5,u6,u7,u8,.slice a len cap,Ae,Af,Ag,Ah] 78)) 9 (.string s)).alloc (.cells #[.int .i64 0] 3);replace bS:=bS.alloc (.cells #[.slice a len cap] 72);have bR:=(Boxed.new ((w.alloc (.cells #[u0,u1,u2,u3,u4,u5,u6,u7,u8,.slice a len cap,Ae,Af,Ag,Ah] 78)).alloc (.cells #[.string s] 9)) 3 (.int .i64 0)).alloc (.cells #[.slice a len cap] 72);have bN:=Boxed.new (((w.alloc (.cells #[u0,u1,u2,u3,u4,u5,u6,u7,u8,.slice a len cap,Ae,Af,Ag,Ah] 78)).alloc (.cells #[.string s] 9)).alloc (.cells #[.int .i64 0] 3)) 72 (.slice a len cap);simp[World.size_alloc] at bS bR bN;have T8:Below w.heap.size w ((((w.alloc (.cells #[u0,u1,u2,u3,u4,u5,u6,u7,u8,.slice a len cap,Ae,Af,Ag,Ah] 78)).alloc (.cells #[.string s] 9)).alloc (.cells #[.int .i64 0] 3)).alloc (.cells #[.slice a len cap] 72)):=((((Below.refl _ w).alloc (ν _) _).alloc (by simp) _).alloc (by simp;omega) _).alloc (by simp;omega) _;have cz:((((w.alloc (.cells #[u0,u1,u2,u3,u4,u5,u6,u7,u8,.slice a len cap,Ae,Af,Ag,Ah] 78)).alloc (.cells #[.string s] 9)).alloc (.cells #[.int .i64 0] 3)).alloc (.cells #[.slice a len cap] 72)).heap.size=w.heap.size+4:=by simp
 obtain⟨W0,hW0⟩:∃W0,((((w.alloc (.cells #[u0,u1,u2,u3,u4,u5,u6,u7,u8,.slice a len cap,Ae,Af,Ag,Ah] 78)).alloc (.cells #[.string s] 9)).alloc (.cells #[.int .i64 0] 3)).alloc (.cells #[.slice a len cap] 72))=W0:=⟨_,rfl⟩;rw[hW0] at bS bR bN T8 cz⊢;generalize Value.agg #[u0,u1,u2,u3,u4,u5,u6,u7,u8,.slice a len cap,Ae,Af,Ag,Ah]=U
 have hI0:Bt (w.heap.size+4) W0 (.slice a len cap) zs:=by
  rcases hI.below T8 with h|⟨b,off,zj,e,hb,hc⟩
  ·exact .inl h
  ·exact .inr ⟨b,off,zj,e,by omega,hc⟩
 refine wpIn_rangeFunc_ownH kK h1 (gf:=213) (lb:=#[.pointer (some ⟨w.heap.size+1+1+1,0,none⟩)]) rfl h5 (enters_of func213 rfl rfl)
  (agR F (n-1) h5 kK (by omega) (w.heap.size+1+1+1) (w.heap.size+4) (.slice a len cap) zs C2 W0 (by omega) (by omega) bN.cell hI0) belowK_t (belowK_b (by omega)) (Below.refl _ _) (λ_=>rfl)
  (λpre W=>(((∀x∈pre,hit s x=false)/\Boxed W (w.heap.size+1) 9 (.string s))/\Boxed W (w.heap.size+1+1) 3 (.int .i64 0))/\(Below w.heap.size w W/\Below (w.heap.size+4) W0 W))
  (λc pre W=>((c=.ret/\acm s pre)/\Boxed W (w.heap.size+1+1) 3 (.int .i64 (FC pre)))/\Below w.heap.size w W)
  (OwnFrom.and (OwnFrom.and (OwnFrom.and (ownFrom_pure _ _) (Own.from (boxed_own _ _ _) _)) (Own.from (boxed_own _ _ _) _)) (OwnFrom.and (ownFrom_below (ν _) (by omega)) (ownFrom_below (by omega) (by omega))))
  (λc=>OwnFrom.and (OwnFrom.and (ownFrom_pure _ _) (Own.from (boxed_own _ _ _) _)) (ownFrom_below (ν _) (by omega)))
  ⟨⟨⟨by simp,bS⟩,bR⟩,T8,Below.refl _ _⟩
  (λx a' W=>∃Bx,w.heap.size+4<=Bx/\W.heap[Bx]? =some (.cells #[.int .i64 x.2.1,.int .i64 x.2.2.1,.string x.2.2.2.1,.int .i64 x.2.2.2.2] 102 (0,0))/\a'={tmps:=#[U,.string s,.pointer (some ⟨w.heap.size,0,none⟩),.pointer (some ⟨w.heap.size+1,0,none⟩),.pointer (some ⟨w.heap.size+1+1,0,none⟩),.int .i64 x.1,.pointer (some ⟨Bx,0,none⟩),
   .pointer (some ⟨w.heap.size,9,none⟩),.pointer (some ⟨w.heap.size,9,none⟩),.slice a len cap,.func (.func 213) #[] #[.pointer (some ⟨w.heap.size+1+1+1,0,none⟩)],.int .i64 x.1,DI x.2,undef,undef,undef,undef,undef,undef,undef,undef,undef,undef],defers:=[]})
  (λx a' _ X Y row hs hg hr=>by obtain⟨Bx,e1,e2,e3⟩:=hs;exact⟨Bx,e1,ah0 (β:=Unit) Bx _ _ () X Y row e2 hg (λr e=>(hr r e).2),e3⟩)
  ?assign ?body ?done ?stop
 case assign=>
  rintro l pre ⟨xi,x1,x2,x3,x4⟩ W K ⟨⟨⟨hp,En⟩,sJ⟩,k9,Ai⟩ hK;dsimp[DI] at hK⊢
  gi_wp2
  exact hK _ _ ((KeepsOthers.alloc _ _).from _) ((Below.refl _ W).alloc (by have:=Ai.size;omega) _) ⟨⟨⟨hp,En.alloc _⟩,sJ.alloc _⟩,k9.alloc k9.size _,Ai.alloc (by have:=Ai.size;omega) _⟩ ⟨W.heap.size,by have:=Ai.size;omega,World.alloc_heap_new W _,rfl⟩
 case body=>
  rintro l pre ⟨xi,x1,x2,x3,x4⟩ a' W hl ⟨r,hr⟩ ⟨⟨⟨hp,En⟩,sJ⟩,k9,Ai⟩ ⟨Bx,hBx,BD,rfl⟩ aO;dsimp[DI] at BD⊢;have cS:=En.cell;have cR:=sJ.cell;have fR:=sJ.frozen;have cX1:W.cell? ⟨Bx,1,none⟩=some (.int .i64 x2):=by simp[World.cell?,BD]
  have cX2:W.cell? ⟨Bx,2,none⟩=some (.string x3):=by simp[World.cell?,BD]
  gi_wp2
  ·rename_i h2 heq;exact⟨(KeepsOthers.setCell _ _ _).from _,⟨⟨rfl,pre,_,rfl,hp,by simp[hit,heq,h2]⟩,by rw[Vm];exact sJ.set _⟩,k9.setCell (p:=⟨w.heap.size+1+1,0,none⟩) (by simp;omega) _⟩
  ·rename_i h2 heq
   exact⟨KeepsFrom.refl _ _,Below.refl _ _,⟨⟨λy hy=>(aEo.1 hy).elim (hp y) (λe=>by
    simp[aE8] at e;subst e;simp only[hit,aGn]
    exact .inr (by simpa using heq)),En⟩,sJ⟩,k9,Ai⟩
  ·rename_i h2
   exact⟨KeepsFrom.refl _ _,Below.refl _ _,⟨⟨λy hy=>(aEo.1 hy).elim (hp y) (λe=>by
    simp[aE8] at e;subst e;simp only[hit,aGn]
    exact .inl (by simpa using h2)),En⟩,sJ⟩,k9,Ai⟩
 case done=>
  rintro D ys W hD rfl ⟨⟨⟨hp,En⟩,sJ⟩,k9,Ai⟩ hK;have cR:=sJ.cell;have fR:=sJ.frozen
  gi_wp2
  have T9:=(KeepsOthers.setCell W ⟨w.heap.size+1+1,0,none⟩ (.int .i64 (-1))).same D _ hK rfl;refine⟨by simp,.inl ⟨_,_,rfl,run_takeDeferred T9,?_⟩⟩;have T_:=cell_kept (sJ.set (.int .i64 (-1))).cell (grownBy_putObj' _ D (.deferred none)) (λr e=>by cases e;exact⟨_,T9,rfl⟩);refine⟨.int .i64 (-1),?_,by rw[af4 hp],(k9.setCell (p:=⟨w.heap.size+1+1,0,none⟩) (by simp;omega) _).trans (belowK_b (w:=w) (ν _) _ D _ _ (by omega) T9 rfl rfl)⟩;simp[results,f135,go_sem,T_]
 case stop=>
  rintro D c pre W hD ⟨k,hk,rfl⟩ ⟨⟨⟨rfl,SE⟩,sJ⟩,k9⟩ hK
  gi_wp2
  refine⟨by simp,.inl ⟨_,_,rfl,run_takeDeferred hK,?_⟩⟩;have T_:=cell_kept sJ.cell (grownBy_putObj' _ D (.deferred none)) (λr e=>by cases e;exact⟨_,hK,rfl⟩);refine⟨.int .i64 (FC (upto (fB zs) k)),?_,by rw[af5 hk SE],k9.trans (belowK_b (w:=w) (ν _) W D _ _ (by omega) hK rfl rfl)⟩;simp[results,f135,go_sem,T_]
end Go.Proofs.YtmehamiifalmaaaGreatDoor
namespace Go.Proofs.YtmehamiifalmaaaGreatDoor
open Go Go.RowKit Go.Proofs Go.Ab Go.Proofs.Tryz
def WW:∀{es:List AV} {bs:List Bi},xx es=some bs->es=bs.map bg
 |[],bs,h=>by simp[xx] at h;subst h;rfl
 |e::es,bs,h=>by
  unfold xx at h;split at h
  ·rename_i b;cases b
  ·rename_i a k l i r b;cases b;split at h
   ·rename_i d;obtain⟨c,f,h3⟩:=d
    cases hb:xx es with
    |none=>rw[hb] at h;cases h
    |some l'=>rw[hb] at h;simp[an] at h;subst h;rw[(@WW es) hb,aEv];simp[bg,aF4 c,aF4 f,aF4 h3]
   ·cases h
  ·cases h
def ve(b:Bi):mF:=((b.at_:Int),(b.k:Int),⟨b.w.toArray⟩,(b.item:Int))
def UU(p):∀n,dS ((List.range n).reverse.find? p)=uf p n
 |0=>rfl
 |n+1=>by
  rw[List.range_succ,List.reverse_append,List.reverse_singleton,aFL,aE0];unfold uf
  cases p n with
  |true=>rfl
  |false=>exact UU p n
def aqN(bs:List Bi)(w:List UInt8):dS (ox bs w)=uf (Dm ⟨w.toArray⟩ (bs.map ve)) (bs.map ve).length:=by
 unfold ox;rw[UU,Θ];congr 1;funext j;unfold Dm hit
 cases hj:bs[j]? with
 |none=>simp only[aEt,hj,Option.map_none,aGR];rfl
 |some z=>
  simp only[aEt,hj,aFJ,aE1,ve];rw[ByteArray.toList_mk,ByteArray.toList_mk]
  have:decide (z.k=2)=decide ((z.k:Int)=2):=by
   by_cases h:z.k=2
   ·rw[π h];exact(bH _).symm
   ·rw[ξ h];exact(bU _).symm
  rw[this]
def alc:dK prog tq:=by
 intro f args H v H' d;unfold tq at d;split at d
 ·rename_i hf;subst hf;refine⟨⟨_,func135,af,af⟩,?_⟩;split at d
  ·rename_i a0 a1 a2 a3 a4 a5 a6 a7 a8 o es b0 b1 b2 b3 wd;split at d
   ·rename_i Q;obtain⟨M,V⟩:=Q
    cases hb:xx es with
    |none=>simp[hb,an] at d
    |some zs=>
     simp[hb,an] at d;obtain⟨rfl,rfl⟩:=d;have y:=WW hb;have c:es.length=zs.length:=by rw[y];simp
     intro B W0 σ w us g A;simp only[au] at A;obtain⟨u,r1,rfl,C,u',r2,rfl,x,rfl⟩:=A;simp only[aj] at C x;subst x;obtain⟨cs,rfl,D⟩:=C;simp only[au] at D;obtain⟨J,q0,rfl,_,x1,q1,rfl,_,X,q2,rfl,_,O,q3,rfl,_,L,q4,rfl,_,Y,q5,rfl,_,x6,q6,rfl,_,P,q7,rfl,_,Z,q8,rfl,_,x9,q9,rfl,E,og,uO,rfl,_,oT,DU,rfl,_,pF,Td,rfl,_,qu,q13,rfl,_,rfl⟩:=D;simp only[aj] at E;obtain⟨a,cap,rfl,hle,kV,l⟩:=E
     have W:Bt w.heap.size w (.slice a es.length cap) (zs.map ve):=by
      by_cases m:es=[]
      ·subst m;have U:o=.nil:=by cases o<;>simp[ad9] at V<;>rfl
       subst U;obtain⟨rfl,_,rfl⟩:=kV;have:zs=[]:=by cases zs with|nil=>rfl|cons z zs=>simp at c
       subst this;exact .inl ⟨rfl,rfl⟩
      ·rcases l with h|⟨b,off,s,rfl,l⟩
       ·exact absurd h m
       have K:0<zs.length:=by have:=aE3.2 m;omega
       have key:∀j,j<zs.length->w.cell? ⟨b,off+j*4,none⟩=some (.i ((zs.map ve)[j]?.getD zB).1)/\w.cell? ⟨b,off+j*4+1,none⟩=some (.i ((zs.map ve)[j]?.getD zB).2.1)/\
         w.cell? ⟨b,off+j*4+2,none⟩=some (.string ((zs.map ve)[j]?.getD zB).2.2.1)/\w.cell? ⟨b,off+j*4+3,none⟩=some (.i ((zs.map ve)[j]?.getD zB).2.2.2):=by
        intro j n;have q:zs[j]? =some zs[j]:=Ν n;have S:es[j]? =some (bg zs[j]):=by rw[y];simp[q]
        obtain⟨u,I,R,k⟩:=l.get j _ S;simp[bg,aj] at I;obtain⟨ds,rfl,r⟩:=I;simp only[au] at r;obtain⟨y0,p0,rfl,p,y1,p1,rfl,F,y2,p2,rfl,t,y3,p3,rfl,G,rfl⟩:=r;simp only[aj] at p F t G;subst p F t G;have T:s=4:=by rw[<-R];rfl
        subst T;have hm:(zs.map ve)[j]?.getD zB=ve zs[j]:=by simp[q]
        rw[hm];exact⟨g.cells _ _ _ (k 0 _ rfl),g.cells _ _ _ (k 1 _ rfl),g.cells _ _ _ (k 2 _ rfl),g.cells _ _ _ (k 3 _ rfl)⟩
       have hb:b<w.heap.size:=by
        have:=(key 0 K).1;rcases aFv b w.heap.size with h|h
        ·exact h
        ·simp[World.cell?,aFH h] at this
       exact .inr ⟨b,off,cap,by simp[c],hb,λj n=>key j (by simpa using n)⟩
     refine(callsIn_wide.1 (aqM Fence.wide 6 trivial trivial trivial rfl aa J x1 X O L Y x6 P Z og oT pF qu a es.length cap ⟨wd.toArray⟩ (zs.map ve) (by simpa[c] using M) w W)).mono ?_;rintro e w' ⟨rfl,N⟩;refine⟨_,rfl,σ,Ext.refl B σ,g.under N,?_⟩;rw[aqN];simp[aj]
   ·cases d
  ·cases d
 ·cases d
end Go.Proofs.YtmehamiifalmaaaGreatDoor
