/- LintCalls: part 34 of its proof. -/
import Derived.Test.YtmehamiifalmaaaGreatDoorG32
import Derived.Deep.QuietTactic
import Derived.BigQuiet
import Derived.StillTailTactics
import Derived.Test.YtmehamiifalmaaaGreatDoorG25
import Derived.Test.YtmehamiifalmaaaGreatDoorG23
set_option linter.all false
namespace Go.Proofs.YtmehamiifalmaaaGreatDoor.S
open Go Go.Ab Go.RowKit Go.Lib Go.Sort Go.Proofs.Tryz
set_option maxRecDepth 20000
def cmpL(x y:List UInt8):Int:=if bl x y=true then-1 else if(!(bl x y||x==y))=true then 1 else 0
def px(x y:Int):Int:=if x<y then-1 else if x>y then 1 else 0
def v7(x y:Sp):Int:=if cmpL x.1 y.1≠0 then cmpL x.1 y.1 else px x.2 y.2
def T_(x y:Fi):Int:=if cmpL x.1 y.1≠0 then cmpL x.1 y.1 else if px x.2.1 y.2.1≠0 then px x.2.1 y.2.1 else px x.2.2 y.2.2
def ahF(s)(W):Calls prog 64 #[.string s] W λe w'=>e=.returned (.bool false)/\w'=W:=by go_enter func64,ntmps64;go_wp2;go_ret;simp
def ahG(s)(W):Calls prog 65 #[.i s] W λe w'=>e=.returned (.bool false)/\w'=W:=by go_enter func65,ntmps65;go_wp2;go_ret;simp
def aqt(x y:List UInt8)(W):(binOp .gtr 9 (.string ⟨x.toArray⟩) (.string ⟨y.toArray⟩)).run prog W=.ok (.bool (!(Op.bytesLess x y||x==y))) W:=by simp[binOp,Op.stringOp]
def U3(x y:List UInt8)(W):Calls prog 33 #[.string ⟨x.toArray⟩,.string ⟨y.toArray⟩] W λe w'=>e=.returned (.i (cmpL x y))/\w'=W:=by
 have hg:=aqt x y;unfold cmpL bl;generalize hq:(!(Op.bytesLess x y||x==y))=q at hg⊢;go_enter func33,ntmps33;go_wp2_with (go_at_call 64;refine(ahF _ _).mono ?_;rintro e w' ⟨rfl,rfl⟩);all_goals go_ret
 all_goals simp_all
def U4(x y)(W:World):Calls prog 34 #[.i x,.i y] W λe w'=>e=.returned (.i (px x y))/\w'=W:=by
 unfold px;go_enter func34,ntmps34;go_wp2_with (go_at_call 65;refine(ahG _ _).mono ?_;rintro e w' ⟨rfl,rfl⟩);all_goals go_ret
 all_goals simp_all
def abJ(a b)(k cap)(W:World)(h0:W.cell? ⟨k,0,none⟩=some (.i a))(h1:W.cell? ⟨k,1,none⟩=some (.i b)):
  Calls prog 32 #[.slice (some ⟨k,0,none⟩) 2 cap] W λe w'=>e=.returned (.i (if a≠0 then a else b))/\w'=W:=by
 by_cases c:a=0
 ·by_cases hb:b=0
  all_goals
   try subst c
   try subst hb
   go_enter func32,ntmps32;go_wp2;refine wp_loop_rounds 3 ?_;rw[aFu];go_wp2;rw[aFu];go_wp2;try(rw[aFu];go_wp2)
   go_ret;simp
 ·go_enter func32,ntmps32;go_wp2;refine wp_loop_rounds 3 ?_;rw[aFu];go_wp2;go_ret;simp
def vS(x:Sp):List Value:=[.string ⟨x.1.toArray⟩,.i x.2]
def agq(x y:Sp)(W:World):Calls prog 115 #[.agg (vS x).toArray,.agg (vS y).toArray] W λe w'=>e=.returned (.i (v7 x y))/\∃q d,w'=grow (W.drewN q) d:=by
 unfold vS;go_enter func115,ntmps115;go_upto_region 1 with fail;refine wp_region_still_tail 10 rfl af ?_;change wpStill _ _ (World.drew _) (λa'=>wpList _ _ _ _ a' (World.drew _)) _ _;obtain⟨b,a⟩:∃b,World.drew ((W.alloc (.cells #[.string ⟨x.1.toArray⟩,.i x.2] 33)).alloc (.cells #[.string ⟨y.1.toArray⟩,.i y.2] 33))=b:=⟨_,rfl⟩;rw[a];have oY:b.cell? ⟨W.heap.size,0,none⟩=some (.string ⟨x.1.toArray⟩):=by rw[<-a];simp
 have c21:b.cell? ⟨W.heap.size,1,none⟩=some (.i x.2):=by rw[<-a];simp
 have c30:b.cell? ⟨W.heap.size+1,0,none⟩=some (.string ⟨y.1.toArray⟩):=by rw[<-a];simp
 have c31:b.cell? ⟨W.heap.size+1,1,none⟩=some (.i y.2):=by rw[<-a];simp
 simp;repeat still_step
 still_call (U3 _ _ _)
 repeat still_step
 still_call (U4 _ _ _)
 refine wpStill_nil ?_;have c:∀k cap W,W.cell? ⟨k,0,none⟩=some (.i (cmpL x.1 y.1))->W.cell? ⟨k,1,none⟩=some (.i (px x.2 y.2))->Calls prog 32 #[.slice (some ⟨k,0,none⟩) 2 cap] W λe w'=>e=.returned (.i (v7 x y))/\w'=W:=λk cap W g f=>abJ _ _ k cap W g f;go_wp2_with (go_at_call 32;refine(c _ _ _ ai ai).mono ?_;rintro e w' ⟨rfl,rfl⟩);go_ret;refine⟨rfl,1,#[.cells #[.string ⟨x.1.toArray⟩,.i x.2] 33,.cells #[.string ⟨y.1.toArray⟩,.i y.2] 33,.cells #[.i (cmpL x.1 y.1),.i (px x.2 y.2)] 3],?_⟩;rw[<-a,alloc_eq_grow,alloc_eq_grow,alloc_eq_grow];show grow (grow (grow (W.drewN 1) _) _) _=_;rw[grow_grow,grow_grow];rfl
def Rc:List FuncId:=[114,162,203,57,87,126,30,62,89,63,98]
def aqu:List FuncId:=[63,98]
noncomputable def FR:Env:={P:=prog,G:=λf=>Rc.contains f,cl:=λf=>aqu.contains f,eX:=λ_=>false,dyn:=λ_=>false,df:=λ_=>false,ext:=λ_ _ _=>none}
def aqv:Rc.all (okF FR)=true:=af
def P1:ia FR:=nS Rc rfl (λ_=>rfl) aqv (Ft _)
def OW{g}{r}(h:yK g r=true):r=[.fn (.func g) [] []]:=by
 unfold yK at h;split at h
 ·rw[eq_of_beq h]
 ·cases h
def X5{g}(σ)(r)(us)(h:yK g r=true)(k:aw σ r us):us=[.func (.func g) #[] #[]]:=by rw[OW h] at k;simp only[aw,ah] at k;obtain⟨u,dW,rfl,⟨f1,f2,rfl,b,a⟩,rfl⟩:=k;subst b a;rfl
def P2{A:Type}:∀{l:List A},l.length<=1->l=[]\/∃x,l=[x]
 |[],_=>.inl rfl
 |[x],_=>.inr ⟨x,rfl⟩
 |x::y::l,h=>by simp at h
def akU(o)(es r:List AV)(H)(h:es.length<=1)(a:yK 115 r=true):run FR 114 (.vec o es::r) H=some (.tup [],H):=by
 rw[OW a];rcases P2 h with rfl|⟨x,rfl⟩
 ·exact nO.2 ⟨60,af⟩
 ·exact nO.2 ⟨60,af⟩
def aqw(o)(es r:List AV)(H)(h:es.length<=1)(a:yK 31 r=true):run FR 30 (.vec o es::r) H=some (.tup [],H):=by
 rw[OW a];rcases P2 h with rfl|⟨x,rfl⟩
 ·exact nO.2 ⟨60,af⟩
 ·exact nO.2 ⟨60,af⟩
def aqx(o)(es r:List AV)(H)(h:es.length<=1)(a:r.isEmpty=true):run FR 57 (.vec o es::r) H=some (.tup [],H):=by
 obtain rfl:=aFo.1 a;rcases P2 h with rfl|⟨x,rfl⟩
 ·exact nO.2 ⟨60,af⟩
 ·exact nO.2 ⟨60,af⟩
def vI(n:Int):List Value:=[.i n]
def encI:sb (λn:Int=>[AV.i n]) vI 1:=⟨λ_=>rfl,λx u h=>by simp[vI] at h;subst h;rfl,λσ x=>by simp[vI,aw,ah],λσ x us h=>by simpa[vI,aw,ah] using h⟩
def encS:sb qU vS 2:=⟨λ_=>rfl,λx u h=>by simp[vS] at h;rcases h with rfl|rfl<;>rfl,λσ x=>by simp[vS,qU,aw,ah],λσ x us h=>by
 simp[qU,aw,ah] at h;obtain⟨u1,r1,rfl,rfl,u2,r2,rfl,rfl,rfl⟩:=h
 rfl⟩
def VE:∀(l:List Int) (cs:List AV),wO cs=some l->cs=l.flatMap λn=>[.i n]
 |l,[],h=>by simp[wO] at h;subst h;rfl
 |l,a::r,h=>by
  unfold wO at h;split at h
  ·rename_i b;cases b
  ·rename_i n r' b;cases b
   cases hb:wO r with
   |none=>simp[hb,an] at h
   |some c=>simp[hb,an] at h;subst h;rw[VE c _ hb];rfl
  ·cases h
def M_:∀(l:List Sp) (cs:List AV),ub cs=some l->cs=l.flatMap qU
 |l,[],h=>by simp[ub] at h;subst h;rfl
 |l,[_],h=>by unfold ub at h;split at h<;>simp_all
 |l,a::b::r,h=>by
  unfold ub at h;split at h
  ·rename_i c;cases c
  ·rename_i w n r' c;cases c
   cases hb:ub r with
   |none=>simp[hb,an] at h
   |some d=>simp[hb,an] at h;subst h;rw[M_ d _ hb];rfl
  ·cases h
def put_eq(F:List Value)(c:Array Value)(h:F.length<=c.size):putCells id 0 F.toArray c=(F++c.toList.drop F.length).toArray:=by
 apply Array.ext_getElem?
 intro t;simp[putCells,Array.getElem?_mapIdx,aEu,List.getElem?_append,aDB,aDT,aDw,id_eq];by_cases a:t<F.length
 ·have:t<c.size:=aa;simp[a,this]
 ·have e:F.length+(t-F.length)=t:=aa;simp only[a,aDf,e,aDh];cases c[t]? <;>rfl
def Ws{w:World}{b}{c:Array Value}{et}(hb:w.heap[b]? =some (.cells c et (0,0))){F:List Value}(d:F.length<=c.size)(n)(os):
  Below w.heap.size (w.setRow b (F++c.toList.drop F.length).toArray) (grow (putRow id (Sort.ahead w n) b 0 F.toArray) os):=by
 refine⟨rfl,rfl,rfl,?_,?_⟩
 ·simp[grow,putRow,mapBlock,World.setRow,Sort.ahead]
 ·intro k a;have f:k<(w.heap.modify b (onCells (putCells id 0 F.toArray))).size:=by simpa using a
  show((w.heap.modify b (onCells (putCells id 0 F.toArray)))++os)[k]? =(w.setRow b _).heap[k]?
  simp[World.setRow];rw[aDQ f,aEO,aEO];by_cases e:b=k
  ·subst e;simp[hb,onCells];rw[put_eq _ _ d]
  ·simp[e]
def aag{T:Type}[Inhabited T]{fS:T->List Value}{s}(d:0<s)(a:∀x,(fS x).length=s):∀(l:List T) (t:Nat),t<l.length*s->(l.flatMap fS)[t]? =some ((fS l[t/s]!)[t%s]!)
 |[],t,h=>by simp at h
 |x::l,t,h=>by
  by_cases b:t<s
  ·have c:t<(fS x).length:=by rw[a];exact b
   rw[ap1,Ξ c,Nat.div_eq_of_lt b,Nat.mod_eq_of_lt b];simp[c]
  ·obtain⟨u,rfl⟩:∃u,t=u+s:=⟨t-s,aa⟩;have ih:=aag d a l u (by rw[Ι,aDJ,aFE] at h;omega);rw[ap1,Ρ (by rw[a];omega),a,aFC,ih,Nat.add_div_right _ d,Nat.add_mod_right];rfl
def X6{T:Type}[Inhabited T]{fS:T->List Value}{s}(e:0<s)(a:∀x,(fS x).length=s)(l:List T):flatK fS s l.toArray=(l.flatMap fS).toArray:=by
 refine ext_get! (by rw[size_flatK,aDw,aDw,wm a]) λt d=> ?_;have b:t<l.length*s:=by simpa using d
 rw[get_flatK _ _ _ _ (by simpa using b)];have c:(l.flatMap fS).toArray[t]! =(fS l[t/s]!)[t%s]! :=by rw[getElem!_def];simp[aag e a l t b]
 rw[c];simp
def Wt{w:World}{b}{c:Array Value}{et}(hb:w.heap[b]? =some (.cells c et (0,0))){F:List Value}(g:c.toList.take F.length=F)(hs:F.length<=c.size):Holds id w b 0 F.toArray:=by
 intro j f;have d:j<F.length:=by simpa using f
 have a:c[j]? =some F[j]:=by rw[<-Array.getElem?_toList,<-List.getElem?_take_of_lt d,g];exact Φ d
 have e:F.toArray[j]! =F[j]:=by rw[getElem!_pos _ j (by simpa using d)];simp
 rw[e,aDz];refine⟨?_,?_⟩
 ·simp[World.cell?,hb,a]
 ·simp[World.frozen?,hb]
def ad0{T:Type}[Inhabited T]{fS:T->List Value}{s}(h:0<s)(f:∀x,(fS x).length=s){gJ:List T->List T}(m:∀l,(gJ l).length=l.length){f0 g}
  (k:∀(b cap:Nat) (d:Array T) (w:World),HoldsK fS s w b 0 d->b<w.heap.size->d.size<4611686018427387904->
   Calls prog f0 #[.slice (some ⟨b,0,none⟩) d.size cap,.func (.func g) #[] #[]] w λe w'=>e=.returned (.tuple #[])/\∃n os,w'=sortWorldK fS s w b 0 n (gJ d.toList).toArray os)
  (b cap) (l:List T) (c:Array Value) (et) (w:World) (hb:w.heap[b]? =some (.cells c et (0,0))) (o:c.toList.take (l.length*s)=l.flatMap fS) (p:l.length*s<=c.size) (hm:l.length<=1099511627776):
  Calls prog f0 (Value.slice (some ⟨b,0,none⟩) l.length cap::[.func (.func g) #[] #[]]).toArray w λe w'=>e=.returned (.tuple #[])/\Below w.heap.size (w.setRow b ((gJ l).flatMap fS++c.toList.drop (l.length*s)).toArray) w':=by
 have a:b<w.heap.size:=(Δ.1 hb).1;have j:=wm f l;have i:=wm f (gJ l);rw[m] at i;have hH:HoldsK fS s w b 0 l.toArray:=by show Holds id w b 0 (flatK fS s l.toArray);rw[X6 h f];exact Wt hb (by rw[j];exact o) (by rw[j];exact p)
 refine(k b cap l.toArray w hH a (by simp[aDw];omega)).mono ?_;rintro e w' ⟨rfl,n,os,rfl⟩;refine⟨rfl,?_⟩;unfold sortWorldK putRowK;rw[show l.toArray.toList=l from rfl,X6 h f,<-i];exact Ws hb aa n os
def akV(x y):cmpL x y<0↔bl x y=true:=by
 unfold cmpL;cases h:bl x y
 ·by_cases e:x=y<;>simp[e]
 ·simp
def M'(x y):cmpL x y=0↔x=y:=by
 unfold cmpL;cases h:bl x y
 ·by_cases e:x=y<;>simp[e]
 ·have:¬x=y:=λe=>by rw[e,uN] at h;cases h
  simp[this]
def avI(x y):decide (T_ x y<0)=oX x y:=by
 refine aD0.2 ?_;rw[aDs,EJ,T_];by_cases a:cmpL x.1 y.1=0
 ·have b:=(M' _ _).1 a;have d:cmpL y.1 y.1=0:=(M' _ _).2 rfl;simp[d,b,uN];unfold px;by_cases a1:x.2.1<y.2.1
  ·simp[a1]
  ·by_cases a2:x.2.1>y.2.1
   ·have:¬x.2.1=y.2.1:=aa;simp[a1,a2,this]
   ·have c:x.2.1=y.2.1:=aa;simp[c,gt_iff_lt,Int.lt_irrefl];by_cases b1:x.2.2<y.2.2
    ·simp[b1]
    ·by_cases b2:x.2.2>y.2.2<;>simp[b1,b2]
 ·have b:¬x.1=y.1:=λe=>a ((M' _ _).2 e);simp[a,akV,b]
def zH(x:Sp):Fi:=(x.1,x.2,0)
def aqy{x y:Sp}(h:zH x=zH y):x=y:=by obtain⟨a,b⟩:=x;obtain⟨c,d⟩:=y;simp[zH] at h;rw[h.1,h.2]
def EN(x y:Sp):kE x y=oX (zH x) (zH y):=by simp[kE,oX,zH,R8,Int.lt_irrefl];rfl
def avJ(x y:Sp):decide (v7 x y<0)=kE x y:=by
 have a:px 0 0=0:=rfl;have:v7 x y=T_ (zH x) (zH y):=by show _=if cmpL x.1 y.1≠0 then cmpL x.1 y.1 else if px x.2 y.2≠0 then px x.2 y.2 else px 0 0;unfold v7;rw[a];by_cases h:px x.2 y.2=0<;>simp[h]
 rw[this,avI,EN]
def B3:ltOf v7=kE:=funext λx=>funext λy=>avJ x y
def ad1:SWO kE:=⟨λx=>by rw[EN];exact agd _,λx y z h k=>by rw[EN] at*;exact Wn h k,λx y z h k=>by rw[EN] at*;exact auC h k⟩
def ad2(x y:Sp)(h:kE x y=false)(k:kE y x=false):x=y:=by rw[EN] at h k;exact aqy (ZQ h k)
def cb(f)(fn:Func)(h:prog.funcs[f]? =some fn)(a:(fn.name== "runtime.NumGoroutine")=false)(b:fn.body.isNone=false):kG prog f:=⟨fn,h,a,b⟩
def HH(l:List Sp):(rU l).length=l.length:=List.length_mergeSort _
def X7(l:List Int):(vA l).length=l.length:=List.length_mergeSort _
def akW:dN prog Cx:=
 OI P1 (rv:=[.func (.func 115) #[] #[]]) encS (cb 114 _ func114 rfl rfl) HH akU M_ X5
  (ad0 aA encS.A7 HH λb cap d w hH a c=>by
   have h:=AnyQ.slices_SortFunc_total Tryz.azu 2 isAgg33 sizeOf33 vS encS.A7 encS.one v7 (by rw[B3];exact ad1) 115 #[] b 0 cap d w (enters_of func115 rfl rfl) (λm os dk hs x y=>agq x y _) hH a c (by rw[B3];exact ad2);rw[B3] at h
   exact h)
def X8(l:List Int):l.flatMap vI=l.map (Value.int .i64):=by
 induction l with
 |nil=>rfl
 |cons x l ih=>rw[ap1,ih];rfl
def aqz(c)(l:List Int):putCells (Value.int .i64) 0 l.toArray c=putCells id 0 (l.flatMap vI).toArray c:=by
 rw[X8];unfold putCells;congr 1;funext k x;by_cases h:k<l.length
 ·simp[h]
 ·simp[h]
def akX:dN prog uZ:=
 OI P1 (rv:=[]) encI (cb 57 _ func57 rfl rfl) X7 aqx VE (λσ r us h k=>by
   obtain rfl:=aFo.1 h
   simpa[aw] using k)
  (λb cap l c et w hb i m hm=>by
   have f:=wm encI.A7 l;have d:=wm encI.A7 (vA l);rw[X7] at d
   have hH:Holds (Value.int .i64) w b 0 l.toArray:=by
    have:=Wt hb (by rw[f];exact i) (by rw[f];exact m);rw[X8] at this;intro j g;have a:j<l.length:=by simpa using g
    have:=this j (by simpa using a);simpa[a] using this
   refine(AnyM.slices_Sort_int Tryz.azv b 0 cap l w hH (Δ.1 hb).1 aa).mono ?_;rintro e w' ⟨rfl,n,os,rfl⟩;refine⟨rfl,?_⟩;unfold putRow;rw[show(l.mergeSort λx y=>decide (x<=y))=vA l from rfl,<-d,funext λc=>aqz c (vA l)]
   exact Ws hb aa n os)
def ahH(x y:Sp)(W:World):Calls prog 31 #[.agg (vS x).toArray,.agg (vS y).toArray] W λe w'=>e=.returned (.i (v7 x y))/\∃q d,w'=grow (W.drewN q) d:=by
 unfold vS;go_enter func31,ntmps31;go_upto_region 1 with fail;refine wp_region_still_tail 10 rfl af ?_;change wpStill _ _ (World.drew _) (λa'=>wpList _ _ _ _ a' (World.drew _)) _ _;obtain⟨b,a⟩:∃b,World.drew ((W.alloc (.cells #[.string ⟨x.1.toArray⟩,.i x.2] 44)).alloc (.cells #[.string ⟨y.1.toArray⟩,.i y.2] 44))=b:=⟨_,rfl⟩;rw[a];have oY:b.cell? ⟨W.heap.size,0,none⟩=some (.string ⟨x.1.toArray⟩):=by rw[<-a];simp
 have c21:b.cell? ⟨W.heap.size,1,none⟩=some (.i x.2):=by rw[<-a];simp
 have c30:b.cell? ⟨W.heap.size+1,0,none⟩=some (.string ⟨y.1.toArray⟩):=by rw[<-a];simp
 have c31:b.cell? ⟨W.heap.size+1,1,none⟩=some (.i y.2):=by rw[<-a];simp
 simp;repeat still_step
 still_call (U3 _ _ _)
 repeat still_step
 still_call (U4 _ _ _)
 refine wpStill_nil ?_;have c:∀k cap W,W.cell? ⟨k,0,none⟩=some (.i (cmpL x.1 y.1))->W.cell? ⟨k,1,none⟩=some (.i (px x.2 y.2))->Calls prog 32 #[.slice (some ⟨k,0,none⟩) 2 cap] W λe w'=>e=.returned (.i (v7 x y))/\w'=W:=λk cap W g f=>abJ _ _ k cap W g f;go_wp2_with (go_at_call 32;refine(c _ _ _ ai ai).mono ?_;rintro e w' ⟨rfl,rfl⟩);go_ret;refine⟨rfl,1,#[.cells #[.string ⟨x.1.toArray⟩,.i x.2] 44,.cells #[.string ⟨y.1.toArray⟩,.i y.2] 44,.cells #[.i (cmpL x.1 y.1),.i (px x.2 y.2)] 3],?_⟩;rw[<-a,alloc_eq_grow,alloc_eq_grow,alloc_eq_grow];show grow (grow (grow (W.drewN 1) _) _) _=_;rw[grow_grow,grow_grow];rfl
def akY:dN prog Au:=
 OI P1 (rv:=[.func (.func 31) #[] #[]]) encS (cb 30 _ func30 rfl rfl) HH aqw M_ X5
  (ad0 aA encS.A7 HH λb cap d w hH a c=>by
   have h:=AnyQ.slices_SortFunc_total Tryz.azw 2 isAgg44 sizeOf44 vS encS.A7 encS.one v7 (by rw[B3];exact ad1) 31 #[] b 0 cap d w (enters_of func31 rfl rfl) (λm os dk hs x y=>ahH x y _) hH a c (by rw[B3];exact ad2);rw[B3] at h
   exact h)
end Go.Proofs.YtmehamiifalmaaaGreatDoor.S
