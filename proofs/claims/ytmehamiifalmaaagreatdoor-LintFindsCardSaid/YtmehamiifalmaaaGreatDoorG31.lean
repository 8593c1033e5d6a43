/- LintFinds: part 32 of its proof. -/
import Derived.Test.YtmehamiifalmaaaGreatDoorG30
import Derived.Deep.QuietTactic
import Derived.BigQuiet
import Derived.StillTailTactics
import Derived.Test.YtmehamiifalmaaaGreatDoorG23
set_option linter.all false
namespace Go.Proofs.YtmehamiifalmaaaGreatDoor.S
open Go Go.Ab Go.RowKit Go.Lib Go.Sort Go.Proofs.Tryz
set_option maxRecDepth 20000
def cmpL(x y:List UInt8):Int:=if bl x y=true then-1 else if(!(bl x y||x==y))=true then 1 else 0
def nX(x y:Int):Int:=if x<y then-1 else if x>y then 1 else 0
def BV(x y:Sp):Int:=if cmpL x.1 y.1≠0 then cmpL x.1 y.1 else nX x.2 y.2
def BW(x y:Fi):Int:=if cmpL x.1 y.1≠0 then cmpL x.1 y.1 else if nX x.2.1 y.2.1≠0 then nX x.2.1 y.2.1 else nX x.2.2 y.2.2
def aih(s)(W):Calls prog 64 #[.string s] W λe w'=>e=.returned (.bool false)/\w'=W:=by go_enter func64,ntmps64;go_wp2;go_ret;simp
def aii(s)(W):Calls prog 65 #[.i s] W λe w'=>e=.returned (.bool false)/\w'=W:=by go_enter func65,ntmps65;go_wp2;go_ret;simp
def ara(x y:List UInt8)(W):(binOp .gtr 9 (.string ⟨x.toArray⟩) (.string ⟨y.toArray⟩)).run prog W=.ok (.bool (!(Op.bytesLess x y||x==y))) W:=by simp[binOp,Op.stringOp]
def Vp(x y:List UInt8)(W):Calls prog 33 #[.string ⟨x.toArray⟩,.string ⟨y.toArray⟩] W λe w'=>e=.returned (.i (cmpL x y))/\w'=W:=by
 have hg:=ara x y;unfold cmpL bl;generalize hq:(!(Op.bytesLess x y||x==y))=q at hg⊢;go_enter func33,ntmps33;go_wp2_with (go_at_call 64;refine(aih _ _).mono ?_;rintro e w' ⟨rfl,rfl⟩);all_goals go_ret
 all_goals simp_all
def Vq(x y)(W:World):Calls prog 34 #[.i x,.i y] W λe w'=>e=.returned (.i (nX x y))/\w'=W:=by
 unfold nX;go_enter func34,ntmps34;go_wp2_with (go_at_call 65;refine(aii _ _).mono ?_;rintro e w' ⟨rfl,rfl⟩);all_goals go_ret
 all_goals simp_all
def awu(a b)(k cap)(W:World)(h0:W.cell? ⟨k,0,none⟩=some (.i a))(h1:W.cell? ⟨k,1,none⟩=some (.i b)):
  Calls prog 32 #[.slice (some ⟨k,0,none⟩) 2 cap] W λe w'=>e=.returned (.i (if a≠0 then a else b))/\w'=W:=by
 by_cases c:a=0
 ·by_cases hb:b=0
  all_goals
   try subst c
   try subst hb
   go_enter func32,ntmps32;go_wp2;refine aFV 3 ?_;rw[aFd];go_wp2;rw[aFd];go_wp2;try(rw[aFd];go_wp2)
   go_ret;simp
 ·go_enter func32,ntmps32;go_wp2;refine aFV 3 ?_;rw[aFd];go_wp2;go_ret;simp
def alB(a b c)(k cap)(W:World)(h0:W.cell? ⟨k,0,none⟩=some (.i a))(h1:W.cell? ⟨k,1,none⟩=some (.i b))(h2:W.cell? ⟨k,2,none⟩=some (.i c)):
  Calls prog 32 #[.slice (some ⟨k,0,none⟩) 3 cap] W λe w'=>e=.returned (.i (if a≠0 then a else if b≠0 then b else c))/\w'=W:=by
 by_cases d:a=0
 ·by_cases hb:b=0
  ·by_cases f:c=0
   all_goals
    try subst d
    try subst hb
    try subst f
    go_enter func32,ntmps32;go_wp2;refine aFV 4 ?_;rw[aFd];go_wp2;rw[aFd];go_wp2;rw[aFd];go_wp2;try(rw[aFd];go_wp2)
    go_ret;simp
  ·subst d;go_enter func32,ntmps32;go_wp2;refine aFV 4 ?_;rw[aFd];go_wp2;rw[aFd];go_wp2;go_ret;simp
 ·go_enter func32,ntmps32;go_wp2;refine aFV 4 ?_;rw[aFd];go_wp2;go_ret;simp
def vS(x:Sp):List Value:=[.string ⟨x.1.toArray⟩,.i x.2]
def vG(x:Fi):List Value:=[.string ⟨x.1.toArray⟩,.i x.2.1,.i x.2.2]
def ag1(x y:Sp)(W:World):Calls prog 115 #[.agg (vS x).toArray,.agg (vS y).toArray] W λe w'=>e=.returned (.i (BV x y))/\∃q c,w'=grow (W.drewN q) c:=by
 unfold vS;go_enter func115,ntmps115;go_upto_region 1 with fail;refine wp_region_still_tail 10 rfl af ?_;change wpStill _ _ (World.drew _) (λa'=>wpList _ _ _ _ a' (World.drew _)) _ _;obtain⟨b,a⟩:∃b,World.drew ((W.alloc (.cells #[.string ⟨x.1.toArray⟩,.i x.2] 33)).alloc (.cells #[.string ⟨y.1.toArray⟩,.i y.2] 33))=b:=⟨_,rfl⟩;rw[a];have sF:b.cell? ⟨W.heap.size,0,none⟩=some (.string ⟨x.1.toArray⟩):=by rw[<-a];simp
 have c21:b.cell? ⟨W.heap.size,1,none⟩=some (.i x.2):=by rw[<-a];simp
 have c30:b.cell? ⟨W.heap.size+1,0,none⟩=some (.string ⟨y.1.toArray⟩):=by rw[<-a];simp
 have c31:b.cell? ⟨W.heap.size+1,1,none⟩=some (.i y.2):=by rw[<-a];simp
 simp;repeat still_step
 still_call (Vp _ _ _)
 repeat still_step
 still_call (Vq _ _ _)
 refine wpStill_nil ?_;have d:∀k cap W,W.cell? ⟨k,0,none⟩=some (.i (cmpL x.1 y.1))->W.cell? ⟨k,1,none⟩=some (.i (nX x.2 y.2))->Calls prog 32 #[.slice (some ⟨k,0,none⟩) 2 cap] W λe w'=>e=.returned (.i (BV x y))/\w'=W:=λk cap W g f=>awu _ _ k cap W g f;go_wp2_with (go_at_call 32;refine(d _ _ _ ah ah).mono ?_;rintro e w' ⟨rfl,rfl⟩);go_ret;refine⟨rfl,1,#[.cells #[.string ⟨x.1.toArray⟩,.i x.2] 33,.cells #[.string ⟨y.1.toArray⟩,.i y.2] 33,.cells #[.i (cmpL x.1 y.1),.i (nX x.2 y.2)] 3],?_⟩;rw[<-a,alloc_eq_grow,alloc_eq_grow,alloc_eq_grow];show grow (grow (grow (W.drewN 1) _) _) _=_;rw[grow_grow,grow_grow];rfl
def aij(x y:Fi)(W:World):Calls prog 54 #[.agg (vG x).toArray,.agg (vG y).toArray] W λe w'=>e=.returned (.i (BW x y))/\∃q c,w'=grow (W.drewN q) c:=by
 have hi:=Vq;unfold vG;go_enter func54,ntmps54;go_upto_region 1 with fail;refine wp_region_still_tail 19 rfl af ?_;change wpStill _ _ (World.drew _) (λa'=>wpList _ _ _ _ a' (World.drew _)) _ _;obtain⟨b,a⟩:∃b,World.drew ((W.alloc (.cells #[.string ⟨x.1.toArray⟩,.i x.2.1,.i x.2.2] 35)).alloc (.cells #[.string ⟨y.1.toArray⟩,.i y.2.1,.i y.2.2] 35))=b:=⟨_,rfl⟩;rw[a];have sF:b.cell? ⟨W.heap.size,0,none⟩=some (.string ⟨x.1.toArray⟩):=by rw[<-a];simp
 have c21:b.cell? ⟨W.heap.size,1,none⟩=some (.i x.2.1):=by rw[<-a];simp
 have c22:b.cell? ⟨W.heap.size,2,none⟩=some (.i x.2.2):=by rw[<-a];simp
 have c30:b.cell? ⟨W.heap.size+1,0,none⟩=some (.string ⟨y.1.toArray⟩):=by rw[<-a];simp
 have c31:b.cell? ⟨W.heap.size+1,1,none⟩=some (.i y.2.1):=by rw[<-a];simp
 have c32:b.cell? ⟨W.heap.size+1,2,none⟩=some (.i y.2.2):=by rw[<-a];simp
 simp;repeat still_step
 still_call (Vp _ _ _)
 repeat still_step
 still_call (hi _ _ _)
 repeat still_step
 still_call (hi _ _ _)
 refine wpStill_nil ?_;have d:∀k cap W,W.cell? ⟨k,0,none⟩=some (.i (cmpL x.1 y.1))->W.cell? ⟨k,1,none⟩=some (.i (nX x.2.1 y.2.1))->W.cell? ⟨k,2,none⟩=some (.i (nX x.2.2 y.2.2))->Calls prog 32 #[.slice (some ⟨k,0,none⟩) 3 cap] W λe w'=>e=.returned (.i (BW x y))/\w'=W:=λk cap W h g f=>alB _ _ _ k cap W h g f;go_wp2_with (go_at_call 32;refine(d _ _ _ ah ah ah).mono ?_;rintro e w' ⟨rfl,rfl⟩);go_ret;refine⟨rfl,1,#[.cells #[.string ⟨x.1.toArray⟩,.i x.2.1,.i x.2.2] 35,.cells #[.string ⟨y.1.toArray⟩,.i y.2.1,.i y.2.2] 35,.cells #[.i (cmpL x.1 y.1),.i (nX x.2.1 y.2.1),.i (nX x.2.2 y.2.2)] 3],?_⟩;rw[<-a,alloc_eq_grow,alloc_eq_grow,alloc_eq_grow];show grow (grow (grow (W.drewN 1) _) _) _=_;rw[grow_grow,grow_grow];rfl
def RI:List FuncId:=[53,85,118,114,162,203,57,87,126,30,62,89,63,98]
def arb:List FuncId:=[63,98]
noncomputable def DO:Env:={P:=prog,G:=λf=>RI.contains f,cl:=λf=>arb.contains f,fq:=λ_=>false,dyn:=λ_=>false,df:=λ_=>false,ext:=λ_ _ _=>none}
def arc:RI.all (okF DO)=true:=af
def JS:ir DO:=oz RI rfl (λ_=>rfl) arc (Dl _)
def Jc{g}{r}(h:sq g r=true):r=[.fn (.func g) [] []]:=by
 unfold sq at h;split at h
 ·rw[eq_of_beq h]
 ·cases h
def YB{g}(σ)(r)(us)(h:sq g r=true)(k:au σ r us):us=[.func (.func g) #[] #[]]:=by rw[Jc h] at k;simp only[au,aj] at k;obtain⟨u,eG,rfl,⟨f1,f2,rfl,a,b⟩,rfl⟩:=k;subst a b;rfl
def JT{A:Type}:∀{l:List A},l.length<=1->l=[]\/∃x,l=[x]
 |[],_=>.inl rfl
 |[x],_=>.inr ⟨x,rfl⟩
 |x::y::l,h=>by simp at h
def ard(o)(es r:List AV)(H)(h:es.length<=1)(a:sq 54 r=true):run DO 53 (.vec o es::r) H=some (.tup [],H):=by
 rw[Jc a];rcases JT h with rfl|⟨x,rfl⟩
 ·exact me.2 ⟨60,af⟩
 ·exact me.2 ⟨60,af⟩
def alC(o)(es r:List AV)(H)(h:es.length<=1)(a:sq 115 r=true):run DO 114 (.vec o es::r) H=some (.tup [],H):=by
 rw[Jc a];rcases JT h with rfl|⟨x,rfl⟩
 ·exact me.2 ⟨60,af⟩
 ·exact me.2 ⟨60,af⟩
def arf(o)(es r:List AV)(H)(h:es.length<=1)(a:sq 31 r=true):run DO 30 (.vec o es::r) H=some (.tup [],H):=by
 rw[Jc a];rcases JT h with rfl|⟨x,rfl⟩
 ·exact me.2 ⟨60,af⟩
 ·exact me.2 ⟨60,af⟩
def arh(o)(es r:List AV)(H)(h:es.length<=1)(a:r.isEmpty=true):run DO 57 (.vec o es::r) H=some (.tup [],H):=by
 obtain rfl:=aGs.1 a;rcases JT h with rfl|⟨x,rfl⟩
 ·exact me.2 ⟨60,af⟩
 ·exact me.2 ⟨60,af⟩
def vI(n:Int):List Value:=[.i n]
def encI:rD (λn:Int=>[AV.i n]) vI 1:=⟨λ_=>rfl,λx u h=>by simp[vI] at h;subst h;rfl,λσ x=>by simp[vI,au,aj],λσ x us h=>by simpa[vI,au,aj] using h⟩
def encS:rD mE vS 2:=⟨λ_=>rfl,λx u h=>by simp[vS] at h;rcases h with rfl|rfl<;>rfl,λσ x=>by simp[vS,mE,au,aj],λσ x us h=>by
 simp[mE,au,aj] at h;obtain⟨u1,r1,rfl,rfl,u2,r2,rfl,rfl,rfl⟩:=h
 rfl⟩
def K7:rD jv vG 3:=⟨λ_=>rfl,λx u h=>by simp[vG] at h;rcases h with rfl|rfl|rfl<;>rfl,λσ x=>by simp[vG,jv,au,aj],λσ x us h=>by
 simp[jv,au,aj] at h;obtain⟨u1,r1,rfl,rfl,u2,r2,rfl,rfl,u3,r3,rfl,rfl,rfl⟩:=h
 rfl⟩
def V0:∀(l:List Int) (cs:List AV),xh cs=some l->cs=l.flatMap λn=>[.i n]
 |l,[],h=>by simp[xh] at h;subst h;rfl
 |l,a::r,h=>by
  unfold xh at h;split at h
  ·rename_i b;cases b
  ·rename_i n r' b;cases b
   cases hb:xh r with
   |none=>simp[hb,an] at h
   |some c=>simp[hb,an] at h;subst h;rw[V0 c _ hb];rfl
  ·cases h
def WZ:∀(l:List Sp) (cs:List AV),vT cs=some l->cs=l.flatMap mE
 |l,[],h=>by simp[vT] at h;subst h;rfl
 |l,[_],h=>by unfold vT at h;split at h<;>simp_all
 |l,a::b::r,h=>by
  unfold vT at h;split at h
  ·rename_i c;cases c
  ·rename_i w n r' c;cases c
   cases hb:vT r with
   |none=>simp[hb,an] at h
   |some d=>simp[hb,an] at h;subst h;rw[WZ d _ hb];rfl
  ·cases h
def W4:∀(l:List Fi) (cs:List AV),uH cs=some l->cs=l.flatMap jv
 |l,[],h=>by simp[uH] at h;subst h;rfl
 |l,[_],h=>by unfold uH at h;split at h<;>simp_all
 |l,[_,_],h=>by unfold uH at h;split at h<;>simp_all
 |l,a::b::c::r,h=>by
  unfold uH at h;split at h
  ·rename_i d;cases d
  ·rename_i w n k r' d;cases d
   cases hb:uH r with
   |none=>simp[hb,an] at h
   |some e=>simp[hb,an] at h;subst h;rw[W4 e _ hb];rfl
  ·cases h
def put_eq(F:List Value)(c:Array Value)(h:F.length<=c.size):putCells id 0 F.toArray c=(F++c.toList.drop F.length).toArray:=by
 apply Array.ext_getElem?
 intro t;simp[putCells,Array.getElem?_mapIdx,aFM,List.getElem?_append,aEz,aFc,aEw,id_eq];by_cases a:t<F.length
 ·have:t<c.size:=aa;simp[a,this]
 ·have e:F.length+(t-F.length)=t:=aa;simp only[a,ap1,e,aEm];cases c[t]? <;>rfl
def W5{w:World}{b}{c:Array Value}{et}(hb:w.heap[b]? =some (.cells c et (0,0))){F:List Value}(f:F.length<=c.size)(n)(os):
  Below w.heap.size (w.setRow b (F++c.toList.drop F.length).toArray) (grow (putRow id (Sort.ahead w n) b 0 F.toArray) os):=by
 refine⟨rfl,rfl,rfl,?_,?_⟩
 ·simp[grow,putRow,mapBlock,World.setRow,Sort.ahead]
 ·intro k d;have a:k<(w.heap.modify b (onCells (putCells id 0 F.toArray))).size:=by simpa using d
  show((w.heap.modify b (onCells (putCells id 0 F.toArray)))++os)[k]? =(w.setRow b _).heap[k]?
  simp[World.setRow];rw[aEZ a,aFN,aFN];by_cases e:b=k
  ·subst e;simp[hb,onCells];rw[put_eq _ _ f]
  ·simp[e]
def aaT{T:Type}[Inhabited T]{fP:T->List Value}{s}(d:0<s)(a:∀x,(fP x).length=s):∀(l:List T) (t:Nat),t<l.length*s->(l.flatMap fP)[t]? =some ((fP l[t/s]!)[t%s]!)
 |[],t,h=>by simp at h
 |x::l,t,h=>by
  by_cases b:t<s
  ·have c:t<(fP x).length:=by rw[a];exact b
   rw[agX,atI c,Nat.div_eq_of_lt b,Nat.mod_eq_of_lt b];simp[c]
  ·obtain⟨u,rfl⟩:∃u,t=u+s:=⟨t-s,aa⟩;have ih:=aaT d a l u (by rw[Γ,aEM,aGL] at h;omega);rw[agX,Ψ (by rw[a];omega),a,aGH,ih,Nat.add_div_right _ d,Nat.add_mod_right];rfl
def YC{T:Type}[Inhabited T]{fP:T->List Value}{s}(e:0<s)(a:∀x,(fP x).length=s)(l:List T):flatK fP s l.toArray=(l.flatMap fP).toArray:=by
 refine ext_get! (by rw[size_flatK,aEw,aEw,wI a]) λt d=> ?_;have b:t<l.length*s:=by simpa using d
 rw[get_flatK _ _ _ _ (by simpa using b)];have c:(l.flatMap fP).toArray[t]! =(fP l[t/s]!)[t%s]! :=by rw[getElem!_def];simp[aaT e a l t b]
 rw[c];simp
def W6{w:World}{b}{c:Array Value}{et}(hb:w.heap[b]? =some (.cells c et (0,0))){F:List Value}(g:c.toList.take F.length=F)(hs:F.length<=c.size):Holds id w b 0 F.toArray:=by
 intro j f;have d:j<F.length:=by simpa using f
 have a:c[j]? =some F[j]:=by rw[<-Array.getElem?_toList,<-List.getElem?_take_of_lt d,g];exact Ν d
 have e:F.toArray[j]! =F[j]:=by rw[getElem!_pos _ j (by simpa using d)];simp
 rw[e,aEF];refine⟨?_,?_⟩
 ·simp[World.cell?,hb,a]
 ·simp[World.frozen?,hb]
def aeD{T:Type}[Inhabited T]{fP:T->List Value}{s}(h:0<s)(f:∀x,(fP x).length=s){gF:List T->List T}(m:∀l,(gF l).length=l.length){f0 g}
  (k:∀(b cap:Nat) (d:Array T) (w:World),HoldsK fP s w b 0 d->b<w.heap.size->d.size<4611686018427387904->
   Calls prog f0 #[.slice (some ⟨b,0,none⟩) d.size cap,.func (.func g) #[] #[]] w λe w'=>e=.returned (.tuple #[])/\∃n os,w'=sortWorldK fP s w b 0 n (gF d.toList).toArray os)
  (b cap) (l:List T) (c:Array Value) (et) (w:World) (hb:w.heap[b]? =some (.cells c et (0,0))) (o:c.toList.take (l.length*s)=l.flatMap fP) (p:l.length*s<=c.size) (hm:l.length<=1099511627776):
  Calls prog f0 (Value.slice (some ⟨b,0,none⟩) l.length cap::[.func (.func g) #[] #[]]).toArray w λe w'=>e=.returned (.tuple #[])/\Below w.heap.size (w.setRow b ((gF l).flatMap fP++c.toList.drop (l.length*s)).toArray) w':=by
 have a:b<w.heap.size:=(Α.1 hb).1;have j:=wI f l;have i:=wI f (gF l);rw[m] at i;have hH:HoldsK fP s w b 0 l.toArray:=by show Holds id w b 0 (flatK fP s l.toArray);rw[YC h f];exact W6 hb (by rw[j];exact o) (by rw[j];exact p)
 refine(k b cap l.toArray w hH a (by simp[aEw];omega)).mono ?_;rintro e w' ⟨rfl,n,os,rfl⟩;refine⟨rfl,?_⟩;unfold sortWorldK putRowK;rw[show l.toArray.toList=l from rfl,YC h f,<-i];exact W5 hb aa n os
def alD(x y):cmpL x y<0↔bl x y=true:=by
 unfold cmpL;cases h:bl x y
 ·by_cases e:x=y<;>simp[e]
 ·simp
def NX(x y):cmpL x y=0↔x=y:=by
 unfold cmpL;cases h:bl x y
 ·by_cases e:x=y<;>simp[e]
 ·have:¬x=y:=λe=>by rw[e,wG] at h;cases h
  simp[this]
def acr(x y):decide (BW x y<0)=fU x y:=by
 refine aE7.2 ?_;rw[aEn,Fe,BW];by_cases a:cmpL x.1 y.1=0
 ·have b:=(NX _ _).1 a;have d:cmpL y.1 y.1=0:=(NX _ _).2 rfl;simp[d,b,wG];unfold nX;by_cases a1:x.2.1<y.2.1
  ·simp[a1]
  ·by_cases a2:x.2.1>y.2.1
   ·have:¬x.2.1=y.2.1:=aa;simp[a1,a2,this]
   ·have c:x.2.1=y.2.1:=aa;simp[c,gt_iff_lt,Int.lt_irrefl];by_cases b1:x.2.2<y.2.2
    ·simp[b1]
    ·by_cases b2:x.2.2>y.2.2<;>simp[b1,b2]
 ·have b:¬x.1=y.1:=λe=>a ((NX _ _).2 e);simp[a,alD,b]
def Ak(x:Sp):Fi:=(x.1,x.2,0)
def ari{x y:Sp}(h:Ak x=Ak y):x=y:=by obtain⟨a,b⟩:=x;obtain⟨c,d⟩:=y;simp[Ak] at h;rw[h.1,h.2]
def Ff(x y:Sp):zY x y=fU (Ak x) (Ak y):=by simp[zY,fU,Ak,Gl,Int.lt_irrefl];rfl
def awv(x y:Sp):decide (BV x y<0)=zY x y:=by
 have a:nX 0 0=0:=rfl;have:BV x y=BW (Ak x) (Ak y):=by show _=if cmpL x.1 y.1≠0 then cmpL x.1 y.1 else if nX x.2 y.2≠0 then nX x.2 y.2 else nX 0 0;unfold BV;rw[a];by_cases h:nX x.2 y.2=0<;>simp[h]
 rw[this,acr,Ff]
def OM:ltOf BW=fU:=funext λx=>funext λy=>acr x y
def ON:ltOf BV=zY:=funext λx=>funext λy=>awv x y
def aDH:SWO fU:=⟨Nq,λx y z=>H_,λx y z=>JN⟩
def aDI:SWO zY:=⟨λx=>by rw[Ff];exact Nq _,λx y z h k=>by rw[Ff] at*;exact H_ h k,λx y z h k=>by rw[Ff] at*;exact JN h k⟩
def aDJ(x y:Sp)(h:zY x y=false)(k:zY y x=false):x=y:=by rw[Ff] at h k;exact ari (I_ h k)
def cb(f)(fn:Func)(h:prog.funcs[f]? =some fn)(a:(fn.name== "runtime.NumGoroutine")=false)(h3:fn.body.isNone=false):kM prog f:=⟨fn,h,a,h3⟩
def YD(l:List Fi):(zy l).length=l.length:=aGq _
def YE(l:List Sp):(zw l).length=l.length:=aGq _
def YF(l:List Int):(mU l).length=l.length:=aGq _
def alE:dK prog yQ:=
 Pv JS (rv:=[.func (.func 54) #[] #[]]) K7 (cb 53 _ func53 rfl rfl) YD ard W4 YB
  (aeD aA K7.Bq YD λb cap d w hH a c=>by
   have h:=AnyQ.slices_SortFunc_total Tryz.aAL 3 isAgg35 sizeOf35 vG K7.Bq K7.one BW (by rw[OM];exact aDH) 54 #[] b 0 cap d w (enters_of func54 rfl rfl) (λm os dk hs x y=>aij x y _) hH a c (by rw[OM];exact λx y=>I_);rw[OM] at h
   exact h)
def alF:dK prog w_:=
 Pv JS (rv:=[.func (.func 115) #[] #[]]) encS (cb 114 _ func114 rfl rfl) YE alC WZ YB
  (aeD aA encS.Bq YE λb cap d w hH a c=>by
   have h:=AnyQ.slices_SortFunc_total Tryz.aAM 2 isAgg33 sizeOf33 vS encS.Bq encS.one BV (by rw[ON];exact aDI) 115 #[] b 0 cap d w (enters_of func115 rfl rfl) (λm os dk hs x y=>ag1 x y _) hH a c (by rw[ON];exact aDJ);rw[ON] at h
   exact h)
def YG(l:List Int):l.flatMap vI=l.map (Value.int .i64):=by
 induction l with
 |nil=>rfl
 |cons x l ih=>rw[agX,ih];rfl
def arj(c)(l:List Int):putCells (Value.int .i64) 0 l.toArray c=putCells id 0 (l.flatMap vI).toArray c:=by
 rw[YG];unfold putCells;congr 1;funext k x;by_cases h:k<l.length
 ·simp[h]
 ·simp[h]
def alG:dK prog w9:=
 Pv JS (rv:=[]) encI (cb 57 _ func57 rfl rfl) YF arh V0 (λσ r us h k=>by
   obtain rfl:=aGs.1 h
   simpa[au] using k)
  (λb cap l c et w hb i m hm=>by
   have f:=wI encI.Bq l;have d:=wI encI.Bq (mU l);rw[YF] at d
   have hH:Holds (Value.int .i64) w b 0 l.toArray:=by
    have:=W6 hb (by rw[f];exact i) (by rw[f];exact m);rw[YG] at this;intro j g;have a:j<l.length:=by simpa using g
    have:=this j (by simpa using a);simpa[a] using this
   refine(AnyM.slices_Sort_int Tryz.aAN b 0 cap l w hH (Α.1 hb).1 aa).mono ?_;rintro e w' ⟨rfl,n,os,rfl⟩;refine⟨rfl,?_⟩;unfold putRow;rw[show(l.mergeSort λx y=>decide (x<=y))=mU l from rfl,<-d,funext λc=>arj c (mU l)]
   exact W5 hb aa n os)
def alH:dK prog xb:=λf args H v H' h=>by
 unfold xb at h;split at h
 ·rename_i hf;subst hf;split at h
  ·rename_i o es r;split at h
   ·rename_i a;cases h;exact EI JS 30 _ H _ _ (arf o es r H a.1 a.2)
   ·cases h
  ·cases h
 ·cases h
end Go.Proofs.YtmehamiifalmaaaGreatDoor.S
