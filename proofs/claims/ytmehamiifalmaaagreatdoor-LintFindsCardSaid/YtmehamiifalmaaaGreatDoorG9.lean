/- LintFinds: part 10 of its proof. -/
import Derived.Test.YtmehamiifalmaaaGreatDoorG8
import Derived.Test.YtmehamiifalmaaaGreatDoorG7
set_option linter.all false
namespace Go.Proofs.YtmehamiifalmaaaGreatDoor
open Go Go.Ab Go.Proofs.Tryz
inductive Cl where
 |expr|type|opt|stmt|block|AW|params|param|entry|field|item
mutual
def wf(c:Cl)(n:Nd):Bool:=
 match n with
 | .mk k f t w a ks=>
  match c with
  | .expr=>if k=21\/k=22\/k=23\/k=24 then cL [] ks else if k=19\/k=25 then cL [.expr] ks else if 14<=k/\k<=18 then cL [.expr,.expr] ks
   else if k=20 then !ks.isEmpty&&eH .expr ks else if k=26 then eH .entry ks else if k=28 then cL [.params,.opt,.block] ks else false
  | .type=>if k=29\/k=30\/k=31 then cL [] ks else if k=32 then eH .field ks else if k=34 then !ks.isEmpty&&eH .type ks else false
  | .opt=>if k=0 then cL [] ks else if k=29\/k=30\/k=31 then cL [] ks else if k=32 then eH .field ks else if k=34 then !ks.isEmpty&&eH .type ks else false
  | .stmt=>if k=7 then cL [.opt,.expr] ks else if k=8\/k=11\/k=12\/k=13 then cL [.expr] ks else if k=9 then cL [.expr,.block,.AW] ks else if k=10 then cL [.expr,.block] ks else false
  | .block=>if k=6 then eH .stmt ks else false
  | .AW=>if k=0 then cL [] ks else if k=6 then eH .stmt ks else false
  | .params=>if k=4 then eH .param ks else false
  | .param=>if k=5 then cL [.opt] ks else false
  | .entry=>if k=27 then cL [.expr] ks else false
  | .field=>if k=33 then cL [.type] ks else false
  | .item=>if k=2 then cL [.expr] ks else if k=3 then cL [.params,.opt,.block] ks else false
def eH(c:Cl)(l:List Nd):Bool:=
 match l with
 |[]=>true
 |n::r=>wf c n&&eH c r
def cL(cs:List Cl)(l:List Nd):Bool:=
 match l with
 |[]=>cs.isEmpty
 |n::r=>match cs with
  |[]=>false
  |c::cs=>wf c n&&cL cs r
end
def lW(k:Nat):Bool:=k==3||k==5||k==7||k==8||k==23
def qd(k:Nat):Bool:=k==6||k==21||k==22||k==24||k==26||k==29||k==30||k==31||k==32
mutual
def pl:Nd->List Nat
 | .mk k f _ _ a ks=>if k==2 then[a] else(if lW k then[a] else if qd k then[f] else[])++dq ks
def dq:List Nd->List Nat
 |[]=>[]
 |n::r=>pl n++dq r
end
mutual
def fr(L:Nat):Nd->Bool
 | .mk k f _ _ _ ks=>(k==0||decide (f<L))&&iT L ks
def iT(L:Nat):List Nd->Bool
 |[]=>true
 |n::r=>fr L n&&iT L r
end
def Zl(c:Cl):∀a b:List Nd,eH c (a++b)=(eH c a&&eH c b)
 |[],b=>by simp[eH]
 |x::a,b=>by simp[eH,Zl c a b,Bool.and_assoc]
def Zm:∀a b:List Nd,dq (a++b)=dq a++dq b
 |[],b=>by simp[dq]
 |x::a,b=>by simp[dq,Zm a b]
def Zn(L):∀a b:List Nd,iT L (a++b)=(iT L a&&iT L b)
 |[],b=>by simp[iT]
 |x::a,b=>by simp[iT,Zn L a b,Bool.and_assoc]
structure Rs(lo hi:Nat)(p:List Nat):Prop where
 pw:p.Pairwise (·<·)
 bd:∀x∈p,lo<=x/\x<hi
def Rs.nil(lo hi):Rs lo hi []:=⟨.nil,λx a=>absurd a ah⟩
def Rs.one{lo hi a}(h:lo<=a)(c:a<hi):Rs lo hi [a]:=⟨ah,λx b=>by rw[aE8] at b;subst b;exact⟨h,c⟩⟩
def Rs.less{lo hi a b}{p}(h:Rs lo hi p)(h1:a<=lo)(h2:hi<=b):Rs a b p:=⟨h.pw,λx c=>by have:=h.bd x c;omega⟩
def Rs.app{lo m m' hi}{p q}(h:Rs lo m p)(b:Rs m' hi q)(h1:m<=m')(h2:lo<=m)(h3:m'<=hi):Rs lo hi (p++q):=
 ⟨List.pairwise_append.2 ⟨h.pw,b.pw,λx c y d=>by have:=h.bd x c;have:=b.bd y d;omega⟩,λx c=>by
  rcases aEo.1 c with a|a
  ·have:=h.bd x a;omega
  ·have:=b.bd x a;omega⟩
structure Gd(L lo hi:Nat)(c:Cl)(n:Nd):Prop where
 w:wf c n=true
 f:fr L n=true
 p:Rs lo hi (pl n)
structure od(L lo hi:Nat)(c:Cl)(ks:List Nd):Prop where
 w:eH c ks=true
 f:iT L ks=true
 p:Rs lo hi (dq ks)
def od.nil(L lo hi)(c:Cl):od L lo hi c []:=⟨by simp[eH],by simp[iT],by simp[dq];exact .nil lo hi⟩
def od.snoc{L lo m m' hi}{c}{ks}{n:Nd}(h:od L lo m c ks)(a:Gd L m' hi c n)(b:m<=m')(d:lo<=m)(h3:m'<=hi):od L lo hi c (ks++[n]):=
 ⟨by simp[Zl,eH,h.w,a.w],by simp[Zn,iT,h.f,a.f],by
  rw[Zm];simp[dq]
  exact h.p.app a.p b d h3⟩
def od.less{L lo hi a b}{c}{ks}(h:od L lo hi c ks)(d:a<=lo)(e:hi<=b):od L a b c ks:=⟨h.w,h.f,h.p.less d e⟩
def Gd.less{L lo hi a b}{c}{n}(h:Gd L lo hi c n)(d:a<=lo)(e:hi<=b):Gd L a b c n:=⟨h.w,h.f,h.p.less d e⟩
section
variable {l:List Tok}
def ma{x}{s:PS}(h:(cB l x s).err=none):s.err=none/\(cB l x s).at_=s.at_+1/\s.at_<l.length:=by
 unfold cB at h⊢
 cases ht:aZ l s x with
 |true=>
  simp only[ht,aEl,bc] at h⊢;refine⟨h,trivial,?_⟩;by_cases a:s.at_<l.length
  ·exact a
  ·simp[aZ,dH,fC,aEh (aET a)] at ht
 |false=>
  simp[ht,jA] at h;split at h
  ·cases h
  ·grind
def rH{s:PS}(h:(cZ l s).2.err=none):s.err=none/\s.at_<l.length/\∃w,cZ l s=(some (w,s.at_),⟨s.at_+1,none⟩):=by
 unfold cZ at h⊢;by_cases a:(fC l s).1=1
 ·simp[a] at h⊢
  cases he:s.err with
  |some b=>simp[he] at h
  |none=>
   refine⟨rfl,?_,(fC l s).2.2.2,by simp[bc,he]⟩;by_cases c:s.at_<l.length
   ·exact c
   ·simp[fC,aEh (aET c)] at a
 ·exfalso;simp[a] at h;unfold jA at h
  cases he:s.err with
  |some b=>simp[he] at h
  |none=>simp[he] at h
def fW{x}{s:PS}(h:aZ l s x=true):s.err=none/\s.at_<l.length:=by
 refine⟨?_,?_⟩
 ·cases he:s.err with
  |none=>rfl
  |some b=>simp[aZ,he] at h
 ·by_cases a:s.at_<l.length
  ·exact a
  ·simp[aZ,dH,fC,aEh (aET a)] at h
def Lv(l:List Tok)(c:Cl)(one:PS->PR):Prop:=∀s r,one s=some r->r.2.err=none->s.err=none/\s.at_<=r.2.at_/\Gd l.length s.at_ r.2.at_ c r.1
def Zo{c}{one:PS->PR}(a:Lv l c one){e}:∀{n:Nat} {ks:List Nd} {s:PS} {r:List Nd×PS} {lo m:Nat},mN l one e n ks s=some r->r.2.err=none->s.err=none/\(od l.length lo m c ks->lo<=m->m<=s.at_->s.at_<=r.2.at_/\od l.length lo r.2.at_ c r.1)
 |0,ks,s,r,lo,m,h,_=>by cases h
 |n+1,ks,s,r,lo,m,h,o=>by
  rw[mN] at h
  cases hs:s.err with
  |some b=>grind
  |none=>
   refine⟨rfl,λhg f hm=> ?_⟩;simp[hs] at h;obtain⟨x,i,h⟩:=al h
   cases ht:aZ l x.2 e with
   |true=>simp[ht] at h;subst h;obtain⟨_,g,d⟩:=a _ _ i (fW ht).1;simp[bc];exact⟨aa,(hg.snoc d hm f aa).less (ν _) (aEg _)⟩
   |false=>simp[ht] at h;obtain⟨g,d⟩:=Zo a (lo:=lo) (m:=x.2.at_) h o;obtain⟨h3,h4,_⟩:=ma g;obtain⟨_,h5,j⟩:=a _ _ i h3;obtain⟨h7,k⟩:=d (hg.snoc j hm f aa) aa aa;exact⟨aa,k⟩
def E2{c}{one:PS->PR}(b:Lv l c one){e}{n}{ks}{s:PS}{r}{lo m}(h:lR l one e n ks s=some r)(a:r.2.err=none):s.err=none/\(od l.length lo m c ks->lo<=m->m<=s.at_->s.at_<=r.2.at_/\od l.length lo r.2.at_ c r.1):=by
 rw[lR] at h
 cases ht:aZ l s e with
 |true=>simp[ht] at h;subst h;refine⟨(fW ht).1,λhg m_ hm=> ?_⟩;simp only[bc];exact⟨aEg _,hg.less (ν _) aa⟩
 |false=>simp[ht] at h;exact Zo b h a
def XJ{one:PS->PR}(a:Lv l .stmt one):∀{n:Nat} {ks:List Nd} {s:PS} {r:List Nd×PS} {lo m:Nat},nN l one n ks s=some r->r.2.err=none->s.err=none/\(od l.length lo m .stmt ks->lo<=m->m<=s.at_->s.at_<=r.2.at_/\od l.length lo r.2.at_ .stmt r.1)
 |0,ks,s,r,lo,m,h,_=>by cases h
 |n+1,ks,s,r,lo,m,h,e=>by
  rw[nN] at h
  cases hs:s.err with
  |some b=>grind
  |none=>
   refine⟨rfl,λhg f hm=> ?_⟩;simp[hs] at h
   cases ht:aZ l s [125] with
   |true=>simp[ht] at h;subst h;simp only[bc];exact⟨aEg _,hg.less (ν _) aa⟩
   |false=>simp[ht] at h;obtain⟨x,j,h⟩:=al h;obtain⟨i,g⟩:=XJ a (lo:=lo) (m:=x.2.at_) h e;obtain⟨_,h5,c⟩:=a _ _ j i;obtain⟨h7,d⟩:=g (hg.snoc c hm f aa) aa (ν _);exact⟨aa,d⟩
end
def QL{L lo hi k f t a}{w}{ks}{c}(b:wf c (.mk k f t w a ks)=true)(hf:f<L)(d:k≠2)(g:iT L ks=true)(e:Rs lo hi ((if lW k then[a] else if qd k then[f] else[])++dq ks)):Gd L lo hi c (.mk k f t w a ks):=
 ⟨b,by simp[fr,hf,g],by
  simp[pl];rw[κ (by simpa using d)]
  exact e⟩
def sg{L lo hi k f t a}{w}{ks}{c}(d:wf c (.mk k f t w a ks)=true)(hf:f<L)(g:lW k=false)(b:k≠2/\qd k=false)(h:iT L ks=true)(e:Rs lo hi (dq ks)):Gd L lo hi c (.mk k f t w a ks):=
 QL d hf b.1 h (by rw[g];simpa[b.2] using e)
def F9{L lo hi k f t a}{w}{ks}{c}(d:wf c (.mk k f t w a ks)=true)(hf:f<L)(b:lW k=true)(g:iT L ks=true)(i:lo<=a)(h:a+1<=hi)(e:Rs (a+1) hi (dq ks)):Gd L lo hi c (.mk k f t w a ks):=
 QL d hf (by rintro rfl;cases b) g (by rw[b,μ rfl];exact(Rs.one (lo:=lo) (hi:=a+1) i (Nat.lt_succ_self _)).app e (ν _) aa h)
def Bl{L lo hi k f t a}{w}{ks}{c}(e:lW k=false)(l:qd k=true)(j:k≠2)(b:wf c (.mk k f t w a ks)=true)(hf:f<L)(g:iT L ks=true)(i:lo<=f)(h:f+1<=hi)(d:Rs (f+1) hi (dq ks)):Gd L lo hi c (.mk k f t w a ks):=
 QL b hf j g (by
  rw[e,l];show Rs lo hi ([f]++dq ks)
  exact(Rs.one (lo:=lo) (hi:=f+1) i (Nat.lt_succ_self _)).app d (ν _) aa h)
def zr(x):dq [x]=pl x:=by simp[dq]
def R0(x y):dq [x,y]=pl x++pl y:=by simp[dq]
def Kn(x y z):dq [x,y,z]=pl x++(pl y++pl z):=by simp[dq]
def Dx(L)(x):iT L [x]=fr L x:=by simp[iT]
def R1(L)(x y):iT L [x,y]=(fr L x&&fr L y):=by simp[iT]
def Ks(L)(x y z):iT L [x,y,z]=(fr L x&&(fr L y&&fr L z)):=by simp[iT]
def R2{L lo hi}{n:Nd}(h:Gd L lo hi .expr n):n.f<L:=by
 obtain⟨k,f,t,w,a,ks⟩:=n;have hf:=h.f;have c:=h.w;simp[fr] at hf;rcases hf.1 with b|b
 ·subst b;simp[wf] at c
 ·exact b
def asu{n}(h:wf .type n=true):wf .opt n=true:=by
 obtain⟨k,f,t,w,a,ks⟩:=n;simp[wf] at h⊢;by_cases b:k=0
 ·subst b;simp at h
 ·simpa[b] using h
def axy{n}(h:wf .block n=true):wf .AW n=true:=by
 obtain⟨k,f,t,w,a,ks⟩:=n;simp[wf] at h⊢;by_cases b:k=6
 ·grind
 ·simp[b] at h
def Jq(L lo hi){c}(h:c=.opt\/c=.AW):Gd L lo hi c dR:=by
 refine⟨?_,by simp[dR,fr,iT],by simp[dR,pl,dq,lW,qd];first|exact .nil lo hi|(simp;exact .nil lo hi)⟩
 rcases h with rfl|rfl<;>simp[dR,wf,cL]
section
variable {l:List Tok}
def O1{one}(e:Lv l .expr one){k lo m}(b:14<=k/\k<=18){a}{s:PS}{r}(h:lz k a one s=some r)(g:r.2.err=none):s.err=none/\(Gd l.length lo m .expr a->lo<=m->m<=s.at_->s.at_<=r.2.at_/\Gd l.length lo r.2.at_ .expr r.1):=by
 obtain⟨x,n,h⟩:=al h;cases h;obtain⟨j,c,h3⟩:=e _ _ n g;refine⟨j,λhg i hm=>⟨c,sg ?_ (R2 hg) ?_ ⟨aa,by obtain⟨q1,q2⟩:=b;have:k=14\/k=15\/k=16\/k=17\/k=18:=aa;rcases this with rfl|rfl|rfl|rfl|rfl<;>rfl⟩ (by rw[R1,hg.f,h3.f];rfl) (by rw[R0];exact hg.p.app h3.p hm i c)⟩⟩
 ·have d:¬(k=21\/k=22\/k=23\/k=24):=aa;have h5:¬(k=19\/k=25):=aa;simp[wf,d,h5,b,cL,hg.w,h3.w]
 ·obtain⟨d,h5⟩:=b;have:k=14\/k=15\/k=16\/k=17\/k=18:=aa;rcases this with rfl|rfl|rfl|rfl|rfl<;>rfl
def Zp{one}{e}:∀{n:Nat} {ks:List Nd} {s:PS} {r:List Nd×PS},mN l one e n ks s=some r->ks.length<=r.1.length
 |0,ks,s,r,h=>by cases h
 |n+1,ks,s,r,h=>by
  rw[mN] at h;split at h
  ·obtain⟨x,hx,h⟩:=al h;split at h
   ·cases h;simp
   ·have:=Zp h;simp at this;omega
  ·cases h;simp
def amK{one}{e}{n}{ks:List Nd}{s}{r}(h:lR l one e n ks s=some r):ks.length<=r.1.length:=by
 rw[lR] at h;split at h
 ·cases h;simp
 ·exact Zp h
def Zq{one}(c:Lv l .expr one):∀{n:Nat} {a:Nd} {s:PS} {r:Nd×PS} {lo:Nat},kS l one n a s=some r->r.2.err=none->s.err=none/\(Gd l.length lo s.at_ .expr a->lo<=s.at_->s.at_<=r.2.at_/\Gd l.length lo r.2.at_ .expr r.1)
 |0,a,s,r,lo,h,_=>by cases h
 |n+1,a,s,r,lo,h,g=>by
  rw[kS] at h
  cases hs:s.err with
  |some b=>grind
  |none=>
   refine⟨rfl,λhg i=> ?_⟩;simp[hs] at h;have go:∀k,14<=k/\k<=18->(bn (lz k a one (bc s)) λr=>kS l one n r.1 r.2)=some r->s.at_<=r.2.at_/\Gd l.length lo r.2.at_ .expr r.1:=by intro k d h;obtain⟨x,q,h⟩:=al h;obtain⟨p,j⟩:=Zq c (lo:=lo) h g;obtain⟨_,o⟩:=O1 c (lo:=lo) (m:=s.at_) d q p;obtain⟨h5,e⟩:=o hg i (aEg _);simp[bc] at h5;obtain⟨h7,f⟩:=j e aa;exact⟨aa,f⟩
   split at h
   ·grind
   ·grind
def XK{one}(b:Lv l .expr one):∀{n:Nat} {a:Nd} {s:PS} {r:Nd×PS} {lo:Nat},qH l one n a s=some r->r.2.err=none->s.err=none/\(Gd l.length lo s.at_ .expr a->lo<=s.at_->s.at_<=r.2.at_/\Gd l.length lo r.2.at_ .expr r.1)
 |0,a,s,r,lo,h,_=>by cases h
 |n+1,a,s,r,lo,h,e=>by
  rw[qH] at h
  cases ht:aZ l s [42] with
  |true=>simp[ht] at h;refine⟨(fW ht).1,λhg f=> ?_⟩;obtain⟨x,k,h⟩:=al h;obtain⟨j,g⟩:=XK b (lo:=lo) h e;obtain⟨_,i⟩:=O1 b (lo:=lo) (m:=s.at_) aa k j;obtain⟨h5,c⟩:=i hg f (aEg _);simp[bc] at h5;obtain⟨h7,d⟩:=g c aa;exact⟨aa,d⟩
  |false=>grind
def Of{one}(e:Lv l .expr one):∀{n:Nat} {a:Nd} {s:PS} {r:Nd×PS} {lo:Nat},mK l one n a s=some r->r.2.err=none->s.err=none/\(Gd l.length lo s.at_ .expr a->lo<=s.at_->s.at_<=r.2.at_/\Gd l.length lo r.2.at_ .expr r.1)
 |0,a,s,r,lo,h,_=>by cases h
 |n+1,a,s,r,lo,h,o=>by
  rw[mK] at h
  cases hs:s.err with
  |some b=>grind
  |none=>
   refine⟨rfl,λhg u=> ?_⟩;simp[hs] at h
   cases ht:aZ l s [46] with
   |true=>
    simp[ht] at h;obtain⟨j,c⟩:=Of e (lo:=lo) h o;obtain⟨_,i,w,k⟩:=rH j;rw[k] at c;simp[bc] at c i k;have v:Gd l.length lo (s.at_+1+1) .expr (hX (e9 (.mk 19 a.f 0 [] 0 [a]) (some (w,s.at_+1))) (s.at_+1+1)):=by show Gd l.length lo (s.at_+1+1) .expr (.mk 19 a.f (s.at_+1+1) w (s.at_+1) [a]);exact sg (by simp[wf,cL,hg.w]) (R2 hg) rfl aA (by simp[iT,hg.f]) (by rw[zr];exact hg.p.less (ν _) aa)
    obtain⟨h7,g⟩:=c v aa;exact⟨aa,g⟩
   |false=>
    simp[ht] at h;split at h
    ·obtain⟨x,q,h⟩:=al h;obtain⟨j,c⟩:=Of e (lo:=lo) h o;obtain⟨_,i⟩:=E2 e (lo:=lo) (m:=s.at_) q j;obtain⟨h5,d⟩:=i ⟨by simp[eH,hg.w],by simp[iT,hg.f],by rw[zr];exact hg.p⟩ u (aEg _);simp[bc] at h5
     have t:x.1.isEmpty=false:=by
      have:=amK q
      cases hx1:x.1 with
      |nil=>simp[hx1] at this
      |cons _ _=>rfl
     obtain⟨h7,g⟩:=c (sg (by simp[wf,d.w,t]) (R2 hg) rfl aA d.f d.p) aa;exact⟨aa,g⟩
    ·grind
def Task.cl:Task->Cl
 | .kind=>.type| .field=>.field| .typed=>.opt| .params=>.params| .param=>.param| .block=>.block| .stmt=>.stmt| .expr=>.expr| .sum=>.expr| .term=>.expr| .post=>.expr| .atom=>.expr| .entry=>.entry
def FN(k f t)(ks ms)(w)(a):hX (iN (e9 (.mk k f 0 [] 0 ks) (some (w,a))) ms) t=.mk k f t w a (ks++ms):=rfl
def AX:∀n task,Lv l task.cl (P l n task)
 |0,task=>λs r h=>by cases task<;>cases h
 |n+1,task=>by
  have ih:=λt=>AX n t;intro s r h c
  cases task with
  |kind=>
   rw[P] at h;simp only at h
   have d:∀k,k=29\/k=30\/k=31->s.err=none->s.at_<l.length->Gd l.length s.at_ (s.at_+1) .type (.mk k s.at_ (s.at_+1) [] 0 []):=λk C _ S=>by
    refine Bl ?_ ?_ aa (by simp[wf,C,cL]) S rfl (ν _) (ν _) (by simp[dq];exact .nil _ _);all_goals(rcases C with rfl|rfl|rfl<;>rfl)
   split at h
   ·rename_i a;cases h;exact⟨(fW a).1,aEg _,d 29 dV (fW a).1 (fW a).2⟩
   split at h
   ·rename_i a;cases h;exact⟨(fW a).1,aEg _,d 30 dV (fW a).1 (fW a).2⟩
   split at h
   ·rename_i a;cases h;exact⟨(fW a).1,aEg _,d 31 dV (fW a).1 (fW a).2⟩
   split at h
   ·rename_i a;obtain⟨x,b,h⟩:=al h;cases h;obtain⟨_,F⟩:=E2 (ih .field) (lo:=s.at_+1) (m:=s.at_+1) b c;obtain⟨h3,q⟩:=F (.nil _ _ _ _) (ν _) (ν _);simp[bc] at h3;have B:=q.w;simp[Task.cl] at B;exact⟨(fW a).1,dV,Bl rfl rfl aA (by simp[wf,Task.cl,B]) (fW a).2 q.f (ν _) dV q.p⟩
   split at h
   ·rename_i a;obtain⟨x,b,h⟩:=al h;obtain⟨y,E,h⟩:=al h;cases h;obtain⟨i,g2,g3⟩:=ih .kind _ _ E c;obtain⟨o,u,_⟩:=ma i;obtain⟨g,F⟩:=E2 (ih .kind) (lo:=s.at_) (m:=s.at_) b o;obtain⟨j,g8,_⟩:=ma g;have Ly:(bc s).at_=s.at_+1:=rfl;obtain⟨h3,q⟩:=F (.nil _ _ _ _) (ν _) dV;have h5:=q.snoc g3 dV dV dV;have H:=h5.w;simp[Task.cl] at H;exact⟨(fW a).1,dV,sg (by simp[wf,Task.cl,H]) (fW a).2 rfl aA h5.f h5.p⟩
   ·cases h;simp[jA] at c;split at c
    ·cases c
    ·grind
  |field=>rw[P] at h;obtain⟨x,b,h⟩:=al h;cases h;obtain⟨i,g2,g3⟩:=ih .kind _ _ b c;obtain⟨o,u,_⟩:=ma i;obtain⟨g,j,w,A⟩:=rH o;rw[A] at u g2 g3⊢;simp only at u g2 g3;refine⟨g,dV,?_⟩;rw[FN,Ο];exact sg (by simp[wf,cL,Task.cl];exact g3.w) j rfl aA (by rw[Dx];exact g3.f) (by rw[zr];exact g3.p.less dV (ν _))
  |entry=>rw[P] at h;obtain⟨x,b,h⟩:=al h;cases h;obtain⟨i,g2,g3⟩:=ih .expr _ _ b c;obtain⟨o,u,_⟩:=ma i;obtain⟨g,j,w,A⟩:=rH o;rw[A] at u g2 g3⊢;simp only at u g2 g3;refine⟨g,dV,?_⟩;rw[FN,Ο];exact sg (by simp[wf,cL,Task.cl];exact g3.w) j rfl aA (by rw[Dx];exact g3.f) (by rw[zr];exact g3.p.less dV (ν _))
  |param=>rw[P] at h;obtain⟨x,b,h⟩:=al h;cases h;obtain⟨i,g2,g3⟩:=ih .typed _ _ b c;obtain⟨g,j,w,A⟩:=rH i;rw[A] at g2 g3⊢;simp only at g2;refine⟨g,dV,?_⟩;rw[FN,Ο];exact F9 (by simp[wf,cL,Task.cl];exact g3.w) j rfl (by rw[Dx];exact g3.f) (ν _) dV (by rw[zr];exact g3.p)
  |typed=>
   rw[P] at h;split at h
   ·rename_i a;obtain⟨i,g2,g3⟩:=ih .kind _ _ h c;simp[bc] at g2;exact⟨(fW a).1,aa,⟨asu g3.w,g3.f,g3.p.less (aEg _) (ν _)⟩⟩
   ·cases h;exact⟨c,ν _,Jq _ _ _ (.inl rfl)⟩
  |params=>rw[P] at h;obtain⟨x,b,h⟩:=al h;cases h;obtain⟨i,F⟩:=E2 (ih .param) (lo:=s.at_) (m:=s.at_) b c;obtain⟨o,u,g⟩:=ma i;obtain⟨h3,q⟩:=F (.nil _ _ _ _) (ν _) dV;have B:=q.w;simp[Task.cl] at B;exact⟨o,dV,sg (by simp[wf,Task.cl,B]) g rfl aA q.f q.p⟩
  |block=>rw[P] at h;obtain⟨x,b,h⟩:=al h;cases h;obtain⟨i,F⟩:=XJ (ih .stmt) (lo:=s.at_+1) (m:=s.at_+1) b c;obtain⟨o,u,g⟩:=ma i;obtain⟨h3,q⟩:=F (.nil _ _ _ _) (ν _) dV;have B:=q.w;exact⟨o,dV,Bl rfl rfl aA (by simp[wf,Task.cl,B]) g q.f (ν _) dV q.p⟩
  |expr=>
   rw[P] at h;obtain⟨x,b,h⟩:=al h;have R:∀k,14<=k/\k<=18->lz k x.1 (P l n .sum) (bc x.2)=some r->s.err=none/\s.at_<=r.2.at_/\Gd l.length s.at_ r.2.at_ .expr r.1:=λk C h=>by obtain⟨i,g2⟩:=O1 (ih .sum) (lo:=s.at_) (m:=x.2.at_) C h c;obtain⟨g3,o,u⟩:=ih .sum _ _ b i;obtain⟨g,j⟩:=g2 u o (aEg _);simp[bc] at g;exact⟨g3,aa,j⟩
   split at h
   ·exact R 14 dV h
   split at h
   ·exact R 15 dV h
   ·cases h;exact ih .sum _ _ b c
  |sum=>rw[P] at h;obtain⟨x,b,h⟩:=al h;obtain⟨i,g2⟩:=Zq (ih .term) (lo:=s.at_) h c;obtain⟨g3,o,u⟩:=ih .term _ _ b i;obtain⟨g,j⟩:=g2 u o;exact⟨g3,aa,j⟩
  |term=>rw[P] at h;obtain⟨x,b,h⟩:=al h;obtain⟨i,g2⟩:=XK (ih .post) (lo:=s.at_) h c;obtain⟨g3,o,u⟩:=ih .post _ _ b i;obtain⟨g,j⟩:=g2 u o;exact⟨g3,aa,j⟩
  |post=>rw[P] at h;obtain⟨x,b,h⟩:=al h;obtain⟨i,g2⟩:=Of (ih .expr) (lo:=s.at_) h c;obtain⟨g3,o,u⟩:=ih .atom _ _ b i;obtain⟨g,j⟩:=g2 u o;exact⟨g3,aa,j⟩
  |atom=>
   rw[P] at h;simp only at h
   have O:(fC l s).1≠0->s.at_<l.length:=λC=>by
    by_cases N:s.at_<l.length
    ·exact N
    ·simp[fC,aEh (aET N)] at C
   split at h
   ·rename_i a;cases h;exact⟨c,aEg _,Bl rfl rfl aA (by simp[wf,cL,Task.cl]) (O dV) rfl (ν _) (ν _) (by simp[dq];exact .nil _ _)⟩
   split at h
   ·rename_i a;cases h;exact⟨c,aEg _,Bl rfl rfl aA (by simp[wf,cL,Task.cl]) (O dV) rfl (ν _) (ν _) (by simp[dq];exact .nil _ _)⟩
   split at h
   ·cases h;obtain⟨g,j,w,A⟩:=rH c;rw[A];refine⟨g,aEg _,?_⟩;show Gd l.length s.at_ (s.at_+1) .expr (.mk 23 s.at_ (s.at_+1) w s.at_ []);exact F9 (by simp[wf,cL]) j rfl rfl (ν _) (ν _) (by simp[dq];exact .nil _ _)
   split at h
   ·rename_i a;cases h;exact⟨(fW a).1,aEg _,Bl rfl rfl aA (by simp[wf,cL,Task.cl]) (fW a).2 rfl (ν _) (ν _) (by simp[dq];exact .nil _ _)⟩
   split at h
   ·rename_i a;obtain⟨x,b,h⟩:=al h;cases h;obtain⟨o,u,_⟩:=ma c;obtain⟨i,g2,g3⟩:=ih .expr _ _ b o;simp[bc] at g2;exact⟨(fW a).1,dV,sg (by simp[wf,cL,Task.cl];exact g3.w) (fW a).2 rfl aA (by rw[Dx];exact g3.f) (by rw[zr];exact g3.p.less (aEg _) dV)⟩
   split at h
   ·rename_i a;obtain⟨x,b,h⟩:=al h;cases h;obtain⟨_,F⟩:=E2 (ih .entry) (lo:=s.at_+1) (m:=s.at_+1) b c;obtain⟨h3,q⟩:=F (.nil _ _ _ _) (ν _) (ν _);simp[bc] at h3;have B:=q.w;simp[Task.cl] at B;exact⟨(fW a).1,dV,Bl rfl rfl aA (by simp[wf,Task.cl,B]) (fW a).2 q.f (ν _) dV q.p⟩
   split at h
   ·rename_i a;obtain⟨x,b,h⟩:=al h;obtain⟨y,E,h⟩:=al h;obtain⟨z,L,h⟩:=al h;cases h;obtain⟨D,c2,e⟩:=ih .block _ _ L c;obtain⟨b1,b2,v⟩:=ih .typed _ _ E D;obtain⟨a1,a2,a3⟩:=ih .params _ _ b b1;simp[bc] at a2
    exact⟨(fW a).1,dV,sg (by simp[wf,cL,Task.cl];exact⟨a3.w,v.w,e.w⟩) (fW a).2 rfl aA (by rw[Ks,a3.f,v.f,e.f];rfl)
     (by rw[Kn];exact(a3.p.less (aEg _) (ν _)).app (v.p.app e.p (ν _) b2 c2) (ν _) dV dV)⟩
   ·cases h;simp[jA] at c;split at c
    ·cases c
    ·grind
  |stmt=>
   rw[P] at h;simp only at h;split at h
   ·rename_i a;obtain⟨x,b,h⟩:=al h;obtain⟨y,E,h⟩:=al h;cases h;obtain⟨G,J,_⟩:=ma c;obtain⟨D,c2,e⟩:=ih .expr _ _ E G;obtain⟨b1,b2,_⟩:=ma D;obtain⟨a1,a2,a3⟩:=ih .typed _ _ b b1;obtain⟨g,j,w,A⟩:=rH a1;rw[A] at a2 a3⊢;simp[bc] at a2 a3 j;refine⟨(fW a).1,dV,?_⟩;show Gd l.length s.at_ _ .stmt (.mk 7 s.at_ _ w (s.at_+1) [x.1,y.1])
    exact F9 (by simp[wf,cL];exact⟨a3.w,e.w⟩) (fW a).2 rfl (by rw[R1,a3.f,e.f];rfl) dV dV
     (by rw[R0];exact a3.p.app (e.p.less (ν _) dV) dV dV dV)
   split at h
   ·rename_i a;obtain⟨x,b,h⟩:=al h;obtain⟨y,E,h⟩:=al h;split at h
    ·rename_i T;obtain⟨z,L,h⟩:=al h;cases h;obtain⟨D,c2,e⟩:=ih .block _ _ L c;obtain⟨b1,b2,v⟩:=ih .block _ _ E (fW T).1;obtain⟨a1,a2,a3⟩:=ih .expr _ _ b b1;simp[bc] at a2 c2
     exact⟨(fW a).1,dV,sg (by simp[wf,cL,Task.cl];exact⟨a3.w,v.w,axy e.w⟩) (fW a).2 rfl aA (by rw[Ks,a3.f,v.f,e.f];rfl)
      (by rw[Kn];exact(a3.p.less (aEg _) (ν _)).app (v.p.app (e.p.less (aEg _) (ν _)) (ν _) b2 dV) (ν _) dV dV)⟩
    ·cases h;obtain⟨b1,b2,v⟩:=ih .block _ _ E c;obtain⟨a1,a2,a3⟩:=ih .expr _ _ b b1;simp[bc] at a2
     exact⟨(fW a).1,dV,sg (by simp[wf,cL,Task.cl];exact⟨a3.w,v.w,(Jq 0 0 0 (.inr rfl)).w⟩) (fW a).2 rfl aA (by rw[Ks,a3.f,v.f,(Jq l.length 0 0 (.inr rfl)).f];rfl)
      (by rw[Kn];exact(a3.p.less (aEg _) (ν _)).app (v.p.app ((Jq l.length y.2.at_ y.2.at_ (.inr rfl)).p) (ν _) b2 (ν _)) (ν _) dV b2)⟩
   split at h
   ·rename_i a;obtain⟨x,b,h⟩:=al h;obtain⟨y,E,h⟩:=al h;cases h;obtain⟨b1,b2,v⟩:=ih .block _ _ E c;obtain⟨a1,a2,a3⟩:=ih .expr _ _ b b1;simp[bc] at a2
    exact⟨(fW a).1,dV,sg (by simp[wf,cL,Task.cl];exact⟨a3.w,v.w⟩) (fW a).2 rfl aA (by rw[R1,a3.f,v.f];rfl)
     (by rw[R0];exact(a3.p.less (aEg _) (ν _)).app v.p (ν _) dV b2)⟩
   have d:∀k x,k=11\/k=12\/k=13->∀I:PS,P l n .expr I=some x->r=(hX (.mk k s.at_ 0 [] 0 [x.1]) (cB l [59] x.2).at_,cB l [59] x.2)->s.at_<=I.at_->(I.err=none->s.at_<l.length/\s.err=none)->s.err=none/\s.at_<=r.2.at_/\Gd l.length s.at_ r.2.at_ .stmt r.1:=by rintro k x C I b rfl V M;obtain⟨G,J,_⟩:=ma c;obtain⟨D,c2,e⟩:=ih .expr _ _ b G;refine⟨(M D).2,dV,?_⟩;show Gd l.length s.at_ _ .stmt (.mk k s.at_ _ [] 0 [x.1]);have K:k≠7:=aa;refine sg (by simp[wf,cL,K,C];exact e.w) (M D).1 ?_ ⟨aa,by rcases C with rfl|rfl|rfl<;>rfl⟩ (by rw[Dx];exact e.f) (by rw[zr];exact e.p.less V dV);rcases C with rfl|rfl|rfl<;>rfl
   split at h
   ·rename_i a;obtain⟨x,b,h⟩:=al h;simp at h;exact d 11 x dV _ b h.symm (aEg _) (λ_=>⟨(fW a).2,(fW a).1⟩)
   split at h
   ·rename_i a;obtain⟨x,b,h⟩:=al h;simp at h;exact d 12 x dV _ b h.symm (aEg _) (λ_=>⟨(fW a).2,(fW a).1⟩)
   split at h
   ·obtain⟨x,b,h⟩:=al h;cases h;obtain⟨G,J,_⟩:=ma c;obtain⟨D,c2,e⟩:=ih .expr _ _ b G;obtain⟨b1,b2,_⟩:=ma D;obtain⟨g,j,w,A⟩:=rH b1;rw[A] at b2 c2 e⊢;simp only at b2 c2 e;refine⟨g,dV,?_⟩;show Gd l.length s.at_ _ .stmt (.mk 8 s.at_ _ w s.at_ [x.1]);exact F9 (by simp[wf,cL];exact e.w) j rfl (by rw[Dx];exact e.f) (ν _) dV (by rw[zr];exact e.p.less dV dV)
   ·obtain⟨x,b,h⟩:=al h;simp at h;refine d 13 x dV s b h.symm (ν _) (λU=>⟨?_,U⟩);have Q:=c;rw[<-h] at Q;obtain⟨G,J,d3⟩:=ma Q;obtain⟨D,c2,e⟩:=ih .expr _ _ b G;omega
end
structure Bi where
 at_:Nat
 k:Nat
 w:List UInt8
 item:Nat
structure Me where
 at_:Nat
 to:Option Nat
 wr:Bool
 bK:Nat
structure Mp where
 bs:List Bi
 ms:List Me
 bad:List (Nat×Nat)
inductive RN where
 |fu (lam:Bool)
 |nm (i:Nat)
def jh(bs:List Bi)(i:Nat)(w:List UInt8):Bool:=match bs[i]? with|some b=>decide (b.w=w)|none=>false
def tw(bs:List Bi)(w:List UInt8):List RN->Bool
 |[]=>false
 | .fu _::_=>false
 | .nm i::r=>jh bs i w||tw bs w r
def fz(m:Mp)(l:List RN)(n:Nd)(k item:Nat):Mp:=⟨m.bs++[⟨n.a,k,n.w,item⟩],m.ms,if tw m.bs n.w l then m.bad++[(n.a,31)] else m.bad⟩
def nQ(bs:List Bi)(w:List UInt8):List RN->Nat->Option (Nat×Nat)
 |[],_=>none
 | .fu lam::r,bK=>nQ bs w r (if lam then bK+1 else bK)
 | .nm i::r,bK=>if jh bs i w then some (i,bK) else nQ bs w r bK
def rV(bs:List Bi)(i:Nat):Nat:=match bs[i]? with|some b=>b.k|none=>0
def fg(m:Mp)(l:List RN)(n:Nd)(wr:Bool):Mp:=
 match nQ m.bs n.w l 0 with
 |none=>⟨m.bs,m.ms++[⟨n.a,none,wr,0⟩],m.bad++[(n.a,30)]⟩
 |some (i,bK)=>if 3<=rV m.bs i then⟨m.bs,m.ms++[⟨n.a,some i,wr,bK⟩],m.bad⟩ else⟨m.bs,m.ms++[⟨n.a,some i,wr,0⟩],if wr then m.bad++[(n.a,35)] else m.bad⟩
def iB(item:Nat):Mp->List RN->List Nd->Mp×List RN
 |m,l,[]=>(m,l)
 |m,l,n::r=>iB item (fz m l n 3 item) (.nm m.bs.length::l) r
mutual
def eP(item:Nat)(m:Mp)(l:List RN)(n:Nd):Mp×List RN:=
 match n with
 | .mk k f t w a ks=>
  if k=23 then(fg m l (.mk k f t w a ks) false,l)
  else if k=28 then(kf item true m l ks,l)
  else
   let q:=dE item (if k=8 then fg m l (.mk k f t w a ks) true else m) (if k=6 then .fu false::l else l) ks
   if k=7 then(fz q.1 q.2 (.mk k f t w a ks) 4 item,.nm q.1.bs.length::q.2) else if k=6 then(q.1,l) else q
def dE(item:Nat)(m:Mp)(l:List RN)(ks:List Nd):Mp×List RN:=
 match ks with
 |[]=>(m,l)
 |n::r=>let q:=eP item m l n;dE item q.1 q.2 r
def kf(item:Nat)(lam:Bool)(m:Mp)(l:List RN)(ks:List Nd):Mp:=
 match ks with
 |[p,_,b]=>let q:=iB item m (.fu lam::l) p.ks;(eP item q.1 q.2 b).1
 |_=>m
end
def eh:Nat->Mp->List RN->List Nd->Mp×List RN
 |_,m,l,[]=>(m,l)
 |i,m,l,n::r=>if n.k=2 then eh (i+1) (fz m l n 1 i) (.nm m.bs.length::l) r else if n.k=3 then eh (i+1) (fz m l n 2 i) (.nm m.bs.length::l) r else eh (i+1) m l r
def hC(l:List RN):Nat->Mp->List Nd->Mp
 |_,m,[]=>m
 |i,m,n::r=>hC l (i+1) (if n.k=3 then kf i false m l n.ks else m) r
def jN(n:Nd):Mp:=let q:=eh 0 ⟨[],[],[]⟩ [] n.ks;hC q.2 0 q.1 n.ks
def lJ(m:Mp):List Nat:=m.bs.map (·.at_)++m.ms.map (·.at_)
def ajo(m)(l:List RN)(n:Nd)(k item:Nat):(lJ (fz m l n k item)).Perm (n.a::lJ m):=by simp only[lJ,fz,aF7,aEv,aFy,Λ];exact List.perm_middle
def afP(m)(l:List RN)(n:Nd)(wr:Bool):(lJ (fg m l n wr)).Perm (n.a::lJ m):=by
 have:∀x:Me,x.at_=n.a->(m.bs.map (·.at_)++(m.ms++[x]).map (·.at_)).Perm (n.a::lJ m):=by intro x b;simp[lJ,aF7,b];rw[<-List.append_assoc];exact(aFQ (l₁:=m.bs.map (·.at_)++m.ms.map (·.at_)) (l₂:=[n.a]))
 unfold fg;split
 ·exact this _ rfl
 ·split
  ·exact this _ rfl
  ·exact this _ rfl
def Cl.lO:Cl->Bool
 | .item=>true
 |_=>false
def O2{c:Cl}(b:c.lO=false):∀{l:List Nd},eH c l=true->∀x∈l,∃c,Cl.lO c=false/\wf c x=true
 |[],_,x,a=>absurd a ah
 |n::r,h,x,a=>by
  simp[eH] at h;rcases Υ.1 a with rfl|a
  ·grind
  ·exact O2 b h.2 x a
def IM:∀{cs:List Cl} {l:List Nd},cs.all (λc=> !c.lO)=true->cL cs l=true->∀x∈l,∃c,Cl.lO c=false/\wf c x=true
 |_,[],_,_,x,a=>absurd a ah
 |[],n::r,_,h,x,a=>by simp[cL] at h
 |c::cs,n::r,b,h,x,a=>by
  simp[cL] at h;simp only[aEB,Ω,aFk] at b;rcases Υ.1 a with rfl|a
  ·grind
  ·exact IM b.2 h.2 x a
def O3{c}{k f t a}{w}{ks}(h:wf c (.mk k f t w a ks)=true):∀x∈ks,∃c,Cl.lO c=false/\wf c x=true:=by
 have d:∀{b:Bool} {c:Cl},(b&&eH c ks)=true->eH c ks=true:=λ{b c} h=>by rw[Ω] at h;exact h.2
 cases c<;>simp only[wf] at h;all_goals repeat' split at h
 all_goals first
  |exact O2 rfl h
  |exact IM rfl h
  |exact O2 rfl (d h)
  |cases h
def R3{c:Cl}(b:c.lO=false){f t a}{w}{ks}:wf c (.mk 2 f t w a ks)=false:=by
 cases c with
 |item=>cases b
 |_=>simp[wf]
def axz{c}{f t a}{w}{ks}(h:wf c (.mk 28 f t w a ks)=true):cL [.params,.opt,.block] ks=true:=by cases c<;>simp[wf] at h;exact h
def asv{ks}(h:cL [.params,.opt,.block] ks=true):∃p t b,ks=[p,t,b]/\wf .params p=true/\wf .opt t=true/\wf .block b=true:=by
 match ks,h with
 |[p,t,b],h=>simp[cL,aFF] at h;exact⟨p,t,b,rfl,h.1,h.2.1,h.2.2⟩
 |[],h=>simp[cL] at h
 |[_],h=>simp[cL] at h
 |[_,_],h=>simp[cL] at h
 |_::_::_::_::_,h=>simp[cL] at h
def ahF{p:Nd}(h:wf .params p=true):eH .param p.ks=true/\pl p=dq p.ks:=by
 obtain⟨k,f,t,w,a,ks⟩:=p;simp only[wf] at h;split at h
 ·rename_i b;subst b;exact⟨h,by simp[pl,lW,qd,Nd.ks]⟩
 ·cases h
def ajp{p:Nd}(h:wf .param p=true):p.k=5:=by
 obtain⟨k,f,t,w,a,ks⟩:=p;simp only[wf] at h;split at h
 ·rename_i b;exact b
 ·cases h
def aBu{n:Nd}(h:lW n.k=true):∃q,pl n=n.a::q:=by
 obtain⟨k,f,t,w,a,ks⟩:=n;simp[Nd.k] at h;have:k≠2:=by rintro rfl;cases h
 exact⟨dq ks,by simp[pl,h,this,Nd.a]⟩
def Ev(m m':Mp)(p:List Nat):Prop:=∃q,q.Sublist p/\(lJ m').Perm (q++lJ m)
def Ev.refl(m)(p):Ev m m p:=⟨[],aGQ p,.refl _⟩
def Ev.trans{m m1 a}{p b}(h:Ev m m1 p)(d:Ev m1 a b):Ev m a (p++b):=by obtain⟨q,g,e⟩:=h;obtain⟨c,h3,f⟩:=d;refine⟨q++c,g.append h3,f.trans ((e.append_left c).trans ?_)⟩;rw[<-List.append_assoc];exact(aFQ).append_right _
def Ev.swap{m m1 a}{p b}(h:Ev m m1 b)(d:Ev m1 a p):Ev m a (p++b):=by obtain⟨q,g,e⟩:=h;obtain⟨c,h3,f⟩:=d;refine⟨c++q,h3.append g,f.trans ((e.append_left c).trans ?_)⟩;rw[<-List.append_assoc]
def Ev.less{m m1}{p a}(h:Ev m m1 p)(b:p.Sublist a):Ev m m1 a:=by obtain⟨q,d,c⟩:=h;exact⟨q,d.trans b,c⟩
def IQ(m)(l:List RN)(n:Nd)(k item:Nat):Ev m (fz m l n k item) [n.a]:=⟨[n.a],.refl _,ajo m l n k item⟩
def VJ(m)(l:List RN)(n:Nd)(wr:Bool):Ev m (fg m l n wr) [n.a]:=⟨[n.a],.refl _,afP m l n wr⟩
def Wm(item:Nat):∀ks m l,eH .param ks=true->Ev m (iB item m l ks).1 (dq ks)
 |[],m,l,_=>.refl m _
 |n::r,m,l,h=>by simp[eH] at h;simp[iB,dq];obtain⟨q,b⟩:=aBu (n:=n) (by rw[ajp h.1];rfl);refine Ev.trans ((IQ m l n 3 item).less ?_) (Wm item r _ _ h.2);rw[b];exact(aGQ q).cons_cons n.a
mutual
def Zr(item)(m)(l:List RN)(n:Nd)(c:Cl)(hc:c.lO=false)(h:wf c n=true):Ev m (eP item m l n).1 (pl n):=by
 match n with
 | .mk k f t w a ks=>
  rw[eP];by_cases nu:k=23
  ·subst nu;rw[μ rfl];refine(VJ m l _ false).less ?_;simp only[pl,lW,Nd.a];exact(aGQ _).cons_cons a
  rw[κ nu];by_cases nv:k=28
  ·subst nv;rw[μ rfl];have:=Wn item true m l ks (axz h);simpa[pl,lW,qd] using this
  rw[κ nv];have hk:=λm l=>Zs item m l ks (O3 h);simp only;by_cases h7:k=7
  ·subst h7;rw[μ rfl,κ aA,κ aA];have:=Ev.swap (hk m l) (IQ (dE item m l ks).1 (dE item m l ks).2 (.mk 7 f t w a ks) 4 item);simpa[pl,lW,Nd.a] using this
  rw[κ h7];by_cases h8:k=8
  ·subst h8;rw[μ rfl,κ aA,κ aA];have:=Ev.trans (VJ m l (.mk 8 f t w a ks) true) (hk (fg m l (.mk 8 f t w a ks) true) l);simpa[pl,lW,Nd.a] using this
  rw[κ h8];have hs:k≠2->(dq ks).Sublist (pl (.mk k f t w a ks)):=λh2=>by simp[pl];rw[κ (by simpa using h2)];exact List.sublist_append_right _ _
  have h2:k≠2:=by rintro rfl;rw[R3 hc] at h;cases h
  by_cases h6:k=6
  ·rw[μ h6,μ h6];exact(hk m _).less (hs h2)
  ·rw[κ h6,κ h6];exact(hk m _).less (hs h2)
def Zs(item)(m)(l)(ks:List Nd)(h:∀x∈ks,∃c,Cl.lO c=false/\wf c x=true):Ev m (dE item m l ks).1 (dq ks):=by
 match ks with
 |[]=>exact .refl m _
 |n::r=>rw[dE];simp[dq];obtain⟨c,hi,hc⟩:=h n Ρ;exact Ev.trans (Zr item m l n c hi hc) (Zs item _ _ r λx hx=>h x (Κ _ hx))
def Wn(item)(lam)(m)(l)(ks:List Nd)(h:cL [.params,.opt,.block] ks=true):Ev m (kf item lam m l ks) (dq ks):=by
 match ks with
 |[p,t,b]=>rw[kf];obtain⟨p',t',b',e,h1,h2,h3⟩:=asv h;simp at e;obtain⟨rfl,rfl,rfl⟩:=e;obtain⟨h4,h5⟩:=ahF h1;simp[dq];refine Ev.trans (m1:=(iB item m (.fu lam::l) p.ks).1) ?_ ((Zr item _ _ b .block rfl h3).less (List.sublist_append_right _ _));rw[h5];exact Wm item p.ks m _ h4
 |[]=>exact .refl m _
 |[_]=>exact .refl m _
 |[_,_]=>exact .refl m _
 |_::_::_::_::_=>exact .refl m _
end
def Dd:List Nd->List Nat
 |[]=>[]
 |n::r=>(if n.k=2\/n.k=3 then[n.a] else[])++Dd r
def Dy:List Nd->List Nat
 |[]=>[]
 |n::r=>(if n.k=3 then dq n.ks else[])++Dy r
def IU:∀i m l ks,Ev m (eh i m l ks).1 (Dd ks)
 |_,m,l,[]=>.refl m _
 |i,m,l,n::r=>by
  rw[eh,Dd];by_cases a:n.k=2
  ·rw[μ a,μ (.inl a)];exact Ev.trans (IQ m l n 1 i) (IU _ _ _ r)
  ·rw[κ a];by_cases h3:n.k=3
   ·rw[μ h3,μ (.inr h3)];exact Ev.trans (IQ m l n 2 i) (IU _ _ _ r)
   ·rw[κ h3,bM];exact IU _ _ _ r
def asw{n:Nd}(h:wf .item n=true)(h3:n.k=3):cL [.params,.opt,.block] n.ks=true:=by obtain⟨k,f,t,w,a,ks⟩:=n;simp[Nd.k] at h3;subst h3;show cL [.params,.opt,.block] ks=true;simpa[wf] using h
def O4(l:List RN):∀i m ks,eH .item ks=true->Ev m (hC l i m ks) (Dy ks)
 |_,m,[],_=>.refl m _
 |i,m,n::r,h=>by
  simp[eH] at h;rw[hC,Dy];by_cases h3:n.k=3
  ·rw[μ h3,μ h3];exact Ev.trans (Wn i false m l n.ks (asw h.1 h3)) (O4 l _ _ r h.2)
  ·rw[κ h3,κ h3];exact O4 l _ _ r h.2
def VK:∀ks:List Nd,eH .item ks=true->(Dd ks++Dy ks).Perm (dq ks)
 |[],_=>.refl _
 |n::r,h=>by
  simp[eH] at h
  have c:(if n.k=2\/n.k=3 then[n.a] else[])++(if n.k=3 then dq n.ks else[])=pl n:=by
   obtain⟨k,f,t,w,a,ks⟩:=n;have b:=h.1;simp only[wf] at b;simp only[Nd.k,Nd.a,Nd.ks,pl];split at b
   ·grind
   ·split at b
    ·rename_i h2 h3;simp[h3,lW]
    ·cases b
  simp only[Dd,Dy,dq];rw[<-c];generalize(if n.k=2\/n.k=3 then[n.a] else[])=A;generalize(if n.k=3 then dq n.ks else[])=D;refine List.Perm.trans ?_ ((VK r h.2).append_left (A++D));rw[Λ,Λ];refine List.Perm.append_left A ?_;rw[<-List.append_assoc,<-List.append_assoc];exact(aFQ).append_right _
def afQ{L lo hi:Nat}{n:Nd}(h:od L lo hi .item n.ks):(lJ (jN n)).Nodup/\∀a∈lJ (jN n),lo<=a/\a<hi:=by
 obtain⟨q,j,g⟩:=IU 0 ⟨[],[],[]⟩ [] n.ks;obtain⟨b,h3,i⟩:=O4 (eh 0 ⟨[],[],[]⟩ [] n.ks).2 0 (eh 0 ⟨[],[],[]⟩ [] n.ks).1 n.ks h.w;have c:(lJ (jN n)).Perm (q++b):=by refine i.trans ((g.append_left b).trans ?_);simp[lJ];exact aFQ
 have d:(q++b).Sublist (Dd n.ks++Dy n.ks):=j.append h3;have e:=VK n.ks h.w;have l:(dq n.ks).Nodup:=h.p.pw.imp λk=>Nat.ne_of_lt k;refine⟨c.nodup_iff.2 ((e.nodup_iff.2 l).sublist d),λa f=> ?_⟩;exact h.p.bd a (e.subset (d.subset (c.subset f)))
set_option maxRecDepth 100000
def QM:List FuncId:=[180,181,182,183,184,185,186,187,220,221,222,223,224,241,242,243,244,245,259,260,261,269,270,273,276,282,288,144,101,67,145,198,230,229,201,158,199,200,231,247,248,262,249,263,271,274,277,283,289,111,73,159]
def amL:List FuncId:=[100,145,101,67,110,159,111,73,201]
def ioP:List FuncId:=[180,181,182,184,185,186,187,220,222,223,224,241,243,244,245,259,260,261,269,273,276,282,288,144,198,230,229,158,199,200,231,247,248,262,249,263,271,274,277,283,289]
noncomputable def ak:Env:={P:=prog,G:=λf=>QM.contains f,cl:=λf=>amL.contains f,fq:=λ_=>false,dyn:=λi=>[1,3,5,6,7,8,24,35].contains i,df:=λ_=>false,ext:=Km,io:=λf=>ioP.contains f}
def amM:QM.all (okF ak)=true:=af
def axA:ak.P=prog:=(rfl)
def asx:ak.dyn 1=true:=(rfl)
def asy:ak.dyn 2=false:=(rfl)
def asz:ak.dyn 3=true:=(rfl)
def asA:ak.dyn 4=false:=(rfl)
def asB:ak.dyn 5=true:=(rfl)
def asC:ak.dyn 6=true:=(rfl)
def asD:ak.dyn 7=true:=(rfl)
def asE:ak.dyn 8=true:=(rfl)
def amN:ak.dyn 24=true:=(rfl)
def amO:ak.dyn 35=true:=(rfl)
def axB(l):ak.any l=false:=(rfl)
def asF:ak.fq=λ_=>false:=(rfl)
attribute [go_sem] axA axB asF asx asy asz asA asB asC asD asE amN amO
mutual
def aw:Nd->AV
 | .mk k f t w a ks=>.agg [.i k,.i f,.i t,.str w,.i a,.vec (if ks.isEmpty then .nil else .ro) (br ks)]
def br:List Nd->List AV
 |[]=>[]
 |n::r=>aw n::br r
end
def aB(n:Nd):List AV:=(aw n).cells
def uc(n):aw n=.agg (aB n):=by cases n;rfl
def sM(n):(aw n).width=some 6:=by cases n;rfl
def yj(n):(aw n).cells=aB n:=rfl
def bL:∀l:List Nd,(br l).length=l.length
 |[]=>rfl
 |_::r=>by simp[br,bL r]
def tY:∀l m:List Nd,br (l++m)=br l++br m
 |[],_=>rfl
 |_::r,m=>by simp[br,tY r m]
mutual
def iL(n):(aw n).aq=true:=by
 match n with
 | .mk k f t w a ks=>have:=nK ks;cases ks<;>simp[aw,AV.aq,AV.aq.go,this]
def nK(l):AV.aq.go (br l)=true:=by
 match l with
 |[]=>rfl
 |n::r=>show((aw n).aq&&AV.aq.go (br r))=true;rw[iL n,nK r];rfl
end
def pP(n):(aw n).erase=aw n:=by
 cases n with
 |mk k f t w a ks=>cases ks<;>rfl
def IV(n):(aB n).length=6:=by cases n;rfl
def XL(n):(aB n).map AV.bare=aB n:=by
 cases n with
 |mk k f t w a ks=>cases ks<;>rfl
def yA(n):eo (aB n)=true:=by cases n;rfl
def ajq(n):(aB n).take 6=aB n:=by cases n;rfl
def acH(n:Nd):(aB n)[1]? =some (.i n.f):=by cases n;rfl
def qB(l):cQ 6 (br l):=by
 induction l with
 |nil=>intro e a;cases a
 |cons n r ih=>
  intro e a;simp[br] at a;rcases a with rfl|a
  ·exact sM n
  ·exact ih e a
def yB(n)(r):AV.aq.go (aw n::r)=AV.aq.go r:=amk (iL n) r
attribute [go_sem] sM yj iL nK pP IV XL yA ajq acH yB
def Bm:Option Nat->Int|none=>0|some _=>24
def mj:Option Nat->Int|none=>0|some b=>(b:Int)
def pc(l:List Tok)(s:PS):List AV:=[.vec .ro (V l),.i s.at_,.i (Bm s.err),.i (mj s.err)]
def AD(l)(s):(pc l s).map AV.bare=pc l s:=rfl
def iD(l)(s):AV.aq.go (pc l s)=true:=by show((AV.aq.go (V l))&&true)=true;rw[zo];rfl
def asG(l)(s):(pc l s).length=4:=rfl
def FO(l)(s)(p):pc l s≠[.ptr p 0]:=by simp[pc]
def aBv(l)(s:PS):(pc l s)[0]? =some (.vec .ro (V l)):=rfl
def aBw(l)(s:PS):(pc l s)[1]? =some (.i s.at_):=rfl
def aBx(l)(s:PS):(pc l s)[2]? =some (.i (Bm s.err)):=rfl
def asH(l)(s s')(h:pc l s=pc l s'):s=s':=by obtain⟨a,e⟩:=s;obtain⟨a',e'⟩:=s';simp[pc] at h;obtain⟨h1,h2,h3⟩:=h;have:a=a':=aa;subst this;cases e<;>cases e'<;>simp_all [Bm,mj];omega
def axC(l)(s:PS)(n:Nat):eg (pc l s) 1 [.i n]=pc l ⟨n,s.err⟩:=rfl
def amP(l)(s:PS):eg (eg (pc l s) 2 [.i 24]) 3 [.i s.at_]=pc l ⟨s.at_,some s.at_⟩:=rfl
def amQ(l)(s)(x):(eg (pc l s) 2 [x]).length=4:=rfl
def amR(e:Option Nat):(Bm e==0)=e.isNone:=by cases e<;>rfl
def amS(e:Option Nat):(Bm e != 0)=e.isSome:=by cases e<;>rfl
attribute [go_sem] AD iD asG aBv aBw aBx axC amP amQ amR amS
def pg(l:List Tok)(p:Option TypeId×PS):Option bB:=some (.cells p.1 (pc l p.2))
def asI(l)(a b:Option TypeId×PS)(h:pg l a=pg l b):a=b:=by simp[pg,bB.cells.injEq] at h;exact Prod.ext h.1 (asH l _ _ h.2)
def onP{A:Type}(l)(te)(s)(k:Option TypeId×PS->A)(d:A):ia (pg l) (some (.c te (pc l s))) k d=k (te,s):=CQ (asI l) (te,s) k d
attribute [go_sem] onP
def O5{l}{f}(args:List AV){a:PS->AV}{fs:PS->PS}(b:ak.cl f=false)(e:ak.io f=true)(c:AV.aq.go (args.map AV.erase)=true)(h:∀s,Io ak f (args.map AV.erase) (pc l s) (a s) (pc l (fs s)))(i:Nat)(H:ab):
  bu ak f (.ptr i 0::args) H=ia (pg l) (H.get i) (λp=>some (a p.2,H.set i (.cells p.1 (pc l (fs p.2))))) (bu ak f (.ptr i 0::args) H):=
 rI λs d=>sQ b e rfl c (FO l s.2) (AD l s.2) (iD l s.2) d (h s.2)
def E3{l}{f}(args:List AV){a:PS->AV}(c:ak.cl f=false)(e:ak.io f=true)(d:AV.aq.go (args.map AV.erase)=true)(h:∀s,Io ak f (args.map AV.erase) (pc l s) (a s) (pc l s))(i:Nat)(H:ab):
  dD ak (run ak) (.fn (.func f) [] []) (.ptr i 0::args) H=ia (pg l) (H.get i) (λp=>some (a p.2,H)) (dD ak (run ak) (.fn (.func f) [] []) (.ptr i 0::args) H):=
 rI λs b=>by
  rw[sQ c e rfl d (FO l s.2) (AD l s.2) (iD l s.2) b (h s.2)]
  have:H.set i (.cells s.1 (pc l s.2))=H:=by
   have hg:cg H.jo i=some (.cells s.1 (pc l s.2)):=by
    have:=b;unfold ab.get at this;split at this
    ·exact this
    ·cases this
   unfold ab.set;rw[qA _ _ _ hg]
  rw[this]
def Zt:∀l:List Tok,il (V l) (V l)=true
 |[]=>by simp[V,il]
 |x::r=>by show il (mP x::V r) (mP x::V r)=true;rw[rK,Zt r,mP,PJ,rK,rK,rK,rK,sX,sX,Fj,Fj,PK];rfl
def aBy(l):dt (.vec .ro (V l)) (.vec .ro (V l))=true:=by simp[dt,yv,Zt]
attribute [go_sem] aBy
def uw(o)(l:List Tok):gB prog #[68] [.vec o (V l)]=some (.i l.length):=by rw[Zi,FM]
def uU{l}{i:Nat}{x:Tok}(h:l[i]? =some x):dW prog 68 (.vec .ro (V l)) (.i i)=some (.rptr [.i x.1,.i x.2.1,.str x.2.2.1,.str x.2.2.2]):=by
 have:(V l)[i]? =some (mP x):=by simp[V,h]
 simp[dW,P1,Jp,AV.width,AV.cells,this,mP]
def ahG{l}{s:PS}{x}(h:l[s.at_]? =some x):fC l s=x:=by simp[fC,h]
def EO{l}{s:PS}(h:l[s.at_]? =none):fC l s=(0,0,[],[]):=by simp[fC,h]
def asJ(l:List Tok)(s:PS):Io ak 181 [] (pc l s) (mP (fC l s)) (pc l s):=by
 refine fX rfl rfl func181 rfl aA (λte=> ?_) rfl (iD l s);by_cases h:s.at_<l.length
 ·obtain⟨x,b⟩:=fo h;have a:=bH ((s.at_:Int)<(l.length:Int));rw[ahG b];simp only[go_sem,seval,uw,a,uU b,results181]<;>rfl
 ·have a:=bU ((s.at_:Int)<(l.length:Int));rw[EO (aEh aa)];simp only[go_sem,seval,uw,a,results181]<;>rfl
section
variable {l:List Tok}
def kT(i)(H:ab):bu ak 181 [.ptr i 0] H=ia (pg l) (H.get i) (λp=>some (mP (fC l p.2),H)) (bu ak 181 [.ptr i 0] H):=E3 [] rfl rfl rfl (asJ l) i H
def amT(s):Io ak 186 [.i 24] (pc l s) (.tup []) (pc l (jA s)):=by
 refine fX rfl rfl func186 rfl aA (λte=> ?_) rfl (iD l _);obtain⟨a,e⟩:=s
 cases e with
 |none=>simp only[go_sem,seval,ψ,results186]<;>rfl
 |some b=>simp only[go_sem,seval,ap2,results186]<;>rfl
def Fo(i)(H:ab):bu ak 186 [.ptr i 0,.i 24] H=ia (pg l) (H.get i) (λp=>some (.tup [],H.set i (.cells p.1 (pc l (jA p.2))))) (bu ak 186 [.ptr i 0,.i 24] H):=O5 [.i 24] rfl rfl rfl amT i H
def J2(t:Tok)(x:List UInt8):Bool:=(decide (t.1=2)||decide (t.1=5))&&decide (t.2.2.2=x)
def amU(s:PS)(x:List UInt8):dH l s x=J2 (fC l s) x:=rfl
def kN(t):mP t=.agg [.i t.1,.i t.2.1,.str t.2.2.1,.str t.2.2.2]:=rfl
def axD(x:List UInt8)(s:PS):Io ak 182 [.str x] (pc l s) (.bool (dH l s x)) (pc l s):=by
 refine fX rfl rfl func182 rfl (by rw[ntmps182];simp) (λte=> ?_) rfl (iD l s);rw[amU];generalize d:fC l s=t;obtain⟨k,a,b,y⟩:=t;have e:((k:Int)==2)=decide (k=2):=dF k 2;have c2:((k:Int)==5)=decide (k=5):=dF k 5;have f:jM .eql y x=some (.bool (decide (y=x))):=by simp[jM,aGo]
 by_cases c:k=2
 ·subst c;simp[go_sem,kT (l:=l),d,kN,f,J2,decide_true,results182]<;>rfl
 ·rw[ξ c] at e
  cases h2:decide (k=5) with
  |true=>rw[h2] at c2;simp[go_sem,kT (l:=l),d,kN,e,c2,f,J2,ξ c,h2,results182]<;>rfl
  |false=>rw[h2] at c2;simp[go_sem,kT (l:=l),d,kN,e,c2,J2,ξ c,h2,results182]<;>rfl
def F_(x)(i)(H:ab):bu ak 182 [.ptr i 0,.str x] H=ia (pg l) (H.get i) (λp=>some (.bool (dH l p.2 x),H)) (bu ak 182 [.ptr i 0,.str x] H):=E3 [.str x] rfl rfl rfl (axD x) i H
def asK{s:PS}{x}(h:dH l s x=true):s.at_<l.length:=by
 by_cases a:s.at_<l.length
 ·exact a
 ·rw[dH,EO (aEh aa)] at h;simp at h
def mh{n:Nat}(h:n<=1000000000):IntKind.i64.wrap ((n:Int)+1)=((n+1:Nat):Int):=by rw[aEC _ (by omega)];omega
def amV(hl:l.length<=4000)(x)(s):Io ak 241 [.str x] (pc l s) (.bool (aZ l s x)) (pc l (mQ l s x)):=by
 refine fX rfl rfl func241 rfl (by rw[ntmps241];simp) (λte=> ?_) rfl (iD l _)
 cases he:s.err with
 |some b=>
  have a:aZ l s x=false:=by simp[aZ,he]
  simp[go_sem,he,aEf,results241,a,mQ,υ]<;>rfl
 |none=>
  cases hi:dH l s x with
  |false=>
   have a:aZ l s x=false:=by simp[aZ,he,hi]
   simp[go_sem,he,Β,F_ (l:=l),hi,χ,results241,a,mQ,υ]<;>rfl
  |true=>
   have a:aZ l s x=true:=by simp[aZ,he,hi]
   have c:=mh (n:=s.at_) (by have:=asK hi;omega);simp only[go_sem,seval,he,Β,F_ (l:=l),hi,ω,c,results241,a,mQ,bc]<;>rfl
def fj(a:l.length<=4000)(x)(i)(H:ab):bu ak 241 [.ptr i 0,.str x] H=ia (pg l) (H.get i) (λp=>some (.bool (aZ l p.2 x),H.set i (.cells p.1 (pc l (mQ l p.2 x))))) (bu ak 241 [.ptr i 0,.str x] H):=O5 [.str x] rfl rfl rfl (amV a x) i H
def amW(a:l.length<=4000)(x)(s):Io ak 220 [.str x] (pc l s) (.tup []) (pc l (cB l x s)):=by
 refine fX rfl rfl func220 rfl (by rw[ntmps220];simp) (λte=> ?_) rfl (iD l _)
 cases hp:aZ l s x with
 |true=>simp[go_sem,fj a,hp,mQ,cB,ω,results220]<;>rfl
 |false=>simp[go_sem,fj a,Fo (l:=l),hp,mQ,cB,χ,υ,results220]<;>rfl
def lP(a:l.length<=4000)(x)(i)(H:ab):bu ak 220 [.ptr i 0,.str x] H=ia (pg l) (H.get i) (λp=>some (.tup [],H.set i (.cells p.1 (pc l (cB l x p.2))))) (bu ak 220 [.ptr i 0,.str x] H):=O5 [.str x] rfl rfl rfl (amW a x) i H
def amX(k)(s:PS):Io ak 180 [.i k] (pc l s) (.agg [.i k,.i s.at_,.i 0,.str [],.i 0,.vec .nil []]) (pc l s):=by refine fX rfl rfl func180 rfl (by rw[ntmps180];simp) (λte=> ?_) rfl (iD l _);simp[go_sem,aQ,eg,results180]<;>rfl
def gg(k)(i)(H:ab):bu ak 180 [.ptr i 0,.i k] H=ia (pg l) (H.get i) (λp=>some (.agg [.i k,.i p.2.at_,.i 0,.str [],.i 0,.vec .nil []],H)) (bu ak 180 [.ptr i 0,.i k] H):=E3 [.i k] rfl rfl rfl (amX k) i H
def amY(k f t a)(w)(o:Ab.Own)(es)(c:o.bare=o)(b:AV.aq (.vec o es)=true)(s:PS):Io ak 187 [.agg [.i k,.i f,.i t,.str w,.i a,.vec o es]] (pc l s) (.agg [.i k,.i f,.i s.at_,.str w,.i a,.vec o es]) (pc l s):=by refine fX rfl rfl func187 rfl (by rw[ntmps187];simp) (λte=> ?_) (by simp[AV.aq,AV.aq.go] at b⊢;exact b) (iD l _);simp[go_sem,eg,aFa,aFB,aFb,aEQ,List.drop_nil,aE9,Ο,results187,c]
def Og(o:Ab.Own):o.bare.bare=o.bare:=by cases o<;>rfl
def fG(k f t a)(w)(o:Ab.Own)(es)(b:AV.aq.go es=true)(i)(H:ab):bu ak 187 [.ptr i 0,.agg [.i k,.i f,.i t,.str w,.i a,.vec o es]] H=
  ia (pg l) (H.get i) (λp=>some (.agg [.i k,.i f,.i p.2.at_,.str w,.i a,.vec o.bare es],H)) (bu ak 187 [.ptr i 0,.agg [.i k,.i f,.i t,.str w,.i a,.vec o es]] H):=by
 have hb:AV.aq (.vec o.bare es)=true:=by cases o<;>simp[Own.bare,AV.aq,b]
 refine E3 [.agg [.i k,.i f,.i t,.str w,.i a,.vec o es]] rfl rfl ?_ (λs=>amY k f t a w o.bare es (Og o) hb s) i H;show(AV.aq (.agg [.i k,.i f,.i t,.str w,.i a,.vec o.bare es])&&true)=true;simp[AV.aq,AV.aq.go] at hb⊢;exact hb
end
set_option maxRecDepth 100000
structure NC where
 te:Option TypeId
 a0:AV
 a1:AV
 a2:AV
 a3:AV
 a4:AV
 o:Ab.Own
 es:List AV
def ng(n:NC):Option bB:=some (.cells n.te [n.a0,n.a1,n.a2,n.a3,n.a4,.vec n.o n.es])
def asL(a b:NC)(h:ng a=ng b):a=b:=by obtain⟨_,_,_,_,_,_,_,_⟩:=a;obtain⟨_,_,_,_,_,_,_,_⟩:=b;simp[ng,bB.cells.injEq] at h;simp[NC.mk.injEq];exact h
def onN{A:Type}(te)(a0 a1 a2 a3 a4)(o)(es:List AV)(k:NC->A)(d:A):ia ng (some (.c te [a0,a1,a2,a3,a4,.vec o es])) k d=k ⟨te,a0,a1,a2,a3,a4,o,es⟩:=CQ asL ⟨te,a0,a1,a2,a3,a4,o,es⟩ k d
attribute [go_sem] onN
def J3{H:ab}{q}{tn}{a0 a1 a2 a3 a4}{o o2}{es xs:List AV}(h:H.get q=some (.cells tn [a0,a1,a2,a3,a4,.vec o es]))(hg:cY H 71 o es.length)(l:cQ 6 es)(w:cQ 6 xs)(x:xs≠[])(hb:es.length+xs.length<=1000000000):
  ∃j H1,dD ak (run ak) (.fn (.func 183) [] []) [.ptr q 0,.vec o2 xs] H=some (.tup [],H1)/\H1.get q=some (.cells tn [a0,a1,a2,a3,a4,.vec (.own j) (es++xs)])/\cY H1 71 (.own j) (es++xs).length/\H.next<=H1.next/\∀i te cs,i≠q->H.get i=some (.c te cs)->H1.get i=some (.c te cs):=by
 obtain⟨m,L⟩:=H;obtain⟨s,t⟩:=ai.1 h;obtain⟨j,⟨m',u⟩,e,g,k,_⟩:=Ch pS (m:=λ_=>false) rfl (o2:=o2) hg l w x aa aa;obtain⟨b,d⟩:=ai.1 (k.2 _ _ _ h);rw[qz rfl rfl]
 suffices hh:∃r,run ak 183 [.ptr q 0,.vec o2 xs] ⟨m,L⟩=some r/\r=(.tup [],(⟨m',aH u q (.cells tn [a0,a1,a2,a3,a4,.vec (.own j) (es++xs)])⟩:ab)) by
  obtain⟨r,p,rfl⟩:=hh;refine⟨j,_,p,ai.2 ⟨b,by rw[aR,μ rfl,d];rfl⟩,g.cj λi n hi=> ?_,k.1,λi te cs hi v=> ?_⟩
  ·obtain⟨f,a⟩:=ai.1 hi;refine ai.2 ⟨f,?_⟩;rw[aR,κ (by rintro rfl;rw[d] at a;cases a)];exact a
  ·obtain⟨f,a⟩:=ai.1 (k.2 _ _ _ v);exact ai.2 ⟨f,by rw[aR,κ (λe=>hi e.symm)];exact a⟩
 refine fM rfl rfl func183 rfl (by rw[ntmps183];simp) ?_;simp only[go_sem,seval,ο s,aC t,cG,e,ο b,aC d,d,results183];exact⟨_,rfl,rfl⟩
def axE{H:ab}{q}{tn}{a0 a1 a2 a3 a4}{o2}{xs:List AV}(b:H.get q=some (.cells tn [a0,a1,a2,a3,a4,.vec .nil []]))(e:cQ 6 xs)(f:xs≠[])(hb:xs.length<=1000000000):
  dD ak (run ak) (.fn (.func 183) [] []) [.ptr q 0,.vec o2 xs] H=some (.tup [],(H.push (.bQ xs.length 71)).set q (.cells tn [a0,a1,a2,a3,a4,.vec (.own H.next) xs])):=by
 obtain⟨m,L⟩:=H;obtain⟨c,a⟩:=ai.1 b;have d:=bf (q<m+1);have z4:=dJ (m=q);rw[qz rfl rfl];refine ow rfl rfl func183 rfl (by rw[ntmps183];simp) ?_;simp[go_sem,ο c,aC a,cG,(append_nil pS (m:=λ_=>false) rfl (H:=⟨m,L⟩) (o2:=o2) e f aa aa),d,z4,a,results183]
def axF{H:ab}{q j}{tn}{a0 a1 a2 a3 a4}{o2}{es xs:List AV}(f:H.get q=some (.cells tn [a0,a1,a2,a3,a4,.vec (.own j) es]))(c:H.get j=some (.bQ es.length 71))(d:cQ 6 es)(i:cQ 6 xs)(hb:es.length+xs.length<=1000000000):
  dD ak (run ak) (.fn (.func 183) [] []) [.ptr q 0,.vec o2 xs] H=some (.tup [],(H.set j (.bQ (es.length+xs.length) 71)).set q (.cells tn [a0,a1,a2,a3,a4,.vec (.own j) (es++xs)])):=by
 obtain⟨m,L⟩:=H;obtain⟨g,a⟩:=ai.1 f;obtain⟨GN,e⟩:=ai.1 c;have b:j≠q:=by rintro rfl;rw[e] at a;cases a
 have z4:eF (aH L j (.bQ (es.length+xs.length) 71)) q=some [a0,a1,a2,a3,a4,.vec (.own j) es]:=by rw[eF,aR,κ b,a]
 have h:cg (aH L j (.bQ (es.length+xs.length) 71)) q=some (.cells tn [a0,a1,a2,a3,a4,.vec (.own j) es]):=by rw[aR,κ b,a]
 rw[qz rfl rfl];refine ow rfl rfl func183 rfl (by rw[ntmps183];simp) ?_;simp[go_sem,ο g,aC a,cG,(HG pS (m:=λ_=>false) (o2:=o2) c d i aa aa),z4,h,results183]
structure N0 where
 te:Option TypeId
 a0:AV
 a1:AV
 a2:AV
 a3:AV
 a4:AV
def GO(n:N0):Option bB:=some (.cells n.te [n.a0,n.a1,n.a2,n.a3,n.a4,.vec .nil []])
def amZ(a b:N0)(h:GO a=GO b):a=b:=by obtain⟨_,_,_,_,_,_⟩:=a;obtain⟨_,_,_,_,_,_⟩:=b;simp[GO,bB.cells.injEq] at h;simp[N0.mk.injEq];exact h
def aBz{A:Type}(te)(a0 a1 a2 a3 a4)(k:N0->A)(d:A):ia GO (some (.c te [a0,a1,a2,a3,a4,.vec .nil []])) k d=k ⟨te,a0,a1,a2,a3,a4⟩:=CQ amZ ⟨te,a0,a1,a2,a3,a4⟩ k d
def qM(q)(o2)(xs:List AV)(b:cQ 6 xs)(c:xs≠[])(hb:xs.length<=5)(H:ab):bu ak 183 [.ptr q 0,.vec o2 xs] H=
  ia GO (H.get q) (λn=>some (.tup [],(H.push (.bQ xs.length 71)).set q (.cells n.te [n.a0,n.a1,n.a2,n.a3,n.a4,.vec (.own H.next) xs]))) (bu ak 183 [.ptr q 0,.vec o2 xs] H):=
 rI λn a=>axE a b c aa
structure NK where
 te:Option TypeId
 a0:AV
 a1:AV
 a2:AV
 a3:AV
 a4:AV
 j:Nat
def GP(es:List AV)(n:NK):Option bB:=some (.cells n.te [n.a0,n.a1,n.a2,n.a3,n.a4,.vec (.own n.j) es])
def am0(es)(a b:NK)(h:GP es a=GP es b):a=b:=by obtain⟨_,_,_,_,_,_,_⟩:=a;obtain⟨_,_,_,_,_,_,_⟩:=b;simp[GP,bB.cells.injEq,Own.own.injEq] at h;simp[NK.mk.injEq];exact h
def aBA{A:Type}(es:List AV)(te)(a0 a1 a2 a3 a4)(j)(k:NK->A)(d:A):ia (GP es) (some (.c te [a0,a1,a2,a3,a4,.vec (.own j) es])) k d=k ⟨te,a0,a1,a2,a3,a4,j⟩:=CQ (am0 es) ⟨te,a0,a1,a2,a3,a4,j⟩ k d
def Tq(c:Nat)(_:Unit):Option bB:=some (.bQ c 71)
def axG{A:Type}(c)(k:Unit->A)(d:A):ia (Tq c) (some (.bQ c 71)) k d=k ():=CQ (g:=Tq c) (λ_ _ _=>rfl) () k d
attribute [go_sem] aBz aBA axG
def QN(q)(o2)(es xs:List AV)(c)(e:es.length=c)(a:cQ 6 es)(f:cQ 6 xs)(hn:xs≠[])(hb:c+xs.length<=9)(H:ab):bu ak 183 [.ptr q 0,.vec o2 xs] H=
  ia (GP es) (H.get q) (λn=>ia (Tq c) (H.get n.j) (λ_=>some (.tup [],(H.set n.j (.bQ (c+xs.length) 71)).set q (.cells n.te [n.a0,n.a1,n.a2,n.a3,n.a4,.vec (.own n.j) (es++xs)])))
   (bu ak 183 [.ptr q 0,.vec o2 xs] H)) (bu ak 183 [.ptr q 0,.vec o2 xs] H):=by
 subst e;exact rI λn b=>rI λ_ d=>axF b d a f aa
def cQ.one(a):cQ 6 [aw a]:=qB [a]
def cQ.two(a b):cQ 6 [aw a,aw b]:=qB [a,b]
def cQ.three(a b c):cQ 6 [aw a,aw b,aw c]:=qB [a,b,c]
def Dz(t:Tok):List AV:=[.i t.1,.i t.2.1,.str t.2.2.1,.str t.2.2.2]
def dO(a:AV):Option (List UInt8×Nat)->AV|some (w,_)=>.str w|none=>a
def dN(a:AV):Option (List UInt8×Nat)->AV|some (_,p)=>.i p|none=>a
section
variable {l:List Tok}
def mM(hl:l.length<=4000)(i q:Nat)(H:ab):dD ak (run ak) (.fn (.func 221) [] []) [.ptr i 0,.ptr q 0] H=
  ia (pg l) (H.get i) (λp=>ia ng (H.get q) (λn=>some (.tup [],((H.push (.k 95 (Dz (fC l p.2)))).set q (.cells n.te [n.a0,n.a1,n.a2,dO n.a3 (cZ l p.2).1,dN n.a4 (cZ l p.2).1,.vec n.o n.es])).set i (.cells p.1 (pc l (cZ l p.2).2))))
   (dD ak (run ak) (.fn (.func 221) [] []) [.ptr i 0,.ptr q 0] H)) (dD ak (run ak) (.fn (.func 221) [] []) [.ptr i 0,.ptr q 0] H):=by
 refine rI λ⟨te,s⟩ B=>rI λ⟨tn,a0,a1,a2,a3,a4,o,es⟩ C=> ?_;obtain⟨m,L⟩:=H;simp[pg] at B;simp[ng] at C;obtain⟨G,g⟩:=ai.1 B;obtain⟨D5,d⟩:=ai.1 C;have E:i≠q:=by rintro rfl;rw[g] at d;simp only[Ζ,bB.cells.injEq,pc] at d;have:=Ι List.length d.2;simp at this
 have u:=bf (i<m+1);have D:=bf (q<m+1);have x:=dJ (m=i);have z4:=dJ (m=q);have F:(q=i)=False:=aGw (λe=>E e.symm);have r:=bf (m<m+1);have z:(i<m)=True:=ο G;have A:=aC g;rw[qz rfl rfl];refine ow rfl rfl func221 rfl (by rw[ntmps221];simp) ?_;generalize c:fC l s=t;obtain⟨k,a,b,y⟩:=t;have h:((k:Int) != 1)= !decide (k=1):=sf k 1;by_cases f:k=1
 ·rw[π f] at h
  have aO:s.at_<l.length:=by
   by_cases w:s.at_<l.length
   ·exact w
   ·rw[EO (aEh aa)] at c;cases c;cases f
  cases he:s.err with
  |none=>
   have j:cZ l s=(some (y,s.at_),bc s):=by simp[cZ,c,f,he]
   simp only[go_sem,seval,kT (l:=l),c,kN,u,D,x,z4,F,r,z,g,d,A,aC d,h,he,(mh (n:=s.at_) aa),j,aR,fV,f_,ψ,ω,dO,dN,bc,Dz,results221]
  |some e=>
   have j:cZ l s=(none,s):=by simp[cZ,c,f,he]
   have v:=qA L q _ d;simp only[go_sem,seval,kT (l:=l),c,kN,u,x,z4,r,z,g,A,h,he,j,v,qA L i _ g,ap2,ω,dO,dN,Dz,results221]
 ·rw[ξ f] at h;have hf:(jA s).err.isNone=false:=by unfold jA;cases w:s.err<;>simp[w]
  have j:cZ l s=(none,jA s):=by simp[cZ,c,f,hf]
  have v:=qA L q _ d;simp only[go_sem,seval,kT (l:=l),Fo (l:=l),c,kN,u,x,z4,r,z,g,h,j,hf,v,fV,χ,dO,dN,Dz,results221]
end
set_option maxRecDepth 100000
def DA(l:List Tok)(te:Option TypeId)(i:Nat)(K:ab->Prop)(c:AV)(one:PS->PR):Prop:=∀s r H,one s=some r->H.get i=some (.c te (pc l s))->K H->∃H1,dD ak (run ak) c [] H=some (aw r.1,H1)/\Up H i (.c te (pc l r.2)) H1
def Ci{l}{te}{i:Nat}{f:FuncId}{one:PS->PR}(b:ak.cl f=false)(a:ak.io f=true)(h:∀s r,one s=some r->Io ak f [] (pc l s) (aw r.1) (pc l r.2)):DA l te i (λ_=>True) (.fn (.func f) [.ptr i 0] []) one:=
 λs r H c hg _=>⟨_,sQ b a rfl rfl (FO l s) (AD l s) (iD l s) hg (h s r c),Up.set hg⟩
def O6{l}{tb te}{i b:Nat}{f:FuncId}{one:PS->PR}(d:ak.cl f=false)(m:ak.io f=true)(a:i≠b)(h:∀s r,one s=some r->Lz ak f (pc l s) (aw r.1) (pc l r.2)):DA l te i (λH=>H.get b=some (.cells tb [.ptr i 0])) (.fn (.func f) [] [.ptr b 0]) one:=by
 intro s r H k hg hb;refine⟨_,ajg d m a (AD l s) (iD l s) hb hg (h s r k),ν _,?_,λj y g c=> ?_⟩
 ·rw[ab.eE,κ (λe=>a e.symm),ab.eE,μ rfl,hg];rfl
 ·rw[ab.eE];split
  ·rename_i e;subst e;rw[hb] at c;cases c;rw[ab.eE,κ a,hb];rfl
  ·rw[ab.eE,κ (λe=>g e.symm)];exact c
structure qs(cs:List AV)(a:Nd):Prop where
 bare:cs.map AV.bare=aB a
 len:cs.length=6
 all:eo cs=true
 frm:cs[1]? =some (.i a.f)
def xf(a):qs (aB a) a:=⟨XL a,IV a,yA a,acH a⟩
def wC(k f t:Nat)(a b:Nd):List AV:=[.i k,.i f,.i t,.str [],.i 0,.vec .full [aw a,aw b]]
def De(k f t:Nat)(a b:Nd):qs (wC k f t a b) (.mk k f t [] 0 [a,b]):=⟨rfl,rfl,rfl,rfl⟩
def qs.take{cs:List AV}{a}(h:qs cs a):cs.take 6=cs:=aFq (by rw[h.len];exact ν _)
def qs.erase{cs}{a}(h:qs cs a):(AV.agg cs).erase=aw a:=by rw[sY,h.bare,uc]
def asM{c d}{a b}(e:qs c a)(f:qs d b)(H):dZ prog 69 2 [(0,.agg c),(1,.agg d)] H=some (.vec .full [aw a,aw b],H):=by simp[dZ,uo,rO,CS,mc,fF,lj,e.erase,f.erase,sM,yj,yA]
def aBB(a)(H):dZ prog 69 1 [(0,aw a)] H=some (.vec .full [aw a],H):=by simp[dZ,uo,rO,CS,mc,fF,lj,pP,sM,yj,yA]
def aBC(a b)(H):dZ prog 69 2 [(0,aw a),(1,aw b)] H=some (.vec .full [aw a,aw b],H):=by simp[dZ,uo,rO,CS,mc,fF,lj,pP,sM,yj,yA]
def aBD(a b c)(H):dZ prog 69 3 [(0,aw a),(1,aw b),(2,aw c)] H=some (.vec .full [aw a,aw b,aw c],H):=by simp[dZ,uo,rO,CS,mc,fF,lj,pP,sM,yj,yA]
def aa8(cs)(H:ab):eQ (.agg cs) H=some (.ptr H.next 0,H.push (.z cs)):=YU cs
def Zu(a:Nd):AV.agg (aB a)=aw a:=(uc a).symm
attribute [go_sem] aBB aBC aBD aa8 Zu
section
variable {l:List Tok}
def P3(hl:l.length<=4000){te}{i}{K:ab->Prop}{c:AV}{one:PS->PR}(P:DA l te i K c one){s}{r}(M:one s=some r){H:ab}(hg:H.get i=some (.c te (pc l s)))(E:∀H':ab,(∀j y,H.get j=some y->H'.get j=some y)->K H')(k:Nat){cs:List AV}{a:Nd}(e:qs cs a):
  ∃H1,dD ak (run ak) (.fn (.func 270) [] []) [.ptr i 0,.i k,.agg cs,c] H=some (.agg (wC k a.f r.2.at_ a r.1),H1)/\Up H i (.c te (pc l r.2)) H1:=by
 obtain⟨m,L⟩:=H;obtain⟨eB,G⟩:=ai.1 hg;have C:ab.get ⟨m+1+1,(m+1,.k 71 [.i 0,.i 0,.i 0,.str [],.i 0,.vec .nil []])::(m,.z cs)::L⟩ i=some (.c te (pc l s)):=ai.2 ⟨aa,by rw[bo,bM,bo,bM];exact G⟩
 obtain⟨⟨b,u⟩,O,F,A,h⟩:=P s r _ M C (E _ λj y n=>by
  obtain⟨D,g⟩:=ai.1 n
  exact ai.2 ⟨aa,by rw[bo,bM,bo,bM];exact g⟩)
 have d:=ai.1 (h (m+1) (.k 71 [.i 0,.i 0,.i 0,.str [],.i 0,.vec .nil []]) aa (ai.2 ⟨aa,by rw[bo,μ rfl]⟩));have o:=ai.1 A;simp only at F;have B:=bf (m<b+1);have w:=bf (m+1<b+1);have N:=bf (i<b+1);have z4:=bf (b<b+1);have t:=dJ (b=m);have J:=dJ (b=m+1);have p:=dJ (b=i);have v:∀H:ab,dZ prog 69 2 [(0,.agg cs),(1,aw r.1)] H=some (.vec .full [aw a,aw r.1],H):=λH=>by have:=asM e (xf r.1) H;rwa [Zu] at this
 rw[qz rfl rfl];suffices hh:∃q,run ak 270 [.ptr i 0,.i k,.agg cs,c] ⟨m,L⟩=some q/\q=(.agg (wC k a.f r.2.at_ a r.1),(⟨b+1,(b,.k 71 (aB r.1))::aH u (m+1) (.k 71 (wC k a.f r.2.at_ a r.1))⟩:ab)) by obtain⟨q,x,rfl⟩:=hh;refine⟨_,x,by simp only;omega,ai.2 ⟨aa,by rw[bo,bM,aR,bM];exact o.2⟩,λj y n I=> ?_⟩;obtain⟨D,g⟩:=ai.1 I;have:=ai.1 (h j y n (ai.2 ⟨aa,by rw[bo,bM,bo,bM];exact g⟩));exact ai.2 ⟨aa,by rw[bo,bM,aR,bM];exact this.2⟩
 refine fM rfl rfl func270 rfl (by rw[ntmps270];simp) ?_;simp only[go_sem,seval,O,d.2,aC (ai.1 (h m (.z cs) aa (ai.2 ⟨aa,by rw[bo,bM,bo,μ rfl]⟩))).2,aC d.2,aC o.2,B,w,N,z4,t,J,p,v,e.take,e.len,e.frm,aQ,fV,Γ,results270];exact⟨_,rfl,rfl⟩
def sO{H}{o:Ab.Own}{ks:List Nd}(hg:cY H 71 o ks.length):o.bare=if ks.isEmpty then .nil else .ro:=by rw[hg.bare];cases ks<;>rfl
def ajr(b):Own.bare (if b=true then Own.nil else Own.ro)=if b=true then Own.nil else Own.ro:=by cases b<;>rfl
attribute [go_sem] ajr
noncomputable def R4:=f242.c.r.b.b
structure py(l:List Tok)(te tn:Option TypeId)(a0 a1 a2 a3 a4:AV)(i q:Nat)(H0:ab)(ks:List Nd)(s:PS)(H:ab):Prop where
 p:H.get i=some (.c te (pc l s))
 n:∃o,H.get q=some (.cells tn [a0,a1,a2,a3,a4,.vec o (br ks)])/\cY H 71 o ks.length
 k:H0.next<=H.next/\∀j t cs,j≠i->j≠q->H0.get j=some (.c t cs)->H.get j=some (.c t cs)
def py.ne{te tn}{a0 a1 a2 a3 a4}{i q}{H0 H}{ks}{s}(h:py l te tn a0 a1 a2 a3 a4 i q H0 ks s H):i≠q:=by obtain⟨o,a,_⟩:=h.n;have:=h.p;rintro rfl;rw[a] at this;simp only[Ζ,bB.cells.injEq,pc] at this;have:=Ι List.length this.2;simp at this
def py.up{te tn}{a0 a1 a2 a3 a4}{i q}{H0 H H1}{ks}{s b}(h:py l te tn a0 a1 a2 a3 a4 i q H0 ks s H)(u:Up H i (.c te (pc l b)) H1):py l te tn a0 a1 a2 a3 a4 i q H0 ks b H1:=by obtain⟨o,g,f⟩:=h.n;exact⟨u.2.1,⟨o,u.2.2 q _ (λe=>h.ne e.symm) g,f.cj λj m a=>u.2.2 j _ (by rintro rfl;rw[h.p] at a;cases a) a⟩,atB h.k.1 u.1,λj t cs a d r=>u.2.2 j _ a (h.k.2 j t cs a d r)⟩
def Wo(w:l.length<=4000){te tn}{a0 a1 a2 a3 a4}{i q}{K:ab->Prop}{c:AV}{one:PS->PR}(N:DA l te i K c one)(e){H0:ab}(F:∀H':ab,(∀j t cs,j≠i->j≠q->H0.get j=some (.c t cs)->H'.get j=some (.c t cs))->K H'):
  ∀n ks s r α H,mN l one e n ks s=some r->ks.length+n<=1000000->α 0=.ptr i 0->α 1=.ptr q 0->α 2=.str e->α 3=c->py l te tn a0 a1 a2 a3 a4 i q H0 ks s H->
   aF (aL (aT ak R4) α H) λx ae H'=>(x=.ret\/x=.exit 0)/\py l te tn a0 a1 a2 a3 a4 i q H0 r.1 r.2 H'
 |0,ks,s,r,α,H,a,W,g,b1,b2,u,b=>by cases a
 |n+1,ks,s,r,α,H,a,W,g,b1,b2,u,b=>by
  obtain⟨m,L⟩:=H;obtain⟨U,S⟩:=ai.1 b.p;have A:=aC S;have C:=ο U;have Z:R4=.seq _ _:=rfl;rw[aJ,Z]
  cases he:s.err with
  |some x=>simp[mN,he] at a;subst a;simp only[go_sem,seval,g,A,C,he,ap2];exact⟨.inr trivial,b⟩
  |none=>
   simp[mN,he] at a;obtain⟨x,V,a⟩:=al a;obtain⟨⟨m1,L1⟩,I,R⟩:=N s x ⟨m,L⟩ V b.p (F _ b.k.2);have v:=b.up R;obtain⟨o,O,Y⟩:=v.n;obtain⟨j,⟨f,d⟩,G,k1,k2,Q,M⟩:=J3 O (by rw[bL];exact Y) (qB ks) (cQ.one x.1) ah (by rw[bL];simp;omega) (o2:=.full)
   have h:py l te tn a0 a1 a2 a3 a4 i q H0 (ks++[x.1]) x.2 ⟨f,d⟩:=by
    refine⟨M i _ _ b.ne v.p,⟨.own j,?_,?_⟩,atB v.k.1 Q,λD t cs X E T=>M D t cs E (v.k.2 D t cs X E T)⟩
    ·rw[tY];exact k1
    ·simpa[bL] using k2
   obtain⟨P,y⟩:=ai.1 h.p;have J:=ο P
   cases ht:aZ l x.2 e with
   |true=>
    simp[ht] at a;subst a;have B:mQ l x.2 e=bc x.2:=by simp[mQ,ht]
    have z:Up ⟨f,d⟩ i (.c te (pc l (bc x.2))) ⟨f,aH d i (.c te (pc l (bc x.2)))⟩:=Up.set h.p;simp only[go_sem,seval,g,b1,b2,u,A,C,he,ψ,I,G,fj w,J,y,ht,B];exact⟨.inl trivial,h.up z⟩
   |false=>
    simp[ht] at a;have B:mQ l x.2 e=x.2:=by simp[mQ,ht]
    have z:Up ⟨f,d⟩ i (.c te (pc l (cB l [44] x.2))) ⟨f,aH d i (.c te (pc l (cB l [44] x.2)))⟩:=Up.set h.p;simp[go_sem,g,b1,b2,u,A,C,he,ψ,I,G,fj w,lP w,J,y,ht,B,qA d i _ y];refine Wo w N e F n (ks++[x.1]) _ r _ _ a aP ?_ ?_ ?_ ?_ (h.up z);all_goals simp[go_sem,g,b1,b2,u]
def Fp(f:l.length<=4000){te tn}{a0 a1 a2 a3 a4}{i q}{K:ab->Prop}{c:AV}{one:PS->PR}(y:DA l te i K c one)(e){H0:ab}(v:∀H':ab,(∀j t cs,j≠i->j≠q->H0.get j=some (.c t cs)->H'.get j=some (.c t cs))->K H')
  {n} {ks:List Nd} {s} {r} {o} (a:lR l one e n ks s=some r) (z:ks.length+n<=1000000) (b:H0.get i=some (.c te (pc l s))) (u:H0.get q=some (.cells tn [a0,a1,a2,a3,a4,.vec o (br ks)])) (hg:cY H0 71 o ks.length):
  ∃x,dD ak (run ak) (.fn (.func 242) [] []) [.ptr i 0,.ptr q 0,.str e,c] H0=some x/\∃H1,x=(.tup [],H1)/\py l te tn a0 a1 a2 a3 a4 i q H0 r.1 r.2 H1:=by
 have k:py l te tn a0 a1 a2 a3 a4 i q H0 ks s H0:=⟨b,⟨o,u,hg⟩,ν _,λj t cs _ _ h=>h⟩;obtain⟨m,L⟩:=H0;obtain⟨w,d⟩:=ai.1 b;have p:=ο w;rw[qz rfl rfl];refine fM (c:=.seq _ (.block 0 (.loop R4))) rfl rfl func242 rfl (by rw[ntmps242];simp) ?_
 cases ht:aZ l s e with
 |true=>
  simp[lR,ht] at a;subst a;have g:mQ l s e=bc s:=by simp[mQ,ht]
  simp only[go_sem,seval,fj f,p,d,ht,g,results242];exact⟨_,rfl,_,rfl,k.up (Up.set b)⟩
 |false=>
  simp[lR,ht] at a;have g:mQ l s e=s:=by simp[mQ,ht]
  simp only[go_sem,seval,fj f,p,d,ht,g,qA L i _ d];refine An ?_;rw[gu];refine aW (Wo f y e v n ks s r _ _ a z ?_ ?_ ?_ ?_ k) ?_
  case refine_5=>
   rintro x ae H' ⟨rfl|rfl,h⟩
   ·refine .inr ⟨rfl,?_⟩;simp only[go_sem,results242];exact⟨_,rfl,_,rfl,h⟩
   ·refine .inl ⟨.inr rfl,?_⟩;simp only[go_sem,results242];exact⟨_,rfl,_,rfl,h⟩
  all_goals(simp[go_sem];try rfl)
end
set_option maxRecDepth 100000
section
variable {l:List Tok}
def eW(l:List Tok)(f:FuncId)(one:PS->PR):Prop:=∀s r,one s=some r->Io ak f [] (pc l s) (aw r.1) (pc l r.2)
def xr(l:List Tok)(f:FuncId)(one:PS->PR):Prop:=∀s r,one s=some r->Lz ak f (pc l s) (aw r.1) (pc l r.2)
def lu{f}{one:PS->PR}(c:ak.cl f=false)(b:ak.io f=true)(h:eW l f one)(i)(H:ab):
  bu ak f [.ptr i 0] H=ia (pg l) (H.get i) (λp=>wm (one p.2) (λr=>some (aw r.1,H.set i (.cells p.1 (pc l r.2)))) (bu ak f [.ptr i 0] H)) (bu ak f [.ptr i 0] H):=
 rI λs a=>Ct λr d=>sQ c b rfl rfl (FO l s.2) (AD l s.2) (iD l s.2) a (h s.2 r d)
def jx{s}{x}(h:aZ l s x=true):mQ l s x=bc s:=by simp[mQ,h]
def du{s}{x}(h:aZ l s x=false):mQ l s x=s:=by simp[mQ,h]
def QO(es)(ks:List Nd)(h:es=br ks)(b:ks≠[]):AV.vec .ro es=.vec (if ks.isEmpty then .nil else .ro) (br ks):=by
 subst h
 cases ks with
 |nil=>exact(b rfl).elim
 |cons a r=>rfl
def am1(a:l.length<=4000){n:Nat}(ih:eW l 244 (P l n .kind)):eW l 223 (P l (n+1) .typed):=by
 intro s r h;refine fX rfl rfl func223 rfl aA (λte=> ?_) (iL _) (iD l _)
 cases ht:aZ l s [58] with
 |false=>simp[P,ht] at h;subst h;simp[go_sem,fj a,ht,du ht,χ,aQ,results223]<;>rfl
 |true=>simp[P,ht] at h;simp[go_sem,fj a,ht,jx ht,ω,lu rfl rfl ih,aU,h,results223]<;>rfl
def am2(d:l.length<=4000){n:Nat}(ih:eW l 223 (P l n .typed)):xr l 243 (P l (n+1) .param):=by
 intro s r h;simp[P] at h;obtain⟨q,b,h⟩:=al h;cases h;refine PY rfl rfl func243 rfl aA (λtb te=> ?_) (iL _) (iD l _);generalize c:cZ l s=w at b⊢;obtain⟨x,s1⟩:=w;simp only at b⊢;rcases x with _|⟨w,a⟩;all_goals simp[go_sem,gg (l:=l),mM d,c,lu rfl rfl ih,aU,b,(qM (o2:=.full) (q:=3) _ (cQ.one q.1) ah ah),fG (l:=l),gO,results243,dO,dN]
 all_goals rfl
def am3(c:l.length<=4000){n:Nat}(ih:eW l 244 (P l n .kind)):xr l 259 (P l (n+1) .field):=by
 intro s r h;simp[P] at h;obtain⟨q,b,h⟩:=al h;cases h;refine PY rfl rfl func259 rfl aA (λtb te=> ?_) (iL _) (iD l _);generalize d:cZ l s=w at b⊢;obtain⟨x,s1⟩:=w;simp only at b⊢;rcases x with _|⟨w,a⟩;all_goals simp[go_sem,gg (l:=l),mM c,d,lP c,lu rfl rfl ih,aU,b,(qM (o2:=.full) (q:=3) _ (cQ.one q.1) ah ah),fG (l:=l),gO,results259,dO,dN]
 all_goals rfl
def am4(c:l.length<=4000){n:Nat}(ih:eW l 260 (P l n .expr)):xr l 288 (P l (n+1) .entry):=by
 intro s r h;simp[P] at h;obtain⟨q,b,h⟩:=al h;cases h;refine PY rfl rfl func288 rfl aA (λtb te=> ?_) (iL _) (iD l _);generalize d:cZ l s=w at b⊢;obtain⟨x,s1⟩:=w;simp only at b⊢;rcases x with _|⟨w,a⟩;all_goals simp[go_sem,gg (l:=l),mM c,d,lP c,lu rfl rfl ih,aU,b,(qM (o2:=.full) (q:=3) _ (cQ.one q.1) ah ah),fG (l:=l),gO,results288,dO,dN]
 all_goals rfl
end
set_option maxRecDepth 100000
section
variable {l:List Tok}
def ajs(b:l.length<=4000){n}(hn:n<=900000)(ih:xr l 243 (P l n .param)):eW l 222 (P l (n+1) .params):=by intro s r h;simp[P] at h;obtain⟨q,f,h⟩:=al h;cases h;refine fX rfl rfl func222 rfl aA (λte=> ?_) (iL _) (iD l _);simp[go_sem,gg (l:=l),lP b];simp[bW];refine bz (Fp b (te:=te) (tn:=some 71) (K:=λH=>H.get 1=some (.z [.ptr 0 0])) (i:=0) (O6 rfl rfl aA ih) [41] (λH' c=>c 1 none [.ptr 0 0] aA aA rfl) f aP rfl rfl (.inl ⟨rfl,rfl⟩)) ?_;rintro _ ⟨⟨m1,L1⟩,rfl,a⟩;obtain⟨t,j⟩:=ai.1 a.p;obtain⟨g,d⟩:=ai.1 (a.k.2 1 none [.ptr 0 0] aA aA rfl);obtain⟨e,g2⟩:=ai.1 (a.k.2 2 (some 71) _ aA aA rfl);obtain⟨o,u,hg⟩:=a.n;obtain⟨m,g3⟩:=ai.1 u;simp only[go_sem,seval,ο t,ο g,ο e,ο m,j,g2,aC d,aC g2,aC g3,fG (l:=l),nK q.1,aR,fV,sK,sO hg,results222];rfl
noncomputable def R5:=f224.c.r.r.r.l.b.b
def VL(u:l.length<=4000){te tn}{a0 a1 a2 a3 a4}{q}{one}(ih:eW l 245 one){H0}:
  ∀n ks s r α H,nN l one n ks s=some r->ks.length+n<=1000000->α 0=.ptr 0 0->α 2=.ptr 1 0->α 3=.ptr q 0->py l te tn a0 a1 a2 a3 a4 0 q H0 ks s H->
   aF (aL (aT ak R5) α H) λx h H'=>x=.exit 0/\h 0=.ptr 0 0/\h 2=.ptr 1 0/\h 3=.ptr q 0/\py l te tn a0 a1 a2 a3 a4 0 q H0 r.1 r.2 H'
 |0,ks,s,r,α,H,a,J,d,b2,g,b=>by cases a
 |n+1,ks,s,r,α,H,a,J,d,b2,g,b=>by
  obtain⟨m,L⟩:=H;obtain⟨G,f⟩:=ai.1 b.p;have v:=aC f;have w:=ο G;have O:R5=.seq _ _:=rfl;rw[aJ,O]
  cases he:s.err with
  |some x=>
   simp[nN,he] at a;subst a;simp only[go_sem,seval,d,v,w,he,ap2];refine⟨?_,?_,?_,?_,b⟩;all_goals first|trivial|assumption
  |none=>
   simp[nN,he] at a
   cases ht:aZ l s [125] with
   |true=>
    simp[ht] at a;subst a;have i:Up ⟨m,L⟩ 0 (.c te (pc l (bc s))) ⟨m,aH L 0 (.c te (pc l (bc s)))⟩:=Up.set b.p;simp only[go_sem,seval,d,v,w,f,he,ψ,fj u,ht,jx ht,ω];refine⟨?_,?_,?_,?_,b.up i⟩;all_goals first|trivial|assumption
   |false=>
    simp[ht] at a;obtain⟨x,I,a⟩:=al a;have i:Up ⟨m,L⟩ 0 (.c te (pc l x.2)) ⟨m,aH L 0 (.c te (pc l x.2))⟩:=Up.set b.p;have e:=b.up i;obtain⟨o,C,K⟩:=e.n;obtain⟨j,⟨A,M⟩,D,p1,B,p3,p4⟩:=J3 C (by rw[bL];exact K) (qB ks) (cQ.one x.1) ah (by rw[bL];simp;omega) (o2:=.full)
    have F:py l te tn a0 a1 a2 a3 a4 0 q H0 (ks++[x.1]) x.2 ⟨A,M⟩:=by
     refine⟨p4 0 _ _ b.ne e.p,⟨.own j,?_,?_⟩,atB e.k.1 p3,λy t cs N z E=>p4 y t cs z (e.k.2 y t cs N z E)⟩
     ·rw[tY];exact p1
     ·simpa[bL] using B
    simp[go_sem,d,g,v,w,f,he,ψ,fj u,ht,du ht,χ,qA L 0 _ f,lu rfl rfl ih,aU,I,D];refine VL u ih n (ks++[x.1]) x.2 r _ _ a aP ?_ ?_ ?_ F;all_goals simp[go_sem,d,b2,g]
def am5(d:l.length<=4000){n}(hn:n<=900000)(ih:eW l 245 (P l n .stmt)):eW l 224 (P l (n+1) .block):=by
 intro s r h;simp[P] at h;obtain⟨q,g,h⟩:=al h;cases h;refine fX (c:=.seq _ (.seq _ (.seq _ (.seq (.block 0 (.loop R5)) _)))) rfl rfl func224 rfl aA (λte=> ?_) (iL _) (iD l _);simp[go_sem,gg (l:=l),lP d];refine jw ?_;rw[gu];refine aW (VL d ih n [] (cB l [123] s) q _ _ g aP ?_ ?_ ?_ (q:=2) (te:=te) (tn:=some 71) (H0:=⟨3,[(2,.k 71 [.i 6,.i s.at_,.i 0,.str [],.i 0,.vec .nil []]),(1,.k 71 [.i 0,.i 0,.i 0,.str [],.i 0,.vec .nil []]),(0,.c te (pc l (cB l [123] s)))]⟩) ⟨rfl,⟨.nil,rfl,.inl ⟨rfl,rfl⟩⟩,ν _,λj t cs _ _ h=>h⟩) ?_
 case refine_4=>
  rintro x ae ⟨m1,L1⟩ ⟨rfl,d0,e,f,a⟩;refine .inl ⟨.inr rfl,?_⟩;obtain⟨w,u⟩:=ai.1 a.p;obtain⟨m,b⟩:=ai.1 (a.k.2 1 (some 71) _ aA aA rfl);obtain⟨o,y,hg⟩:=a.n;obtain⟨v,g3⟩:=ai.1 y;simp only[go_sem,seval,ο w,ο m,ο v,u,b,aC b,aC g3,d0,e,f,fG (l:=l),nK q.1,aR,fV,sK,sO hg,results224];rfl
 all_goals simp[go_sem,]
structure tK(l:List Tok)(te:Option TypeId)(x:Nd)(s:PS)(H:ab):Prop where
 p:H.get 0=some (.c te (pc l s))
 r:H.get 1=some (.k 71 [.i 0,.i 0,.i 0,.str [],.i 0,.vec .nil []])
 x:∃cs,H.get 2=some (.k 71 cs)/\qs cs x
def tK.up{te}{x y}{s a}{H H1:ab}(h:tK l te x s H)(u:Up H 0 (.c te (pc l a)) H1){cs}(d:qs cs y):tK l te y a (H1.set 2 (.k 71 cs)):=by obtain⟨cs0,b,_⟩:=h.x;exact⟨by rw[ab.eE,κ aA];exact u.2.1,by rw[ab.eE,κ aA];exact(u.2.2 1 _ aA h.r),⟨cs,by rw[ab.eE,μ rfl,(u.2.2 2 _ aA b)];rfl,d⟩⟩
noncomputable def R6:=f273.c.r.r.l.b.b
def VM(g:l.length<=4000){te}{one}(ih:eW l 276 one):
  ∀n x s r α H,qH l one n x s=some r->α 0=.ptr 0 0->α 2=.ptr 1 0->α 3=.ptr 2 0->tK l te x s H->
   aF (aL (aT ak R6) α H) λy j H'=>y=.exit 0/\j 0=.ptr 0 0/\j 2=.ptr 1 0/\j 3=.ptr 2 0/\tK l te r.1 r.2 H'
 |0,x,s,r,α,H,a,e,b2,h,b=>by cases a
 |n+1,x,s,r,α,H,a,e,b2,h,b=>by
  obtain⟨m,L⟩:=H;obtain⟨E,o⟩:=ai.1 b.p;obtain⟨cs,v,t⟩:=b.x;obtain⟨N,F⟩:=ai.1 v;have z:=ο E;have K:R6=.seq _ _:=rfl;rw[aJ,K];rw[qH] at a
  cases ht:aZ l s [42] with
  |false=>
   simp[ht] at a;subst a;simp only[go_sem,seval,e,z,o,fj g,ht,du ht,qA L 0 _ o];refine⟨?_,?_,?_,?_,b⟩;all_goals first|trivial|assumption
  |true=>
   simp[ht] at a;obtain⟨q,d,a⟩:=al a;simp[lz] at d;obtain⟨y,D,d⟩:=al d;cases d;have k:Up ⟨m,L⟩ 0 (.c te (pc l (bc s))) ⟨m,aH L 0 (.c te (pc l (bc s)))⟩:=Up.set b.p;obtain⟨⟨m1,J⟩,I,w⟩:=P3 g (Ci (te:=te) (i:=0) rfl rfl ih) D k.2.1 (λ_ _=>trivial) 18 t;obtain⟨A,u⟩:=ai.1 ((k.trans w).2.2 2 _ aA v);have B:bu ak 270 [.ptr 0 0,.i 18,.agg cs,.fn (.func 276) [.ptr 0 0] []] ⟨m,aH L 0 (.c te (pc l (bc s)))⟩=some (.agg (wC 18 x.f y.2.at_ x y.1),⟨m1,J⟩):=I;have G:eF (aH L 0 (.c te (pc l (bc s)))) 2=some cs:=by rw[fV,κ aA];exact(aC F)
   have C:(wC 18 x.f y.2.at_ x y.1).length=6:=rfl;have M:eo (wC 18 x.f y.2.at_ x y.1)=true:=rfl;simp[go_sem,e,h,z,o,ο N,G,fj g,ht,jx ht,t.take,t.len,B,ο A,aC u,u,C,M];refine VM g ih n _ y.2 r _ _ a ?_ ?_ ?_ (b.up (k.trans w) (De 18 x.f y.2.at_ x y.1));all_goals simp[go_sem,e,b2,h]
def asN(i:l.length<=4000){n}(ih:eW l 276 (P l n .post)):eW l 273 (P l (n+1) .term):=by
 intro s r h;simp[P] at h;obtain⟨q,g,h⟩:=al h;refine fX (c:=.seq _ (.seq _ (.seq (.block 0 (.loop R6)) _))) rfl rfl func273 rfl aA (λte=> ?_) (iL _) (iD l _);simp[go_sem,lu rfl rfl ih,aU,g];refine jw ?_;rw[gu];refine aW (VM i ih n q.1 q.2 r _ _ h ?_ ?_ ?_ (te:=te) ⟨rfl,rfl,⟨aB q.1,rfl,xf q.1⟩⟩) ?_
 case refine_4=>
  rintro x ae ⟨m1,L1⟩ ⟨rfl,d0,e,f,b⟩;refine .inl ⟨.inr rfl,?_⟩;obtain⟨t,k⟩:=ai.1 b.p;obtain⟨j,d⟩:=ai.1 b.r;obtain⟨cs,m,a⟩:=b.x;obtain⟨o,g3⟩:=ai.1 m;simp[go_sem,ο t,ο j,ο o,k,d,aC d,aC g3,e,f,a.take,a.len,a.all,a.bare,aR,fV,sK,results273]
 all_goals simp[go_sem,]
end
set_option maxRecDepth 100000
section
variable {l:List Tok}
def aa9(b:l.length<=4000){te}{i}{K}{c}{one}(n:DA l te i K c one){s}{r}(g:one s=some r){H:ab}(hg:H.get i=some (.c te (pc l s)))(m:∀H':ab,(∀j y,H.get j=some y->H'.get j=some y)->K H')(k:Nat){cs:List AV}{a:Nd}(e:qs cs a):
  ∃x,bu ak 270 [.ptr i 0,.i k,.agg cs,c] H=some x/\∃H1,x=(.agg (wC k a.f r.2.at_ a r.1),H1)/\Up H i (.c te (pc l r.2)) H1:=by
 obtain⟨H1,h,d⟩:=P3 b n g hg m k e;exact⟨_,h,H1,rfl,d⟩
def XM(a):aw a=.agg (aB a):=uc a
def R7(l:List Tok)(te:Option TypeId)(r:Nd×PS)(α:az)(H:ab):Prop:=α 2=.ptr 1 0/\H.get 0=some (.c te (pc l r.2))/\∃cs,H.get 1=some (.k 71 cs)/\qs cs r.1
noncomputable def R8:=f269.c.r.r.l.b.b
def NH(u:l.length<=4000){te:Option TypeId}{one:PS->PR}(ih:eW l 273 one):
  ∀n x s r α H,kS l one n x s=some r->α 0=.ptr 0 0->α 2=.ptr 1 0->α 3=.ptr 2 0->tK l te x s H->
   aF (aL (aT ak R8) α H) λy B H'=>(y=.exit 0/\B 0=.ptr 0 0/\B 2=.ptr 1 0/\B 3=.ptr 2 0/\tK l te r.1 r.2 H')\/(y=.ret/\R7 l te r B H')
 |0,x,s,r,α,H,a,g,b2,o,j=>by cases a
 |n+1,x,s,r,α,H,a,g,b2,o,j=>by
  obtain⟨m,L⟩:=H;obtain⟨V,t⟩:=ai.1 j.p;obtain⟨cs,T,w⟩:=j.x;obtain⟨wt,mA⟩:=ai.1 T;obtain⟨S,I⟩:=ai.1 j.r;have C:=aC t;have E:=ο V;have c2:=aC mA;have G:=ο wt;have M:=w.take;have b:=w.len;have hB:R8=.seq _ _:=rfl;rw[aJ,hB]
  cases he:s.err with
  |some e=>
   simp[kS,he] at a;subst a;simp only[go_sem,seval,g,C,E,he,ap2];refine .inl ⟨?_,?_,?_,?_,j⟩;all_goals first|trivial|assumption
  |none=>
   simp[kS,he] at a
   have Y:∀k:Nat,(D:(bn (lz k x one (bc s)) λr=>kS l one n r.1 r.2)=some r)->∃(y:Nd×PS) (m1:Nat) (d:List (Nat×bB)),bu ak 270 [.ptr 0 0,.i k,.agg cs,.fn (.func 273) [.ptr 0 0] []] ⟨m,aH L 0 (.c te (pc l (bc s)))⟩=some (.agg (wC k x.f y.2.at_ x y.1),⟨m1,d⟩)/\
     tK l te (.mk k x.f y.2.at_ [] 0 [x,y.1]) y.2 (ab.set ⟨m1,d⟩ 2 (.k 71 (wC k x.f y.2.at_ x y.1)))/\kS l one n (.mk k x.f y.2.at_ [] 0 [x,y.1]) y.2=some r/\(2<m1)/\cg d 2=some (.k 71 cs):=by
    intro k D;obtain⟨q,A,D⟩:=al D;simp[lz] at A;obtain⟨y,Z,A⟩:=al A;cases A;have K:Up ⟨m,L⟩ 0 (.c te (pc l (bc s))) ⟨m,aH L 0 (.c te (pc l (bc s)))⟩:=Up.set j.p;obtain⟨⟨m1,d⟩,z,U⟩:=P3 u (Ci (te:=te) (i:=0) rfl rfl ih) Z K.2.1 (λ_ _=>trivial) k w;obtain⟨v,h⟩:=ai.1 ((K.trans U).2.2 2 _ aA T);exact⟨y,m1,d,z,j.up (K.trans U) (De k x.f y.2.at_ x y.1),D,v,h⟩
   have X:eF (aH L 0 (.c te (pc l (bc s)))) 2=some cs:=by rw[fV,κ aA];exact c2
   have W:=qA L 0 _ t
   cases ht:aZ l s [43] with
   |true=>
    simp[ht] at a;obtain⟨y,m1,d,z,J,Q,v,h⟩:=Y 16 a;have N:bu ak 270 [.ptr 0 0,.i 16,.agg cs,.fn (.func 273) [.ptr 0 0] []] ⟨m,aH L 0 (.c te (pc l (bc s)))⟩=some (.agg (wC 16 x.f y.2.at_ x y.1),⟨m1,d⟩):=z;have F:=aC h;have P:=ο v;have O:(wC 16 x.f y.2.at_ x y.1).length=6:=rfl;have R:eo (wC 16 x.f y.2.at_ x y.1)=true:=rfl;simp[go_sem,g,o,C,E,t,he,ψ,G,X,fj u,ht,jx ht,M,b,N,P,F,h,O,R];refine NH u ih n _ y.2 r _ _ Q ?_ ?_ ?_ J;all_goals simp[go_sem,g,b2,o]
   |false=>
    simp[ht] at a
    cases hu:aZ l s [45] with
    |true=>
     simp[hu] at a;obtain⟨y,m1,d,z,J,Q,v,h⟩:=Y 17 a;have N:bu ak 270 [.ptr 0 0,.i 17,.agg cs,.fn (.func 273) [.ptr 0 0] []] ⟨m,aH L 0 (.c te (pc l (bc s)))⟩=some (.agg (wC 17 x.f y.2.at_ x y.1),⟨m1,d⟩):=z;have F:=aC h;have P:=ο v;have O:(wC 17 x.f y.2.at_ x y.1).length=6:=rfl;have R:eo (wC 17 x.f y.2.at_ x y.1)=true:=rfl;simp[go_sem,g,o,C,E,t,he,ψ,G,X,fj u,ht,hu,W,du ht,jx hu,M,b,N,P,F,h,O,R];refine NH u ih n _ y.2 r _ _ Q ?_ ?_ ?_ J;all_goals simp[go_sem,g,b2,o]
    |false=>simp[hu] at a;subst a;simp only[go_sem,seval,g,b2,o,C,E,t,he,ψ,ο S,G,aC I,c2,I,fj u,ht,hu,W,du ht,du hu,M,b,w.all];refine .inr ⟨trivial,?_,ai.2 ⟨V,by rw[aR,κ aA];exact t⟩,cs,ai.2 ⟨S,by rw[aR,μ rfl,I];rfl⟩,w⟩;simp[go_sem,b2]
def acI{te}{r}{α:az}{H:ab}(h:R7 l te r α H):y9 (finish prog [.cell 2 71] (.ret,α,H))=some (aw r.1,te,pc l r.2):=by obtain⟨m,L⟩:=H;obtain⟨a2,f,cs,e,a⟩:=h;obtain⟨g,d⟩:=ai.1 f;obtain⟨c,b⟩:=ai.1 e;simp[go_sem,a2,ο g,ο c,d,aC b,a.take,a.len,a.bare,YV,Xl,YW,U5,VC]
def axH(i:l.length<=4000){n:Nat}(ih:eW l 273 (P l n .term)):eW l 269 (P l (n+1) .sum):=by
 intro s r h;simp[P] at h;obtain⟨q,g,h⟩:=al h;refine fX (c:=.seq _ (.seq _ (.seq (.block 0 (.loop R8)) _))) rfl rfl func269 rfl aA (λte=> ?_) (iL _) (iD l _);simp only[go_sem,seval,lu rfl rfl ih,aU,g];refine jw ?_;rw[gu];refine aW (NH i ih n q.1 q.2 r _ _ h ?_ ?_ ?_ (te:=te) ⟨rfl,rfl,⟨aB q.1,rfl,xf q.1⟩⟩) ?_
 case refine_4=>
  rintro x ae ⟨m1,L1⟩ (⟨rfl,d0,e,f,b⟩|⟨rfl,m⟩)
  ·refine .inl ⟨.inr rfl,?_⟩;obtain⟨u,k⟩:=ai.1 b.p;obtain⟨j,d⟩:=ai.1 b.r;obtain⟨cs,o,a⟩:=b.x;obtain⟨t,g3⟩:=ai.1 o;simp only[go_sem,seval,ο u,ο j,ο t,k,d,aC d,aC g3,e,f,a.take,a.len,a.all,a.bare,aR,fV,sK,results269]
  ·refine .inr ⟨rfl,?_⟩;rw[results269];exact acI m
 all_goals simp[go_sem,]
def aBE{c}{a}(b:qs c a)(H):dZ prog 69 1 [(0,.agg c)] H=some (.vec .full [aw a],H):=by simp[dZ,uo,rO,CS,mc,fF,lj,b.erase,sM,yj,yA]
noncomputable def R9:=f276.c.r.r.l.b.b
def HH(t:l.length<=4000){te:Option TypeId}{one:PS->PR}(ih:eW l 260 one):
  ∀n x s r α H,n<=900000->mK l one n x s=some r->α 0=.ptr 0 0->α 2=.ptr 1 0->α 3=.ptr 2 0->tK l te x s H->
   aF (aL (aT ak R9) α H) λy J H'=>(y=.exit 0/\J 0=.ptr 0 0/\J 2=.ptr 1 0/\J 3=.ptr 2 0/\tK l te r.1 r.2 H')\/(y=.ret/\R7 l te r J H')
 |0,x,s,r,α,H,hn,d,j,b2,u,C=>by cases d
 |n+1,x,s,r,α,H,hn,d,j,b2,u,C=>by
  obtain⟨m,L⟩:=H;obtain⟨eB,h⟩:=ai.1 C.p;obtain⟨cs,jI,v⟩:=C.x;obtain⟨wt,P⟩:=ai.1 jI;obtain⟨pA,z⟩:=ai.1 C.r;have D:=aC h;have E:=ο eB;have c2:=aC P;have I:=ο wt;have M:=v.take;have b:=v.len;have F:=v.frm;have G:=aBE v;have Q:=bf (0<m+1);have y1:=bf (1<m+1);have y2:=bf (2<m+1);have T:=bf (m<m+1);have Z:=bf (0<m+1+1);have y4:=bf (2<m+1+1);have y5:=bf (m<m+1+1);have N:=dJ (m=0);have n1:=dJ (m=1);have n2:=dJ (m=2);have Y:=dJ (m+1=0);have n4:=dJ (m+1=2);have W:=dJ (m+1=m);have hB:R9=.seq _ _:=rfl;rw[aJ,hB]
  cases he:s.err with
  |some e=>
   simp[mK,he] at d;subst d;simp only[go_sem,seval,j,D,E,he,ap2];refine .inl ⟨?_,?_,?_,?_,C⟩;all_goals first|trivial|assumption
  |none=>
   simp[mK,he] at d
   cases ht:aZ l s [46] with
   |true=>
    simp[ht] at d;generalize hw:cZ l (bc s)=w at d;obtain⟨o,g⟩:=w
    have fin:∀S x' tk,qs S x'->tK l te x' g ⟨m+1+1,(m+1,.k 95 tk)::(m,.k 71 [.i 19,.i x.f,.i 0,dO (.str []) o,dN (.i 0) o,.vec .full [aw x]])::aH (aH L 0 (.c te (pc l g))) 2 (.k 71 S)⟩:=by
     intro S x' tk qZ;refine⟨ai.2 ⟨aa,?_⟩,ai.2 ⟨aa,?_⟩,⟨S,ai.2 ⟨aa,?_⟩,qZ⟩⟩
     ·rw[bo,bM,bo,bM,aR,κ aA,aR,μ rfl,h];rfl
     ·rw[bo,bM,bo,bM,aR,κ aA,aR,κ aA];exact z
     ·rw[bo,bM,bo,bM,aR,μ rfl,aR,κ aA,P];rfl
    have V:eF (aH L 0 (.c te (pc l g))) 2=some cs:=by rw[fV,κ aA];exact c2
    have e2:cg (aH L 0 (.c te (pc l g))) 2=some (.k 71 cs):=by rw[aR,κ aA];exact P
    have d0:cg (aH L 0 (.c te (pc l g))) 0=some (.c te (pc l g)):=by rw[aR,μ rfl,h];rfl
    have B:cg (aH L 0 (.c te (pc l (bc s)))) 0=some (.c te (pc l (bc s))):=by rw[aR,μ rfl,h];rfl
    cases o with
    |none=>
     have:=fin (aB (.mk 19 x.f g.at_ [] 0 [x])) (.mk 19 x.f g.at_ [] 0 [x]) (Dz (fC l (bc s))) (xf _);simp only[go_sem,seval,j,u,D,E,h,he,ψ,I,c2,fj t,ht,jx ht,M,b,F,G,aQ,Q,Z,y4,y5,T,N,n2,Y,n4,W,mM t,hw,B,d0,V,e2,f_,dO,dN,fG (l:=l),gO];refine HH t ih n _ g r _ _ aa d ?_ ?_ ?_ this;all_goals simp[go_sem,j,b2,u]
    |some wa=>
     obtain⟨w,a⟩:=wa;have:=fin (aB (.mk 19 x.f g.at_ w a [x])) (.mk 19 x.f g.at_ w a [x]) (Dz (fC l (bc s))) (xf _);simp only[go_sem,seval,j,u,D,E,h,he,ψ,I,c2,fj t,ht,jx ht,M,b,F,G,aQ,Q,Z,y4,y5,T,N,n2,Y,n4,W,mM t,hw,B,d0,V,e2,f_,dO,dN,fG (l:=l),gO];refine HH t ih n _ g r _ _ aa d ?_ ?_ ?_ this;all_goals simp[go_sem,j,b2,u]
   |false=>
    simp[ht] at d;have hs:=qA L 0 _ h
    cases hu:aZ l s [40] with
    |true=>
     simp[hu] at d;obtain⟨q,hq,d⟩:=al d;simp only[go_sem,seval,j,u,D,E,h,he,ψ,I,c2,fj t,ht,du ht,hu,jx hu,hs,M,b,F,G,aQ,Q,T,N];have g0:cg ((m,bB.cells (some 71) [.i 20,.i x.f,.i 0,.str [],.i 0,.vec .full [aw x]])::aH L 0 (.c te (pc l (bc s)))) 0=some (.c te (pc l (bc s))):=by rw[bo,bM,aR,μ rfl,h];rfl
     have gm:∀{X:bB} {R:List (Nat×bB)},cg ((m,X)::R) m=some X:=by intro X R;rw[bo,μ rfl]
     simp[bW];refine bz (Fp t (te:=te) (tn:=some 71) (K:=λ_=>True) (i:=0) (q:=m) (Ci rfl rfl ih) [41] (λ_ _=>trivial) hq aP (ai.2 ⟨aa,g0⟩) (ai.2 ⟨aa,gm⟩) (.inr (.inl ⟨rfl,ah⟩))) ?_;rintro _ ⟨⟨m1,L1⟩,rfl,O⟩;obtain⟨z0,j0⟩:=ai.1 O.p;obtain⟨z1,j1⟩:=ai.1 (O.k.2 1 (some 71) _ aA aa (ai.2 ⟨aa,by rw[bo,bM,aR,κ aA];exact z⟩));obtain⟨A,U⟩:=ai.1 (O.k.2 2 (some 71) _ aA aa (ai.2 ⟨aa,by rw[bo,bM,aR,κ aA];exact P⟩));obtain⟨o,oR,hg⟩:=O.n;obtain⟨z3,j3⟩:=ai.1 oR
     have:tK l te (.mk 20 x.f q.2.at_ [] 0 q.1) q.2 ⟨m1,aH L1 2 (.k 71 (aB (.mk 20 x.f q.2.at_ [] 0 q.1)))⟩:=
      ⟨ai.2 ⟨z0,by rw[aR,κ aA];exact j0⟩,ai.2 ⟨z1,by rw[aR,κ aA];exact j1⟩,⟨_,ai.2 ⟨A,by rw[aR,μ rfl,U];rfl⟩,xf _⟩⟩
     simp only[go_sem,seval,j,u,ο z0,ο A,ο z3,j0,U,aC U,aC j3,b,fG (l:=l),nK q.1,sO hg];refine HH t ih n _ q.2 r _ _ aa d ?_ ?_ ?_ this;all_goals simp[go_sem,j,b2,u]
    |false=>simp[hu] at d;subst d;simp only[go_sem,seval,j,b2,u,D,E,h,he,ψ,I,c2,fj t,ht,du ht,hu,du hu,hs,M,b,F,G,v.all,aQ,Q,y1,y2,T,N,n1,n2,aC z,z];refine .inr ⟨trivial,?_,ai.2 ⟨aa,by rw[bo,bM,aR,κ aA];exact h⟩,cs,ai.2 ⟨aa,by rw[bo,bM,aR,μ rfl,z];rfl⟩,v⟩;simp[go_sem,b2]
def asO(j:l.length<=4000){n:Nat}(v:n<=900000)(d:eW l 282 (P l n .atom))(ih:eW l 260 (P l n .expr)):eW l 276 (P l (n+1) .post):=by
 intro s r h;simp[P] at h;obtain⟨q,i,h⟩:=al h;refine fX (c:=.seq _ (.seq _ (.seq (.block 0 (.loop R9)) _))) rfl rfl func276 rfl aA (λte=> ?_) (iL _) (iD l _);simp only[go_sem,seval,lu rfl rfl d,aU,i];refine jw ?_;rw[gu];refine aW (HH j ih n q.1 q.2 r _ _ v h ?_ ?_ ?_ (te:=te) ⟨rfl,rfl,⟨aB q.1,rfl,xf q.1⟩⟩) ?_
 case refine_4=>
  rintro x ae ⟨m1,L1⟩ (⟨rfl,d0,f,g,b⟩|⟨rfl,o⟩)
  ·refine .inl ⟨.inr rfl,?_⟩;obtain⟨w,m⟩:=ai.1 b.p;obtain⟨k,e⟩:=ai.1 b.r;obtain⟨cs,t,a⟩:=b.x;obtain⟨u,g3⟩:=ai.1 t;simp only[go_sem,seval,ο w,ο k,ο u,m,e,aC e,aC g3,f,g,a.take,a.len,a.all,a.bare,aR,fV,sK,results276]
  ·refine .inr ⟨rfl,?_⟩;rw[results276];exact acI o
 all_goals simp[go_sem,]
def asP(d:l.length<=4000){n:Nat}(ih:eW l 269 (P l n .sum)):eW l 260 (P l (n+1) .expr):=by
 intro s r h;simp[P] at h;obtain⟨q,m,h⟩:=al h;refine fX rfl rfl func260 rfl aA (λte=> ?_) (iL _) (iD l _);have k1:=lu rfl rfl ih;have fin:∀(k:Nat) (y:Nd×PS) (A:PS) (m1:Nat) (a:List (Nat×bB)),Up ⟨3,[(2,.k 71 (aB q.1)),(1,.k 71 [.i 0,.i 0,.i 0,.str [],.i 0,.vec .nil []]),(0,.c te (pc l A))]⟩ 0 (.c te (pc l y.2)) ⟨m1,a⟩->(0<m1)/\(1<m1)/\cg a 0=some (.c te (pc l y.2))/\cg a 1=some (.k 71 [.i 0,.i 0,.i 0,.str [],.i 0,.vec .nil []]):=by intro k y A m1 a u;obtain⟨j,g⟩:=ai.1 u.2.1;obtain⟨e,b⟩:=ai.1 (u.2.2 1 _ aA rfl);exact⟨j,e,g,b⟩
 cases h1:aZ l q.2 [60] with
 |true=>simp[h1,lz] at h;obtain⟨y,p,h⟩:=al h;cases h;simp[go_sem,k1,aU,m,fj d,h1,jx h1];rw[XM q.1];simp[bW];refine bz (aa9 d (te:=te) (i:=0) (K:=λ_=>True) (Ci rfl rfl ih) p rfl (λ_ _=>trivial) 14 (xf q.1)) ?_;rintro _ ⟨⟨m1,a⟩,rfl,u⟩;obtain⟨j,e,g,b⟩:=fin 14 y _ m1 a u;have o:=ο j;have b1:=ο e;have w:=aC b;have z:(wC 14 q.1.f y.2.at_ q.1 y.1).length=6:=rfl;have v:eo (wC 14 q.1.f y.2.at_ q.1 y.1)=true:=rfl;have x:=(De 14 q.1.f y.2.at_ q.1 y.1).take;have t:=(De 14 q.1.f y.2.at_ q.1 y.1).bare;simp[go_sem,o,b1,g,b,w,z,v,x,t,aR,fV,sK,results260]
 |false=>
  simp[h1] at h
  cases h2:aZ l q.2 [61,61] with
  |true=>simp[h2,lz] at h;obtain⟨y,p,h⟩:=al h;cases h;simp[go_sem,k1,aU,m,fj d,h1,h2,du h1,jx h2];rw[XM q.1];simp[bW];refine bz (aa9 d (te:=te) (i:=0) (K:=λ_=>True) (Ci rfl rfl ih) p rfl (λ_ _=>trivial) 15 (xf q.1)) ?_;rintro _ ⟨⟨m1,a⟩,rfl,u⟩;obtain⟨j,e,g,b⟩:=fin 15 y _ m1 a u;have o:=ο j;have b1:=ο e;have w:=aC b;have z:(wC 15 q.1.f y.2.at_ q.1 y.1).length=6:=rfl;have v:eo (wC 15 q.1.f y.2.at_ q.1 y.1)=true:=rfl;have x:=(De 15 q.1.f y.2.at_ q.1 y.1).take;have t:=(De 15 q.1.f y.2.at_ q.1 y.1).bare;simp[go_sem,o,b1,g,b,w,z,v,x,t,aR,fV,sK,results260]
  |false=>simp[h2] at h;subst h;simp[go_sem,k1,aU,m,fj d,h1,h2,du h1,du h2,results260]
end
set_option maxRecDepth 100000
section
variable {l:List Tok}
def axI:ak.cl 222=false:=af
def axJ:ak.cl 223=false:=af
def axK:ak.cl 224=false:=af
def axL:ak.cl 181=false:=af
def axM:ak.cl 183=false:=af
attribute [go_sem] axM axI axJ axK axL
def am6(hl:l.length<=4000)(s):Io ak 261 [] (pc l s) (.bool (qL l s)) (pc l s):=by
 refine fX rfl rfl func261 rfl aA (λte=> ?_) rfl (iD l s);generalize c:fC l s=t;obtain⟨k,a,b,y⟩:=t;have d:((k:Int) != 1)= !decide (k=1):=sf k 1;by_cases f:k=1
 ·rw[π f] at d
  have aO:s.at_<l.length:=by
   by_cases p:s.at_<l.length
   ·exact p
   ·rw[EO (aEh aa)] at c;cases c;cases f
  have h:=mh (n:=s.at_) aa;by_cases j:s.at_+1<l.length
  ·obtain⟨x,o⟩:=fo j;have g:=bU (((s.at_+1:Nat):Int)≥(l.length:Int));have m:=uU o;obtain⟨k2,a2,b2,i⟩:=x;have c2:((k2:Int)==5)=decide (k2=5):=dF k2 5;have q:jM .eql i [61]=some (.bool (decide (i=[61]))):=by simp[jM,aGo]
   have e:qL l s=(decide (k2=5)&&decide (i=[61])):=by simp[qL,c,f,o]
   rw[e]
   cases h5:decide (k2=5) with
   |true=>rw[h5] at c2;simp only[go_sem,seval,kT (l:=l),c,kN,d,h,uw,g,m,c2,q,ω,results261]<;>rfl
   |false=>rw[h5] at c2;simp only[go_sem,seval,kT (l:=l),c,kN,d,h,uw,g,m,c2,ω,results261]<;>rfl
  ·have g:=bH (((s.at_+1:Nat):Int)≥(l.length:Int));have e:qL l s=false:=by simp[qL,aEh (aET j)]
   rw[e];simp only[go_sem,seval,kT (l:=l),c,kN,d,h,uw,g,ω,results261]<;>rfl
 ·rw[ξ f] at d;have e:qL l s=false:=by simp[qL,c,f]
  rw[e];simp[go_sem,kT (l:=l),c,kN,d,χ,results261]<;>rfl
def P4(a:l.length<=4000)(i)(H:ab):bu ak 261 [.ptr i 0] H=ia (pg l) (H.get i) (λp=>some (.bool (qL l p.2),H)) (bu ak 261 [.ptr i 0] H):=E3 [] rfl rfl rfl (am6 a) i H
def asQ(b:l.length<=4000){n}(hn:n<=900000)(v:xr l 259 (P l n .field))(ih:eW l 244 (P l n .kind)):eW l 244 (P l (n+1) .kind):=by
 intro s r h;refine fX rfl rfl func244 rfl aA (λte=> ?_) (iL _) (iD l _);rw[P] at h
 cases h1:aZ l s [105,110,116] with
 |true=>simp[h1] at h;subst h;simp[go_sem,gg (l:=l),fj b,h1,jx h1,fG (l:=l),gO,results244]<;>rfl
 |false=>
 simp[h1] at h
 cases h2:aZ l s [115,116,114] with
 |true=>simp[h2] at h;subst h;simp[go_sem,gg (l:=l),fj b,h1,h2,du h1,jx h2,fG (l:=l),gO,results244]<;>rfl
 |false=>
 simp[h2] at h
 cases h3:aZ l s [100,121,110] with
 |true=>simp[h3] at h;subst h;simp[go_sem,gg (l:=l),fj b,h1,h2,h3,du h1,du h2,jx h3,fG (l:=l),gO,results244]<;>rfl
 |false=>
 simp[h3] at h
 cases h4:aZ l s [123] with
 |true=>simp[h4] at h;obtain⟨q,d,h⟩:=al h;cases h;simp[go_sem,gg (l:=l),fj b,h1,h2,h3,h4,du h1,du h2,du h3,jx h4];simp[bW];refine bz (Fp b (te:=te) (tn:=some 71) (K:=λH=>H.get 1=some (.z [.ptr 0 0])) (i:=0) (O6 rfl rfl aA v) [125] (λH' L=>L 1 none [.ptr 0 0] aA aA rfl) d aP rfl rfl (.inl ⟨rfl,rfl⟩)) ?_;rintro _ ⟨⟨m1,m⟩,rfl,a⟩;obtain⟨D,e⟩:=ai.1 a.p;obtain⟨A,C⟩:=ai.1 (a.k.2 1 none [.ptr 0 0] aA aA rfl);obtain⟨F,g2⟩:=ai.1 (a.k.2 2 (some 71) _ aA aA rfl);obtain⟨o,w,hg⟩:=a.n;obtain⟨S,g3⟩:=ai.1 w;have f:=aC C;have y:=ο D;have b1:=ο A;have u:=nK q.1;simp only[go_sem,seval,y,b1,ο F,ο S,e,g2,f,aC g2,aC g3,fG (l:=l),u,aR,fV,sK,sO hg,results244];rfl
 |false=>
 simp[h4] at h
 cases h5:aZ l s [102,110] with
 |true=>
  simp[h5] at h;obtain⟨q,d,h⟩:=al h;obtain⟨p,R,h⟩:=al h;cases h;simp[go_sem,gg (l:=l),fj b,h1,h2,h3,h4,h5,du h1,du h2,du h3,du h4,jx h5,lP b];simp[bW];refine bz (Fp b (te:=te) (tn:=some 71) (K:=λ_=>True) (i:=0) (Ci rfl rfl ih) [41] (λ_ _=>trivial) d aP rfl rfl (.inl ⟨rfl,rfl⟩)) ?_;rintro _ ⟨⟨m1,m⟩,rfl,a⟩;obtain⟨D,e⟩:=ai.1 a.p;obtain⟨A,C⟩:=ai.1 (a.k.2 1 none [.ptr 0 0] aA aA rfl);obtain⟨F,g2⟩:=ai.1 (a.k.2 2 (some 71) _ aA aA rfl);have g:=a.up (Up.set (x:=.c te (pc l p.2)) a.p);obtain⟨o,w,hg⟩:=g.n;obtain⟨j,⟨I,V⟩,Q,p1,p2,p3,p4⟩:=J3 w (by rw[bL];exact hg) (qB q.1) (cQ.one p.1) ah (by rw[bL];have U:=B5 l d;rw[Χ] at U;simp;omega) (o2:=.full);obtain⟨T,d0⟩:=ai.1 (p4 0 _ _ aA g.p);obtain⟨J,O⟩:=ai.1 (p4 1 _ _ aA (g.k.2 1 none [.ptr 0 0] aA aA rfl));obtain⟨W,E⟩:=ai.1 (p4 2 _ _ aA (g.k.2 2 (some 71) _ aA aA rfl));obtain⟨M,G⟩:=ai.1 p1;have t:bu ak 183 [.ptr 3 0,.vec .full [aw p.1]] ⟨m1,aH m 0 (.c te (pc l p.2))⟩=some (.tup [],⟨I,V⟩):=Q;have f:=aC C;have B:eF (aH m 0 (.c te (pc l (cB l [58] q.2)))) 1=some [.ptr 0 0]:=by rw[fV,κ aA];exact f
  have N:cg (aH m 0 (.c te (pc l (cB l [58] q.2)))) 0=some (.c te (pc l (cB l [58] q.2))):=by rw[aR,μ rfl,e];rfl
  have y:=ο D;have b1:=ο A;have u:AV.aq.go (br q.1++[aw p.1])=true:=by rw[show br q.1++[aw p.1]=br (q.1++[p.1]) from by rw[tY];rfl];exact nK _
  simp[go_sem,y,b1,e,f,lP b,B,N,lu rfl rfl ih,aU,R,f_,t,ο T,ο J,ο W,ο M,d0,E,aC O,aC E,aC G,fG (l:=l),u,aR,fV,sK,results244];rw[show br q.1++[aw p.1]=br (q.1++[p.1]) from by rw[tY];rfl,QO _ (q.1++[p.1]) rfl ah];rfl
 |false=>simp[h5] at h;subst h;simp[go_sem,gg (l:=l),fj b,h1,h2,h3,h4,h5,du h1,du h2,du h3,du h4,du h5,Fo (l:=l),fG (l:=l),gO,results244]<;>rfl
def asR(b:l.length<=4000){n}(k:eW l 223 (P l n .typed))(x:eW l 260 (P l n .expr))(v:eW l 224 (P l n .block)):eW l 245 (P l (n+1) .stmt):=by
 intro s r h;refine fX rfl rfl func245 rfl aA (λte=> ?_) (iL _) (iD l _);have k1:=lu rfl rfl k;have k2:=lu rfl rfl x;have g:=lu rfl rfl v;rw[P] at h;simp only at h
 cases h1:aZ l s [108,101,116] with
 |true=>
  simp[h1] at h;obtain⟨q,d,h⟩:=al h;obtain⟨p,c,h⟩:=al h;cases h;generalize f:cZ l (bc s)=w at d⊢;obtain⟨o,t⟩:=w;simp only at d⊢;have p1:=qM (o2:=.full) (q:=2) _ (cQ.one q.1) ah ah;have e:=QN (o2:=.full) (q:=2) _ _ 1 rfl (cQ.one q.1) (cQ.one p.1) ah ah;have w1:=ο (cQ.one q.1)
  cases o with
  |none=>simp[go_sem,gg (l:=l),fj b,h1,jx h1,mM b,f,dO,dN,k1,k2,aU,d,c,p1,e,lP b,fG (l:=l),gO,results245,aE9,Ο];rfl
  |some j=>obtain⟨w,a⟩:=j;simp[go_sem,gg (l:=l),fj b,h1,jx h1,mM b,f,dO,dN,k1,k2,aU,d,c,p1,e,lP b,fG (l:=l),gO,results245,aE9,Ο];rfl
 |false=>
 simp[h1] at h
 cases h2:aZ l s [105,102] with
 |true=>
  simp[h2] at h;obtain⟨q,d,h⟩:=al h;obtain⟨p,c,h⟩:=al h;have p1:=qM (o2:=.full) (q:=2) _ (cQ.two q.1 p.1) ah ah;have w1:=ο (cQ.two q.1 p.1)
  cases he:aZ l p.2 [101,108,115,101] with
  |true=>simp[he] at h;obtain⟨u,m,h⟩:=al h;cases h;have e:=QN (o2:=.full) (q:=2) _ _ 2 rfl (cQ.two q.1 p.1) (cQ.one u.1) ah ah;simp[go_sem,gg (l:=l),fj b,h1,h2,du h1,jx h2,k2,g,aU,d,c,he,jx he,m,p1,e,fG (l:=l),gO,results245,aE9,Ο];rfl
  |false=>simp[he] at h;subst h;have e:=QN (o2:=.full) (q:=2) _ _ 2 rfl (cQ.two q.1 p.1) (cQ.one dR) ah ah;have y:AV.agg [.i 0,.i 0,.i 0,.str [],.i 0,.vec .nil []]=aw dR:=rfl;simp[go_sem,gg (l:=l),fj b,h1,h2,du h1,jx h2,k2,g,aU,d,c,he,du he,y,p1,e,fG (l:=l),gO,results245,aE9,Ο];rfl
 |false=>
 simp[h2] at h
 cases h3:aZ l s [119,104,105,108,101] with
 |true=>simp[h3] at h;obtain⟨q,d,h⟩:=al h;obtain⟨p,c,h⟩:=al h;cases h;have p1:=qM (o2:=.full) (q:=2) _ (cQ.two q.1 p.1) ah ah;simp[go_sem,gg (l:=l),fj b,h1,h2,h3,du h1,du h2,jx h3,k2,g,aU,d,c,p1,fG (l:=l),gO,results245];rfl
 |false=>
 simp[h3] at h
 cases h4:aZ l s [112,114,105,110,116] with
 |true=>simp[h4] at h;obtain⟨p,c,h⟩:=al h;cases h;have p1:=qM (o2:=.full) (q:=2) _ (cQ.one p.1) ah ah;simp[go_sem,gg (l:=l),fj b,h1,h2,h3,h4,du h1,du h2,du h3,jx h4,k2,aU,c,p1,lP b,fG (l:=l),gO,results245];rfl
 |false=>
 simp[h4] at h
 cases h5:aZ l s [114,101,116,117,114,110] with
 |true=>simp[h5] at h;obtain⟨p,c,h⟩:=al h;cases h;have p1:=qM (o2:=.full) (q:=2) _ (cQ.one p.1) ah ah;simp[go_sem,gg (l:=l),fj b,h1,h2,h3,h4,h5,du h1,du h2,du h3,du h4,jx h5,k2,aU,c,p1,lP b,fG (l:=l),gO,results245];rfl
 |false=>
 simp[h5] at h
 cases h6:qL l s with
 |true=>
  simp[h6] at h;obtain⟨p,c,h⟩:=al h;cases h;generalize f:cZ l s=w at c⊢;obtain⟨o,t⟩:=w;simp only at c⊢;have p1:=qM (o2:=.full) (q:=2) _ (cQ.one p.1) ah ah
  cases o with
  |none=>simp[go_sem,gg (l:=l),fj b,h1,h2,h3,h4,h5,h6,du h1,du h2,du h3,du h4,du h5,P4 b,mM b,f,dO,dN,k2,aU,c,p1,lP b,fG (l:=l),gO,results245];rfl
  |some j=>obtain⟨w,a⟩:=j;simp[go_sem,gg (l:=l),fj b,h1,h2,h3,h4,h5,h6,du h1,du h2,du h3,du h4,du h5,P4 b,mM b,f,dO,dN,k2,aU,c,p1,lP b,fG (l:=l),gO,results245];rfl
 |false=>simp[h6] at h;obtain⟨p,c,h⟩:=al h;cases h;have p1:=qM (o2:=.full) (q:=2) _ (cQ.one p.1) ah ah;simp[go_sem,gg (l:=l),fj b,h1,h2,h3,h4,h5,h6,du h1,du h2,du h3,du h4,du h5,P4 b,k2,aU,c,p1,lP b,fG (l:=l),gO,results245];rfl
end
set_option maxRecDepth 100000
set_option maxHeartbeats 4000000
section
variable {l:List Tok}
def aba{s:PS}(h:(fC l s).1≠0):s.at_<l.length:=by
 by_cases a:s.at_<l.length
 ·exact a
 ·rw[EO (aEh aa)] at h;exact(h rfl).elim
def asS(g:l.length<=4000){n}(hn:n<=900000)(G:eW l 260 (P l n .expr))(C:xr l 288 (P l n .entry))(E:eW l 222 (P l n .params))(T:eW l 223 (P l n .typed))(F:eW l 224 (P l n .block)):eW l 282 (P l (n+1) .atom):=by
 intro s r h;refine fX rfl rfl func282 rfl aA (λte=> ?_) (iL _) (iD l _);rw[P] at h;simp only at h;generalize d:fC l s=t at h;obtain⟨k,a,b,y⟩:=t;have c:((k:Int)==3)=decide (k=3):=dF k 3;have f:((k:Int)==4)=decide (k=4):=dF k 4;have e:((k:Int)==1)=decide (k=1):=dF k 1;by_cases h3:k=3
 ·rw[π h3] at c;have j:=mh (n:=s.at_) (by have:=aba (l:=l) (s:=s) (by rw[d];simp[h3]);omega);simp[h3] at h;subst h;simp only[go_sem,seval,gg (l:=l),kT (l:=l),d,kN,c,j,fG (l:=l),gO,results282]<;>rfl
 rw[ξ h3] at c;simp[h3] at h;by_cases x:k=4
 ·rw[π x] at f;have j:=mh (n:=s.at_) (by have:=aba (l:=l) (s:=s) (by rw[d];simp[x]);omega);simp[x] at h;subst h;simp only[go_sem,seval,gg (l:=l),kT (l:=l),d,kN,c,f,j,fG (l:=l),gO,results282]<;>rfl
 rw[ξ x] at f;simp[x] at h;by_cases A:k=1
 ·rw[π A] at e;simp[A] at h;subst h;generalize j:cZ l s=w;obtain⟨o,s1⟩:=w
  cases o with
  |none=>simp[go_sem,gg (l:=l),kT (l:=l),d,kN,c,f,e,mM g,j,dO,dN,fG (l:=l),gO,results282]<;>rfl
  |some V=>obtain⟨w,a2⟩:=V;simp[go_sem,gg (l:=l),kT (l:=l),d,kN,c,f,e,mM g,j,dO,dN,fG (l:=l),gO,results282]<;>rfl
 rw[ξ A] at e;simp[A] at h
 cases p1:aZ l s [105,110,112,117,116] with
 |true=>simp[p1] at h;subst h;simp[go_sem,gg (l:=l),kT (l:=l),d,kN,c,f,e,fj g,p1,jx p1,fG (l:=l),gO,results282]<;>rfl
 |false=>
 simp[p1] at h
 cases p2:aZ l s [40] with
 |true=>simp[p2] at h;obtain⟨q,m,h⟩:=al h;cases h;have D:=qM (o2:=.full) (q:=3) _ (cQ.one q.1) ah ah;simp[go_sem,gg (l:=l),kT (l:=l),d,kN,c,f,e,fj g,p1,p2,du p1,jx p2,lu rfl rfl G,aU,m,D,lP g,fG (l:=l),gO,results282]<;>rfl
 |false=>
 simp[p2] at h
 cases p3:aZ l s [123] with
 |true=>simp[p3] at h;obtain⟨q,m,h⟩:=al h;cases h;simp[go_sem,gg (l:=l),kT (l:=l),d,kN,c,f,e,fj g,p1,p2,p3,du p1,du p2,jx p3];simp[bW];refine bz (Fp g (te:=te) (tn:=some 71) (K:=λH=>H.get 1=some (.z [.ptr 0 0])) (i:=0) (O6 rfl rfl aA C) [125] (λH' J=>J 1 none [.ptr 0 0] aA aA rfl) m aP rfl rfl (.inl ⟨rfl,rfl⟩)) ?_;rintro _ ⟨⟨m1,L1⟩,rfl,B⟩;obtain⟨S,N⟩:=ai.1 B.p;obtain⟨M,O⟩:=ai.1 (B.k.2 1 none [.ptr 0 0] aA aA rfl);obtain⟨L,g2⟩:=ai.1 (B.k.2 2 (some 71) _ aA aA rfl);obtain⟨o,I,hg⟩:=B.n;obtain⟨R,g3⟩:=ai.1 I;have e:=aC O;have c:=aC g3;simp only[go_sem,seval,ο S,ο M,ο L,ο R,N,g2,e,aC g2,c,fG (l:=l),nK q.1,aR,fV,sK,sO hg,results282];rfl
 |false=>
 simp[p3] at h
 cases p4:aZ l s [102,110] with
 |true=>simp[p4] at h;obtain⟨q,m,h⟩:=al h;obtain⟨u,Q,h⟩:=al h;obtain⟨v,U,h⟩:=al h;cases h;have D:=qM (o2:=.full) (q:=3) _ (cQ.three q.1 u.1 v.1) ah ah;simp[go_sem,gg (l:=l),kT (l:=l),d,kN,c,f,e,fj g,p1,p2,p3,p4,du p1,du p2,du p3,jx p4,lu rfl rfl E,lu rfl rfl T,lu rfl rfl F,aU,m,Q,U,D,fG (l:=l),gO,results282]<;>rfl
 |false=>simp[p4] at h;subst h;simp[go_sem,gg (l:=l),kT (l:=l),d,kN,c,f,e,fj g,p1,p2,p3,p4,du p1,du p2,du p3,du p4,Fo (l:=l),fG (l:=l),gO,results282]<;>rfl
structure TOk(l:List Tok)(n:Nat):Prop where
 kind:eW l 244 (P l n .kind)
 field:xr l 259 (P l n .field)
 typed:eW l 223 (P l n .typed)
 params:eW l 222 (P l n .params)
 param:xr l 243 (P l n .param)
 block:eW l 224 (P l n .block)
 stmt:eW l 245 (P l n .stmt)
 expr:eW l 260 (P l n .expr)
 sum:eW l 269 (P l n .sum)
 term:eW l 273 (P l n .term)
 post:eW l 276 (P l n .post)
 atom:eW l 282 (P l n .atom)
 entry:xr l 288 (P l n .entry)
def acJ(a:l.length<=4000):∀n,n<=900000->TOk l n
 |0,_=>⟨λs r h=>(by cases h),λs r h=>(by cases h),λs r h=>(by cases h),λs r h=>(by cases h),λs r h=>(by cases h),λs r h=>(by cases h),λs r h=>(by cases h),λs r h=>(by cases h),λs r h=>(by cases h),λs r h=>(by cases h),λs r h=>(by cases h),λs r h=>(by cases h),λs r h=>(by cases h)⟩
 |n+1,hn=>by have ih:=acJ a n aa;have b:n<=900000:=aa;exact⟨asQ a b ih.field ih.kind,am3 a ih.kind,am1 a ih.kind,ajs a b ih.param,am2 a ih.typed,am5 a b ih.stmt,asR a ih.typed ih.expr ih.block,asP a ih.sum,axH a ih.term,asN a ih.post,asO a b ih.atom ih.expr,asS a b ih.expr ih.entry ih.params ih.typed ih.block,am4 a ih.expr⟩
def axN(b:l.length<=4000):eW l 184 (λs=>some (mR l s)):=by
 intro s r h;cases h;refine fX rfl rfl func184 rfl aA (λte=> ?_) (iL _) (iD l _);unfold mR;simp only;generalize e:cZ l (cB l [117,115,101] s)=w;obtain⟨o,d⟩:=w;generalize g:cZ l (cB l [46] d)=w2;obtain⟨o2,s2⟩:=w2;have j:=λx:Nd=>qM (o2:=.full) (q:=2) _ (cQ.one x) ah ah;have n:∀(k f t a:Nat) (w:List UInt8),AV.agg [.i k,.i f,.i t,.str w,.i a,.vec .nil []]=aw (.mk k f t w a []):=λ_ _ _ _ _=>rfl
 cases o with
 |none=>
  have c:AV.agg [.i 23,.i ((cB l [117,115,101] s).at_:Int),.i d.at_,.str [],.i 0,.vec .nil []]=_:=n 23 (cB l [117,115,101] s).at_ d.at_ 0 []
  cases o2 with
  |none=>simp[go_sem,gg (l:=l),lP b,mM b,e,g,dO,dN,fG (l:=l),gO,c,j,results184]<;>rfl
  |some m=>obtain⟨p,a2⟩:=m;simp[go_sem,gg (l:=l),lP b,mM b,e,g,dO,dN,fG (l:=l),gO,c,j,results184]<;>rfl
 |some u=>
  obtain⟨v,a⟩:=u;have c:AV.agg [.i 23,.i ((cB l [117,115,101] s).at_:Int),.i d.at_,.str v,.i a,.vec .nil []]=_:=n 23 (cB l [117,115,101] s).at_ d.at_ a v
  cases o2 with
  |none=>simp[go_sem,gg (l:=l),lP b,mM b,e,g,dO,dN,fG (l:=l),gO,c,j,results184]<;>rfl
  |some m=>obtain⟨p,a2⟩:=m;simp[go_sem,gg (l:=l),lP b,mM b,e,g,dO,dN,fG (l:=l),gO,c,j,results184]<;>rfl
def axO(c:l.length<=4000){n}(ih:TOk l n):eW l 185 (uD l n):=by
 intro s r h;simp[uD] at h;obtain⟨q,b,h⟩:=al h;obtain⟨u,g,h⟩:=al h;obtain⟨v,f,h⟩:=al h;cases h;refine fX rfl rfl func185 rfl aA (λte=> ?_) (iL _) (iD l _);have e:=lu rfl rfl ih.params;have j:=lu rfl rfl ih.typed;have i:=lu rfl rfl ih.block;generalize d:cZ l (cB l [100,101,102] s)=w at b⊢;obtain⟨o,s1⟩:=w;simp only at b⊢;have k:=qM (o2:=.full) (q:=2) _ (cQ.three q.1 u.1 v.1) ah ah
 cases o with
 |none=>simp[go_sem,gg (l:=l),lP c,mM c,d,dO,dN,e,j,i,aU,b,g,f,k,fG (l:=l),gO,results185]<;>rfl
 |some m=>obtain⟨w,a⟩:=m;simp[go_sem,gg (l:=l),lP c,mM c,d,dO,dN,e,j,i,aU,b,g,f,k,fG (l:=l),gO,results185]<;>rfl
noncomputable def R_:=f144.c.r.r.l.b.b
def HW(i:l.length<=4000){te tn}{a0 a1 a2 a3 a4}{H0}:
  ∀n ks s r α H,n<=900000->mL l n ks s=some r->ks.length+n<=1000000->α 0=.ptr 0 0->α 2=.ptr 1 0->α 3=.ptr 2 0->py l te tn a0 a1 a2 a3 a4 0 2 H0 ks s H->
   aF (aL (aT ak R_) α H) λx E H'=>x=.exit 0/\E 0=.ptr 0 0/\E 2=.ptr 1 0/\E 3=.ptr 2 0/\py l te tn a0 a1 a2 a3 a4 0 2 H0 r.1 r.2 H'
 |0,ks,s,r,α,H,O,d,T,e,b2,h,f=>by cases d
 |n+1,ks,s,r,α,H,O,d,T,e,b2,h,f=>by
  obtain⟨m,L⟩:=H;obtain⟨R,z⟩:=ai.1 f.p;have A:=aC z;have B:=ο R;have W:R_=.seq _ _:=rfl;rw[aJ,W];rw[mL] at d
  cases he:s.err with
  |some x=>
   simp[he] at d;subst d;simp only[go_sem,seval,e,A,B,he,ap2];refine⟨?_,?_,?_,?_,f⟩;all_goals first|trivial|assumption
  |none=>
   generalize C:fC l s=t at d;obtain⟨k,a,b,y⟩:=t;have v:((k:Int) != 0)= !decide (k=0):=sf k 0
   cases hk:decide (k=0) with
   |true=>
    rw[hk] at v;simp[he,hk] at d;subst d;simp only[go_sem,seval,e,A,B,z,he,ψ,kT (l:=l),C,kN,v,ω];refine⟨?_,?_,?_,?_,f⟩;all_goals first|trivial|assumption
   |false=>
    rw[hk] at v;simp[he,hk] at d
    have K:∀x:Nd×PS,∃g q,bu ak 183 [.ptr 2 0,.vec .full [aw x.1]] ⟨m,aH L 0 (.c te (pc l x.2))⟩=some (.tup [],⟨g,q⟩)/\py l te tn a0 a1 a2 a3 a4 0 2 H0 (ks++[x.1]) x.2 ⟨g,q⟩:=by
     intro x;have P:Up ⟨m,L⟩ 0 (.c te (pc l x.2)) ⟨m,aH L 0 (.c te (pc l x.2))⟩:=Up.set f.p;have D:=f.up P;obtain⟨o,N,U⟩:=D.n;obtain⟨j,⟨g,q⟩,w,p1,M,p3,p4⟩:=J3 N (by rw[bL];exact U) (qB ks) (cQ.one x.1) ah (by rw[bL];simp;omega) (o2:=.full);refine⟨g,q,w,p4 0 _ _ aA D.p,⟨.own j,?_,?_⟩,atB D.k.1 p3,λI t cs V J Q=>p4 I t cs J (D.k.2 I t cs V J Q)⟩
     ·rw[tY];exact p1
     ·simpa[bL] using M
    cases hu:dH l s [117,115,101] with
    |true=>
     simp[hu] at d;generalize G:mR l s=u at d;obtain⟨g,q,w,F⟩:=K u;simp[go_sem,e,h,A,B,z,he,ψ,kT (l:=l),C,kN,v,χ,F_ (l:=l),hu,lu rfl rfl (axN i),aU,G,w];refine HW i n _ _ r _ _ aa d aP ?_ ?_ ?_ F;all_goals simp[go_sem,e,b2,h]
    |false=>
     simp[hu] at d
     cases hd:dH l s [100,101,102] with
     |true=>
      simp[hd] at d;obtain⟨x,S,d⟩:=al d;obtain⟨g,q,w,F⟩:=K x;simp[go_sem,e,h,A,B,z,he,ψ,kT (l:=l),C,kN,v,χ,F_ (l:=l),hu,hd,lu rfl rfl (axO i (acJ i n aa)),aU,S,w];refine HW i n _ _ r _ _ aa d aP ?_ ?_ ?_ F;all_goals simp[go_sem,e,b2,h]
     |false=>
      simp[hd] at d;simp[go_sem,e,A,B,z,he,ψ,kT (l:=l),C,kN,v,χ,F_ (l:=l),hu,hd,Fo (l:=l)];refine HW i n _ _ r _ _ aa d aa ?_ ?_ ?_ (f.up (Up.set (x:=.c te (pc l (jA s))) f.p));all_goals simp[go_sem,e,b2,h]
def asT(g:l.length<=4000){n}(hn:n<=90000){r}(h:xe l n=some r):Io ak 144 [] (pc l ⟨0,none⟩) (aw r.1) (pc l r.2):=by
 simp[xe] at h;obtain⟨q,f,h⟩:=al h;cases h;refine fX (c:=.seq _ (.seq _ (.seq (.block 0 (.loop R_)) _))) rfl rfl func144 rfl aA (λte=> ?_) (iL _) (iD l _);simp[go_sem,gg (l:=l)];refine jw ?_;rw[gu];refine aW (HW g n [] ⟨0,none⟩ q _ _ aa f aP ?_ ?_ ?_ (te:=te) (tn:=some 71) (H0:=⟨3,[(2,.k 71 [.i 1,.i (0:Nat),.i 0,.str [],.i 0,.vec .nil []]),(1,.k 71 [.i 0,.i 0,.i 0,.str [],.i 0,.vec .nil []]),(0,.c te (pc l ⟨0,none⟩))]⟩) ⟨rfl,⟨.nil,rfl,.inl ⟨rfl,rfl⟩⟩,ν _,λj t cs _ _ h=>h⟩) ?_
 case refine_4=>
  rintro x ae ⟨m1,L1⟩ ⟨rfl,d0,d,e,a⟩;refine .inl ⟨.inr rfl,?_⟩;obtain⟨v,s⟩:=ai.1 a.p;obtain⟨m,b⟩:=ai.1 (a.k.2 1 (some 71) _ aA aA rfl);obtain⟨o,w,hg⟩:=a.n;obtain⟨u,g3⟩:=ai.1 w;simp only[go_sem,seval,ο v,ο m,ο u,s,b,aC b,aC g3,d0,d,e,fG (l:=l),nK q.1,aR,fV,sK,sO hg,results144];rfl
 all_goals simp[go_sem,]
end
set_option maxRecDepth 100000
def bI:Option Nat->Int|none=> -1|some b=>(b)
def rc(l:List Tok)(e:Option Nat):List AV:=[.vec .ro (V l),.i (bI e)]
def yC(l)(e):(rc l e).map AV.bare=rc l e:=rfl
def kj(l)(e):AV.aq.go (rc l e)=true:=by show((AV.aq.go (V l))&&true)=true;rw[zo];rfl
def asU(l)(e):(rc l e).length=2:=rfl
def A6(l)(e)(p):rc l e≠[.ptr p 0]:=by simp[rc]
def aBF(l)(e):(rc l e)[0]? =some (.vec .ro (V l)):=rfl
def aBG(l)(e):(rc l e)[1]? =some (.i (bI e)):=rfl
def asV{a b}(h:bI a=bI b):a=b:=by
 cases a<;>cases b<;>simp only[bI] at h
 ·rfl
 ·omega
 ·omega
 ·grind
def asW(l)(a b)(h:rc l a=rc l b):a=b:=by simp[rc] at h;exact asV h
def asX(l)(e:Option Nat)(n:Nat):eg (rc l e) 1 [.i n]=rc l (some n):=rfl
def axP(e:Option Nat):decide (bI e<0)=e.isNone:=by
 cases e with
 |none=>rfl
 |some b=>exact ξ (by simp only[bI];omega)
def axQ(e:Option Nat):decide (bI e≥0)=e.isSome:=by
 cases e with
 |none=>rfl
 |some b=>exact π (by simp only[bI];omega)
attribute [go_sem] yC kj asU aBF aBG asX axP axQ
def rg(l:List Tok)(p:Option TypeId×Option Nat):Option bB:=some (.cells p.1 (rc l p.2))
def asY(l)(a b:Option TypeId×Option Nat)(h:rg l a=rg l b):a=b:=by simp[rg,bB.cells.injEq] at h;exact Prod.ext h.1 (asW l _ _ h.2)
def onR{A:Type}(l)(te)(e)(k:Option TypeId×Option Nat->A)(d:A):ia (rg l) (some (.c te (rc l e))) k d=k (te,e):=CQ (asY l) (te,e) k d
attribute [go_sem] onR
section
variable {l:List Tok}
def asZ{a}{x}{b}(h:cV l a x=some b)(e):Io ak 198 [.i a,.str x] (rc l e) (.bool b) (rc l e):=by
 refine fX rfl rfl func198 rfl (by rw[ntmps198];simp) (λte=> ?_) rfl (kj l e);unfold cV at h
 cases hx:l[a]? with
 |none=>rw[hx] at h;cases h
 |some t=>
  rw[hx] at h;obtain⟨k,p,q,y⟩:=t;simp at h;subst h;have d:=uU hx;have f:((k:Int)==2)=decide (k=2):=dF k 2;have c2:((k:Int)==5)=decide (k=5):=dF k 5;have g:jM .eql y x=some (.bool (decide (y=x))):=by simp[jM,aGo]
  by_cases c:k=2
  ·subst c;simp[go_sem,d,g,decide_true,aEO,aF6,results198]<;>rfl
  ·rw[ξ c] at f
   cases h2:decide (k=5) with
   |true=>rw[h2] at c2;simp[go_sem,d,f,c2,g,ξ c,aFr,aF6,results198]<;>rfl
   |false=>rw[h2] at c2;simp[go_sem,d,f,c2,ξ c,aFr,aGi,results198]<;>rfl
def cP(a:Nat)(x:List UInt8)(i:Nat)(H:ab):dD ak (run ak) (.fn (.func 198) [] []) [.ptr i 0,.i a,.str x] H=ia (rg l) (H.get i) (λp=>wm (cV l a x) (λb=>some (.bool b,H)) (dD ak (run ak) (.fn (.func 198) [] []) [.ptr i 0,.i a,.str x] H)) (dD ak (run ak) (.fn (.func 198) [] []) [.ptr i 0,.i a,.str x] H):=
 rI λs c=>Ct λb hb=>by
  rw[sQ (first:=[]) (ar:=[.ptr i 0,.i a,.str x]) (args:=[.i a,.str x]) rfl rfl rfl rfl (A6 l s.2) (yC l s.2) (kj l s.2) c (asZ hb s.2),N1 c]
def vz{a}{x}{b}(h:cV l a x=some b):a<l.length:=by
 unfold cV at h
 cases hx:l[a]? with
 |none=>rw[hx] at h;cases h
 |some t=>exact(φ.1 hx).1
def ajt(hl:l.length<=4000){x:List UInt8}{s c:RS}(h:bZ l x s=some c):Io ak 230 [.i s.at_,.str x] (rc l s.bad) (.i c.at_) (rc l c.bad):=by
 refine fX rfl rfl func230 rfl (by rw[ntmps230];simp) (λte=> ?_) rfl (kj l _);obtain⟨a,e⟩:=s
 cases e with
 |some b=>simp[bZ] at h;subst h;simp[go_sem,ap2,aEf,results230]<;>rfl
 |none=>
  simp[bZ] at h;obtain⟨b,hb,h⟩:=al h;have d:=mh (n:=a) (by have:=vz hb;omega)
  cases b with
  |true=>simp at h;subst h;simp[go_sem,ψ,Β,cP (l:=l),aU,hb,ω,d,results230]<;>rfl
  |false=>simp at h;subst h;simp[go_sem,ψ,aEf,cP (l:=l),aU,hb,χ,results230]<;>rfl
def gy(c:l.length<=4000)(a:Nat)(x:List UInt8)(i:Nat)(H:ab):bu ak 230 [.ptr i 0,.i a,.str x] H=ia (rg l) (H.get i) (λp=>wm (bZ l x ⟨a,p.2⟩) (λs=>some (.i s.at_,H.set i (.cells p.1 (rc l s.bad)))) (bu ak 230 [.ptr i 0,.i a,.str x] H)) (bu ak 230 [.ptr i 0,.i a,.str x] H):=
 rI λs b=>Ct λr d=>sQ (first:=[]) (ar:=[.ptr i 0,.i a,.str x]) (args:=[.i a,.str x]) rfl rfl rfl rfl (A6 l s.2) (yC l s.2) (kj l s.2) b (ajt c d)
def rW(l:List Tok)(s:RS):Option (Option (List UInt8×Nat)×RS):=if s.bad.isNone then bn (l[s.at_]?) λt=>some (if t.1=1 then(some (t.2.2.2,s.at_),⟨s.at_+1,none⟩) else(none,⟨s.at_,some s.at_⟩)) else some (none,s)
def E4(n)(s:RS):iu l n s=bn (rW l s) λq=>some (e9 n q.1,q.2):=by
 unfold iu rW;split
 ·cases l[s.at_]? with
  |none=>rfl
  |some t=>simp[fy];split<;>rfl
 ·rfl
def aju(hl:l.length<=4000)(k f){s:RS}{q:Option (List UInt8×Nat)×RS}(h:rW l s=some q):Io ak 229 [.agg [.i k,.i f,.i 0,.str [],.i 0,.vec .nil []],.i s.at_] (rc l s.bad) (.tup [.agg [.i k,.i f,.i 0,dO (.str []) q.1,dN (.i 0) q.1,.vec .nil []],.i q.2.at_]) (rc l q.2.bad):=by
 refine fX rfl rfl func229 rfl (by rw[ntmps229];simp) (λte=> ?_) (by cases q.1<;>rfl) (kj l _);obtain⟨a,e⟩:=s;unfold rW at h
 cases e with
 |some b=>simp at h;subst h;simp[go_sem,ap2,aEf,dO,dN,results229]<;>rfl
 |none=>
  simp at h;obtain⟨t,g,h⟩:=al h;simp at h;have j:=uU g;have m:=mh (n:=a) (by have:=(φ.1 g).1;omega);have d:((t.1:Int) != 1)= !decide (t.1=1):=sf t.1 1;by_cases c:t.1=1
  ·rw[π c] at d;rw[μ c] at h;subst h;simp[go_sem,ψ,Β,j,d,ω,m,dO,dN,results229]<;>rfl
  ·rw[ξ c] at d;rw[κ c] at h;subst h;simp[go_sem,ψ,aEf,j,d,χ,dO,dN,results229]<;>rfl
def iJ(c:l.length<=4000)(k f)(a:Nat)(i:Nat)(H:ab):bu ak 229 [.ptr i 0,.agg [.i k,.i f,.i 0,.str [],.i 0,.vec .nil []],.i a] H=
  ia (rg l) (H.get i) (λp=>wm (rW l ⟨a,p.2⟩) (λq=>some (.tup [.agg [.i k,.i f,.i 0,dO (.str []) q.1,dN (.i 0) q.1,.vec .nil []],.i q.2.at_],H.set i (.cells p.1 (rc l q.2.bad))))
   (bu ak 229 [.ptr i 0,.agg [.i k,.i f,.i 0,.str [],.i 0,.vec .nil []],.i a] H)) (bu ak 229 [.ptr i 0,.agg [.i k,.i f,.i 0,.str [],.i 0,.vec .nil []],.i a] H):=
 rI λs b=>Ct λr d=>sQ (first:=[]) (ar:=[.ptr i 0,.agg [.i k,.i f,.i 0,.str [],.i 0,.vec .nil []],.i a]) (args:=[.agg [.i k,.i f,.i 0,.str [],.i 0,.vec .nil []],.i a]) rfl rfl rfl rfl (A6 l s.2) (yC l s.2) (kj l s.2) b (aju c k f d)
def am7(k f t a to)(w)(o2:Ab.Own)(es)(c:AV.aq.go es=true)(hb:o2.bare=o2):aK prog (run ak) 201 [.agg [.i k,.i f,.i t,.str w,.i a,.vec .nil []],.i to,.vec o2 es]=some (.agg [.i k,.i f,.i to,.str w,.i a,.vec o2 es]):=by
 have b:AV.aq (.vec o2 es)=true:=by cases o2<;>first|(cases hb;done)|simp[AV.aq,c]
 refine qy rfl rfl func201 rfl (by rw[ntmps201];simp) (bE:=[.agg [.i k,.i f,.i t,.str w,.i a,.vec .nil []],.i to,.vec o2 es]) (by simp[sY,PM,PN,sZ,CN,PO,hb,XH]) (by simp[AV.aq,AV.aq.go] at b⊢;exact b) ?_ (by simp[sY,sZ,CN,PO,hb]) (by simp[AV.aq,AV.aq.go] at b⊢;exact b);simp[go_sem,ab.empty,results201]
def eO(k f t a to)(w)(o2:Ab.Own)(es)(b:AV.aq.go es=true)(H):dD ak (run ak) (.fn (.func 201) [] []) [.agg [.i k,.i f,.i t,.str w,.i a,.vec .nil []],.i to,.vec o2 es] H=some (.agg [.i k,.i f,.i to,.str w,.i a,.vec o2.bare es],H):=by
 have e:aK prog (run ak) 201 [.agg [.i k,.i f,.i t,.str w,.i a,.vec .nil []],.i to,.vec o2 es]=aK prog (run ak) 201 [.agg [.i k,.i f,.i t,.str w,.i a,.vec .nil []],.i to,.vec o2.bare es]:=by simp[aK,sY,PM,PN,Og]
 rw[tS rfl,show ak.P=prog from rfl,e,am7 k f t a to w o2.bare es b (Og o2)];rfl
def dM(l:List Tok)(f:FuncId)(one:RS->RR):Prop:=∀s r,one s=some r->Io ak f [.i s.at_] (rc l s.bad) (.tup [aw r.1,.i r.2.at_]) (rc l r.2.bad)
def kQ{f}{one:RS->RR}(d:ak.cl f=false)(c:ak.io f=true)(h:dM l f one)(a:Nat)(i:Nat)(H:ab):
  bu ak f [.ptr i 0,.i a] H=ia (rg l) (H.get i) (λp=>wm (one ⟨a,p.2⟩) (λr=>some (.tup [aw r.1,.i r.2.at_],H.set i (.cells p.1 (rc l r.2.bad)))) (bu ak f [.ptr i 0,.i a] H)) (bu ak f [.ptr i 0,.i a] H):=
 rI λs b=>Ct λr e=>sQ (first:=[]) (ar:=[.ptr i 0,.i a]) (args:=[.i a]) d c rfl rfl (A6 l s.2) (yC l s.2) (kj l s.2) b (h ⟨a,s.2⟩ r e)
def s_(n)(a):AV.aq (.tup [aw n,.i a])=true:=by simp[AV.aq,AV.aq.go,iL]
def lM(n)(a):(AV.tup [aw n,.i a]).erase=.tup [aw n,.i a]:=by
 cases n with
 |mk k f t w b ks=>cases ks<;>rfl
def aBH(x y):ij 0 (.tup [x,y])=some x:=rfl
def aBI(x y):ij 1 (.tup [x,y])=some y:=rfl
attribute [go_sem] aBH aBI lM
def am8(hl:l.length<=4000){n:Nat}(ih:dM l 262 (R l n .kind)):dM l 248 (R l (n+1) .typed):=by
 intro s r h;refine fX rfl rfl func248 rfl (by rw[ntmps248];simp) (λte=> ?_) (s_ _ _) (kj l _);obtain⟨a,e⟩:=s;simp[R,xq] at h;obtain⟨b,hb,h⟩:=al h
 cases e with
 |some c=>simp at hb;subst hb;simp at h;subst h;simp[go_sem,aEf,aQ,results248]<;>rfl
 |none=>
  simp at hb;have d:=mh (n:=a) (by have:=vz hb;omega)
  cases b with
  |true=>simp at h;simp only[go_sem,seval,Β,cP (l:=l),aU,hb,ω,d,kQ rfl rfl ih,h,results248]<;>rfl
  |false=>simp at h;subst h;simp[go_sem,Β,cP (l:=l),aU,hb,χ,aQ,results248]<;>rfl
end
end Go.Proofs.YtmehamiifalmaaaGreatDoor
