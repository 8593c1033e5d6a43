/- LintCalls: part 10 of its proof. -/
import Derived.Test.YtmehamiifalmaaaGreatDoorG8
import Derived.Test.YtmehamiifalmaaaGreatDoorG7
set_option linter.all false
namespace Go.Proofs.YtmehamiifalmaaaGreatDoor
open Go Go.Ab Go.Proofs.Tryz
inductive Cl where
 |expr|type|opt|stmt|block|Am|params|param|entry|field|item
mutual
def wf(c:Cl)(n:Nd):Bool:=
 match n with
 | .mk k f t w a ks=>
  match c with
  | .expr=>if k=21\/k=22\/k=23\/k=24 then cE [] ks else if k=19\/k=25 then cE [.expr] ks else if 14<=k/\k<=18 then cE [.expr,.expr] ks
   else if k=20 then !ks.isEmpty&&eK .expr ks else if k=26 then eK .entry ks else if k=28 then cE [.params,.opt,.block] ks else false
  | .type=>if k=29\/k=30\/k=31 then cE [] ks else if k=32 then eK .field ks else if k=34 then !ks.isEmpty&&eK .type ks else false
  | .opt=>if k=0 then cE [] ks else if k=29\/k=30\/k=31 then cE [] ks else if k=32 then eK .field ks else if k=34 then !ks.isEmpty&&eK .type ks else false
  | .stmt=>if k=7 then cE [.opt,.expr] ks else if k=8\/k=11\/k=12\/k=13 then cE [.expr] ks else if k=9 then cE [.expr,.block,.Am] ks else if k=10 then cE [.expr,.block] ks else false
  | .block=>if k=6 then eK .stmt ks else false
  | .Am=>if k=0 then cE [] ks else if k=6 then eK .stmt ks else false
  | .params=>if k=4 then eK .param ks else false
  | .param=>if k=5 then cE [.opt] ks else false
  | .entry=>if k=27 then cE [.expr] ks else false
  | .field=>if k=33 then cE [.type] ks else false
  | .item=>if k=2 then cE [.expr] ks else if k=3 then cE [.params,.opt,.block] ks else false
def eK(c:Cl)(l:List Nd):Bool:=
 match l with
 |[]=>true
 |n::r=>wf c n&&eK c r
def cE(cs:List Cl)(l:List Nd):Bool:=
 match l with
 |[]=>cs.isEmpty
 |n::r=>match cs with
  |[]=>false
  |c::cs=>wf c n&&cE cs r
end
def mn(k:Nat):Bool:=k==3||k==5||k==7||k==8||k==23
def qa(k:Nat):Bool:=k==6||k==21||k==22||k==24||k==26||k==29||k==30||k==31||k==32
mutual
def pl:Nd->List Nat
 | .mk k f _ _ a ks=>if k==2 then[a] else(if mn k then[a] else if qa k then[f] else[])++c_ ks
def c_:List Nd->List Nat
 |[]=>[]
 |n::r=>pl n++c_ r
end
mutual
def fr(L:Nat):Nd->Bool
 | .mk k f _ _ _ ks=>(k==0||decide (f<L))&&jc L ks
def jc(L:Nat):List Nd->Bool
 |[]=>true
 |n::r=>fr L n&&jc L r
end
def YO(c:Cl):∀a b:List Nd,eK c (a++b)=(eK c a&&eK c b)
 |[],b=>by simp[eK]
 |x::a,b=>by simp[eK,YO c a b,Bool.and_assoc]
def YP:∀a b:List Nd,c_ (a++b)=c_ a++c_ b
 |[],b=>by simp[c_]
 |x::a,b=>by simp[c_,YP a b]
def YQ(L):∀a b:List Nd,jc L (a++b)=(jc L a&&jc L b)
 |[],b=>by simp[jc]
 |x::a,b=>by simp[jc,YQ L a b,Bool.and_assoc]
structure Rs(lo hi:Nat)(p:List Nat):Prop where
 pw:p.Pairwise (·<·)
 bd:∀x∈p,lo<=x/\x<hi
def Rs.nil(lo hi):Rs lo hi []:=⟨.nil,λx a=>absurd a ai⟩
def Rs.one{lo hi a}(h:lo<=a)(c:a<hi):Rs lo hi [a]:=⟨ai,λx b=>by rw[Μ] at b;subst b;exact⟨h,c⟩⟩
def Rs.less{lo hi b a}{p}(h:Rs lo hi p)(h1:b<=lo)(h2:hi<=a):Rs b a p:=⟨h.pw,λx c=>by have:=h.bd x c;omega⟩
def Rs.app{lo m m' hi}{p q}(h:Rs lo m p)(b:Rs m' hi q)(h1:m<=m')(h2:lo<=m)(h3:m'<=hi):Rs lo hi (p++q):=
 ⟨aEC.2 ⟨h.pw,b.pw,λx c y d=>by have:=h.bd x c;have:=b.bd y d;omega⟩,λx c=>by
  rcases Ω.1 c with a|a
  ·have:=h.bd x a;omega
  ·have:=b.bd x a;omega⟩
structure Gd(L lo hi:Nat)(c:Cl)(n:Nd):Prop where
 w:wf c n=true
 f:fr L n=true
 p:Rs lo hi (pl n)
structure oq(L lo hi:Nat)(c:Cl)(ks:List Nd):Prop where
 w:eK c ks=true
 f:jc L ks=true
 p:Rs lo hi (c_ ks)
def oq.nil(L lo hi)(c:Cl):oq L lo hi c []:=⟨by simp[eK],by simp[jc],by simp[c_];exact .nil lo hi⟩
def oq.snoc{L lo m m' hi}{c}{ks}{n:Nd}(h:oq L lo m c ks)(a:Gd L m' hi c n)(b:m<=m')(d:lo<=m)(e:m'<=hi):oq L lo hi c (ks++[n]):=
 ⟨by simp[YO,eK,h.w,a.w],by simp[YQ,jc,h.f,a.f],by
  rw[YP];simp[c_]
  exact h.p.app a.p b d e⟩
def oq.less{L lo hi b a}{c}{ks}(h:oq L lo hi c ks)(d:b<=lo)(e:hi<=a):oq L b a c ks:=⟨h.w,h.f,h.p.less d e⟩
def Gd.less{L lo hi b a}{c}{n}(h:Gd L lo hi c n)(d:b<=lo)(e:hi<=a):Gd L b a c n:=⟨h.w,h.f,h.p.less d e⟩
section
variable {l:List Tok}
def mF{x}{s:PS}(h:(cA l x s).err=none):s.err=none/\(cA l x s).at_=s.at_+1/\s.at_<l.length:=by
 unfold cA at h⊢
 cases ht:bc l s x with
 |true=>
  simp only[ht,aDp,be] at h⊢;refine⟨h,trivial,?_⟩;by_cases a:s.at_<l.length
  ·exact a
  ·simp[bc,dB,fA,aDq (aD2 a)] at ht
 |false=>
  simp[ht,jL] at h;split at h
  ·cases h
  ·grind
def qV{s:PS}(h:(cT l s).2.err=none):s.err=none/\s.at_<l.length/\∃w,cT l s=(some (w,s.at_),⟨s.at_+1,none⟩):=by
 unfold cT at h⊢;by_cases a:(fA l s).1=1
 ·simp[a] at h⊢
  cases he:s.err with
  |some b=>simp[he] at h
  |none=>
   refine⟨rfl,?_,(fA l s).2.2.2,by simp[be,he]⟩;by_cases c:s.at_<l.length
   ·exact c
   ·simp[fA,aDq (aD2 c)] at a
 ·exfalso;simp[a] at h;unfold jL at h
  cases he:s.err with
  |some b=>simp[he] at h
  |none=>simp[he] at h
def fV{x}{s:PS}(h:bc l s x=true):s.err=none/\s.at_<l.length:=by
 refine⟨?_,?_⟩
 ·cases he:s.err with
  |none=>rfl
  |some b=>simp[bc,he] at h
 ·by_cases a:s.at_<l.length
  ·exact a
  ·simp[bc,dB,fA,aDq (aD2 a)] at h
def Lv(l:List Tok)(c:Cl)(one:PS->PR):Prop:=∀s r,one s=some r->r.2.err=none->s.err=none/\s.at_<=r.2.at_/\Gd l.length s.at_ r.2.at_ c r.1
def YR{c}{one:PS->PR}(a:Lv l c one){e}:∀{n:Nat} {ks:List Nd} {s:PS} {r:List Nd×PS} {lo m:Nat},nu l one e n ks s=some r->r.2.err=none->s.err=none/\(oq l.length lo m c ks->lo<=m->m<=s.at_->s.at_<=r.2.at_/\oq l.length lo r.2.at_ c r.1)
 |0,ks,s,r,lo,m,h,_=>by cases h
 |n+1,ks,s,r,lo,m,h,o=>by
  rw[nu] at h
  cases hs:s.err with
  |some b=>grind
  |none=>
   refine⟨rfl,λhg g hm=> ?_⟩;simp[hs] at h;obtain⟨x,i,h⟩:=al h
   cases ht:bc l x.2 e with
   |true=>simp[ht] at h;subst h;obtain⟨_,f,d⟩:=a _ _ i (fV ht).1;simp[be];exact⟨aa,(hg.snoc d hm g aa).less (μ _) (awF _)⟩
   |false=>simp[ht] at h;obtain⟨f,d⟩:=YR a (lo:=lo) (m:=x.2.at_) h o;obtain⟨p,h4,_⟩:=mF f;obtain⟨_,h5,j⟩:=a _ _ i p;obtain⟨h7,k⟩:=d (hg.snoc j hm g aa) aa aa;exact⟨aa,k⟩
def Et{c}{one:PS->PR}(b:Lv l c one){e}{n}{ks}{s:PS}{r}{lo m}(h:mc l one e n ks s=some r)(a:r.2.err=none):s.err=none/\(oq l.length lo m c ks->lo<=m->m<=s.at_->s.at_<=r.2.at_/\oq l.length lo r.2.at_ c r.1):=by
 rw[mc] at h
 cases ht:bc l s e with
 |true=>simp[ht] at h;subst h;refine⟨(fV ht).1,λhg oL hm=> ?_⟩;simp only[be];exact⟨awF _,hg.less (μ _) aa⟩
 |false=>simp[ht] at h;exact YR b h a
def Xb{one:PS->PR}(a:Lv l .stmt one):∀{n:Nat} {ks:List Nd} {s:PS} {r:List Nd×PS} {lo m:Nat},nU l one n ks s=some r->r.2.err=none->s.err=none/\(oq l.length lo m .stmt ks->lo<=m->m<=s.at_->s.at_<=r.2.at_/\oq l.length lo r.2.at_ .stmt r.1)
 |0,ks,s,r,lo,m,h,_=>by cases h
 |n+1,ks,s,r,lo,m,h,e=>by
  rw[nU] at h
  cases hs:s.err with
  |some b=>grind
  |none=>
   refine⟨rfl,λhg i hm=> ?_⟩;simp[hs] at h
   cases ht:bc l s [125] with
   |true=>simp[ht] at h;subst h;simp only[be];exact⟨awF _,hg.less (μ _) aa⟩
   |false=>simp[ht] at h;obtain⟨x,j,h⟩:=al h;obtain⟨g,f⟩:=Xb a (lo:=lo) (m:=x.2.at_) h e;obtain⟨_,h5,c⟩:=a _ _ j g;obtain⟨h7,d⟩:=f (hg.snoc c hm i aa) aa (μ _);exact⟨aa,d⟩
end
def Qe{L lo hi k f t a}{w}{ks}{c}(b:wf c (.mk k f t w a ks)=true)(e:f<L)(h:k≠2)(g:jc L ks=true)(d:Rs lo hi ((if mn k then[a] else if qa k then[f] else[])++c_ ks)):Gd L lo hi c (.mk k f t w a ks):=
 ⟨b,by simp[fr,e,g],by
  simp[pl];rw[κ (by simpa using h)]
  exact d⟩
def rP{L lo hi k f t a}{w}{ks}{c}(d:wf c (.mk k f t w a ks)=true)(g:f<L)(h:mn k=false)(b:k≠2/\qa k=false)(i:jc L ks=true)(e:Rs lo hi (c_ ks)):Gd L lo hi c (.mk k f t w a ks):=
 Qe d g b.1 i (by rw[h];simpa[b.2] using e)
def FA{L lo hi k f t a}{w}{ks}{c}(d:wf c (.mk k f t w a ks)=true)(g:f<L)(b:mn k=true)(h:jc L ks=true)(j:lo<=a)(i:a+1<=hi)(e:Rs (a+1) hi (c_ ks)):Gd L lo hi c (.mk k f t w a ks):=
 Qe d g (by rintro rfl;cases b) h (by rw[b,ν rfl];exact(Rs.one (lo:=lo) (hi:=a+1) j (Nat.lt_succ_self _)).app e (μ _) aa i)
def A2{L lo hi k f t a}{w}{ks}{c}(h:mn k=false)(m:qa k=true)(l:k≠2)(b:wf c (.mk k f t w a ks)=true)(e:f<L)(g:jc L ks=true)(j:lo<=f)(i:f+1<=hi)(d:Rs (f+1) hi (c_ ks)):Gd L lo hi c (.mk k f t w a ks):=
 Qe b e l g (by
  rw[h,m];show Rs lo hi ([f]++c_ ks)
  exact(Rs.one (lo:=lo) (hi:=f+1) j (Nat.lt_succ_self _)).app d (μ _) aa i)
def yI(x):c_ [x]=pl x:=by simp[c_]
def Ru(x y):c_ [x,y]=pl x++pl y:=by simp[c_]
def JH(x y z):c_ [x,y,z]=pl x++(pl y++pl z):=by simp[c_]
def C1(L)(x):jc L [x]=fr L x:=by simp[jc]
def Rv(L)(x y):jc L [x,y]=(fr L x&&fr L y):=by simp[jc]
def JI(L)(x y z):jc L [x,y,z]=(fr L x&&(fr L y&&fr L z)):=by simp[jc]
def Rw{L lo hi}{n:Nd}(h:Gd L lo hi .expr n):n.f<L:=by
 obtain⟨k,f,t,w,a,ks⟩:=n;have c:=h.f;have d:=h.w;simp[fr] at c;rcases c.1 with b|b
 ·subst b;simp[wf] at d
 ·exact b
def arI{n}(h:wf .type n=true):wf .opt n=true:=by
 obtain⟨k,f,t,w,a,ks⟩:=n;simp[wf] at h⊢;by_cases b:k=0
 ·subst b;simp at h
 ·simpa[b] using h
def awr{n}(h:wf .block n=true):wf .Am n=true:=by
 obtain⟨k,f,t,w,a,ks⟩:=n;simp[wf] at h⊢;by_cases b:k=6
 ·grind
 ·simp[b] at h
def ID(L lo hi){c}(h:c=.opt\/c=.Am):Gd L lo hi c eG:=by
 refine⟨?_,by simp[eG,fr,jc],by simp[eG,pl,c_,mn,qa];first|exact .nil lo hi|(simp;exact .nil lo hi)⟩
 rcases h with rfl|rfl<;>simp[eG,wf,cE]
section
variable {l:List Tok}
def N'{one}(i:Lv l .expr one){k lo m}(b:14<=k/\k<=18){a}{s:PS}{r}(h:lL k a one s=some r)(j:r.2.err=none):s.err=none/\(Gd l.length lo m .expr a->lo<=m->m<=s.at_->s.at_<=r.2.at_/\Gd l.length lo r.2.at_ .expr r.1):=by
 obtain⟨x,q,h⟩:=al h;cases h;obtain⟨n,d,c⟩:=i _ _ q j;refine⟨n,λhg o hm=>⟨d,rP ?_ (Rw hg) ?_ ⟨aa,by obtain⟨q1,q2⟩:=b;have:k=14\/k=15\/k=16\/k=17\/k=18:=aa;rcases this with rfl|rfl|rfl|rfl|rfl<;>rfl⟩ (by rw[Rv,hg.f,c.f];rfl) (by rw[Ru];exact hg.p.app c.p hm o d)⟩⟩
 ·have e:¬(k=21\/k=22\/k=23\/k=24):=aa;have g:¬(k=19\/k=25):=aa;simp[wf,e,g,b,cE,hg.w,c.w]
 ·obtain⟨e,g⟩:=b;have:k=14\/k=15\/k=16\/k=17\/k=18:=aa;rcases this with rfl|rfl|rfl|rfl|rfl<;>rfl
def YS{one}{e}:∀{n:Nat} {ks:List Nd} {s:PS} {r:List Nd×PS},nu l one e n ks s=some r->ks.length<=r.1.length
 |0,ks,s,r,h=>by cases h
 |n+1,ks,s,r,h=>by
  rw[nu] at h;split at h
  ·obtain⟨x,hx,h⟩:=al h;split at h
   ·cases h;simp
   ·have:=YS h;simp at this;omega
  ·cases h;simp
def al6{one}{e}{n}{ks:List Nd}{s}{r}(h:mc l one e n ks s=some r):ks.length<=r.1.length:=by
 rw[mc] at h;split at h
 ·cases h;simp
 ·exact YS h
def YT{one}(c:Lv l .expr one):∀{n:Nat} {a:Nd} {s:PS} {r:Nd×PS} {lo:Nat},k_ l one n a s=some r->r.2.err=none->s.err=none/\(Gd l.length lo s.at_ .expr a->lo<=s.at_->s.at_<=r.2.at_/\Gd l.length lo r.2.at_ .expr r.1)
 |0,a,s,r,lo,h,_=>by cases h
 |n+1,a,s,r,lo,h,g=>by
  rw[k_] at h
  cases hs:s.err with
  |some b=>grind
  |none=>
   refine⟨rfl,λhg q=> ?_⟩;simp[hs] at h;have go:∀k,14<=k/\k<=18->(bn (lL k a one (be s)) λr=>k_ l one n r.1 r.2)=some r->s.at_<=r.2.at_/\Gd l.length lo r.2.at_ .expr r.1:=by intro k d h;obtain⟨x,t,h⟩:=al h;obtain⟨o,i⟩:=YT c (lo:=lo) h g;obtain⟨_,j⟩:=N' c (lo:=lo) (m:=s.at_) d t o;obtain⟨p,e⟩:=j hg q (awF _);simp[be] at p;obtain⟨h7,f⟩:=i e aa;exact⟨aa,f⟩
   split at h
   ·grind
   ·grind
def Xc{one}(b:Lv l .expr one):∀{n:Nat} {a:Nd} {s:PS} {r:Nd×PS} {lo:Nat},qA l one n a s=some r->r.2.err=none->s.err=none/\(Gd l.length lo s.at_ .expr a->lo<=s.at_->s.at_<=r.2.at_/\Gd l.length lo r.2.at_ .expr r.1)
 |0,a,s,r,lo,h,_=>by cases h
 |n+1,a,s,r,lo,h,e=>by
  rw[qA] at h
  cases ht:bc l s [42] with
  |true=>simp[ht] at h;refine⟨(fV ht).1,λhg k=> ?_⟩;obtain⟨x,o,h⟩:=al h;obtain⟨i,f⟩:=Xc b (lo:=lo) h e;obtain⟨_,g⟩:=N' b (lo:=lo) (m:=s.at_) aa o i;obtain⟨j,c⟩:=g hg k (awF _);simp[be] at j;obtain⟨h7,d⟩:=f c aa;exact⟨aa,d⟩
  |false=>grind
def Nw{one}(e:Lv l .expr one):∀{n:Nat} {a:Nd} {s:PS} {r:Nd×PS} {lo:Nat},nk l one n a s=some r->r.2.err=none->s.err=none/\(Gd l.length lo s.at_ .expr a->lo<=s.at_->s.at_<=r.2.at_/\Gd l.length lo r.2.at_ .expr r.1)
 |0,a,s,r,lo,h,_=>by cases h
 |n+1,a,s,r,lo,h,o=>by
  rw[nk] at h
  cases hs:s.err with
  |some b=>grind
  |none=>
   refine⟨rfl,λhg z=> ?_⟩;simp[hs] at h
   cases ht:bc l s [46] with
   |true=>
    simp[ht] at h;obtain⟨j,c⟩:=Nw e (lo:=lo) h o;obtain⟨_,i,w,k⟩:=qV j;rw[k] at c;simp[be] at c i k;have u:Gd l.length lo (s.at_+1+1) .expr (ij (eY (.mk 19 a.f 0 [] 0 [a]) (some (w,s.at_+1))) (s.at_+1+1)):=by show Gd l.length lo (s.at_+1+1) .expr (.mk 19 a.f (s.at_+1+1) w (s.at_+1) [a]);exact rP (by simp[wf,cE,hg.w]) (Rw hg) rfl aA (by simp[jc,hg.f]) (by rw[yI];exact hg.p.less (μ _) aa)
    obtain⟨v,g⟩:=c u aa;exact⟨aa,g⟩
   |false=>
    simp[ht] at h;split at h
    ·obtain⟨x,q,h⟩:=al h;obtain⟨j,c⟩:=Nw e (lo:=lo) h o;obtain⟨_,i⟩:=Et e (lo:=lo) (m:=s.at_) q j;obtain⟨y,d⟩:=i ⟨by simp[eK,hg.w],by simp[jc,hg.f],by rw[yI];exact hg.p⟩ z (awF _);simp[be] at y
     have t:x.1.isEmpty=false:=by
      have:=al6 q
      cases hx1:x.1 with
      |nil=>simp[hx1] at this
      |cons _ _=>rfl
     obtain⟨v,g⟩:=c (rP (by simp[wf,d.w,t]) (Rw hg) rfl aA d.f d.p) aa;exact⟨aa,g⟩
    ·grind
def Task.cl:Task->Cl
 | .kind=>.type| .field=>.field| .typed=>.opt| .params=>.params| .param=>.param| .block=>.block| .stmt=>.stmt| .expr=>.expr| .sum=>.expr| .term=>.expr| .post=>.expr| .atom=>.expr| .entry=>.entry
def Fg(k f t)(ks ms)(w)(a):ij (iX (eY (.mk k f 0 [] 0 ks) (some (w,a))) ms) t=.mk k f t w a (ks++ms):=rfl
def An:∀n task,Lv l task.cl (P l n task)
 |0,task=>λs r h=>by cases task<;>cases h
 |n+1,task=>by
  have ih:=λt=>An n t;intro s r h c
  cases task with
  |kind=>
   rw[P] at h;simp only at h
   have d:∀k,k=29\/k=30\/k=31->s.err=none->s.at_<l.length->Gd l.length s.at_ (s.at_+1) .type (.mk k s.at_ (s.at_+1) [] 0 []):=λk B _ V=>by
    refine A2 ?_ ?_ aa (by simp[wf,B,cE]) V rfl (μ _) (μ _) (by simp[c_];exact .nil _ _);all_goals(rcases B with rfl|rfl|rfl<;>rfl)
   split at h
   ·rename_i a;cases h;exact⟨(fV a).1,awF _,d 29 dP (fV a).1 (fV a).2⟩
   split at h
   ·rename_i a;cases h;exact⟨(fV a).1,awF _,d 30 dP (fV a).1 (fV a).2⟩
   split at h
   ·rename_i a;cases h;exact⟨(fV a).1,awF _,d 31 dP (fV a).1 (fV a).2⟩
   split at h
   ·rename_i a;obtain⟨x,b,h⟩:=al h;cases h;obtain⟨_,F⟩:=Et (ih .field) (lo:=s.at_+1) (m:=s.at_+1) b c;obtain⟨H,q⟩:=F (.nil _ _ _ _) (μ _) (μ _);simp[be] at H;have E:=q.w;simp[Task.cl] at E;exact⟨(fV a).1,dP,A2 rfl rfl aA (by simp[wf,Task.cl,E]) (fV a).2 q.f (μ _) dP q.p⟩
   split at h
   ·rename_i a;obtain⟨x,b,h⟩:=al h;obtain⟨y,D,h⟩:=al h;cases h;obtain⟨i,g2,g3⟩:=ih .kind _ _ D c;obtain⟨o,u,_⟩:=mF i;obtain⟨g,F⟩:=Et (ih .kind) (lo:=s.at_) (m:=s.at_) b o;obtain⟨j,g8,_⟩:=mF g;have KR:(be s).at_=s.at_+1:=rfl;obtain⟨H,q⟩:=F (.nil _ _ _ _) (μ _) dP;have M:=q.snoc g3 dP dP dP;have I:=M.w;simp[Task.cl] at I;exact⟨(fV a).1,dP,rP (by simp[wf,Task.cl,I]) (fV a).2 rfl aA M.f M.p⟩
   ·cases h;simp[jL] at c;split at c
    ·cases c
    ·grind
  |field=>rw[P] at h;obtain⟨x,b,h⟩:=al h;cases h;obtain⟨i,g2,g3⟩:=ih .kind _ _ b c;obtain⟨o,u,_⟩:=mF i;obtain⟨g,j,w,A⟩:=qV o;rw[A] at u g2 g3⊢;simp only at u g2 g3;refine⟨g,dP,?_⟩;rw[Fg,aDl];exact rP (by simp[wf,cE,Task.cl];exact g3.w) j rfl aA (by rw[C1];exact g3.f) (by rw[yI];exact g3.p.less dP (μ _))
  |entry=>rw[P] at h;obtain⟨x,b,h⟩:=al h;cases h;obtain⟨i,g2,g3⟩:=ih .expr _ _ b c;obtain⟨o,u,_⟩:=mF i;obtain⟨g,j,w,A⟩:=qV o;rw[A] at u g2 g3⊢;simp only at u g2 g3;refine⟨g,dP,?_⟩;rw[Fg,aDl];exact rP (by simp[wf,cE,Task.cl];exact g3.w) j rfl aA (by rw[C1];exact g3.f) (by rw[yI];exact g3.p.less dP (μ _))
  |param=>rw[P] at h;obtain⟨x,b,h⟩:=al h;cases h;obtain⟨i,g2,g3⟩:=ih .typed _ _ b c;obtain⟨g,j,w,A⟩:=qV i;rw[A] at g2 g3⊢;simp only at g2;refine⟨g,dP,?_⟩;rw[Fg,aDl];exact FA (by simp[wf,cE,Task.cl];exact g3.w) j rfl (by rw[C1];exact g3.f) (μ _) dP (by rw[yI];exact g3.p)
  |typed=>
   rw[P] at h;split at h
   ·rename_i a;obtain⟨i,g2,g3⟩:=ih .kind _ _ h c;simp[be] at g2;exact⟨(fV a).1,aa,⟨arI g3.w,g3.f,g3.p.less (awF _) (μ _)⟩⟩
   ·cases h;exact⟨c,μ _,ID _ _ _ (.inl rfl)⟩
  |params=>rw[P] at h;obtain⟨x,b,h⟩:=al h;cases h;obtain⟨i,F⟩:=Et (ih .param) (lo:=s.at_) (m:=s.at_) b c;obtain⟨o,u,g⟩:=mF i;obtain⟨H,q⟩:=F (.nil _ _ _ _) (μ _) dP;have E:=q.w;simp[Task.cl] at E;exact⟨o,dP,rP (by simp[wf,Task.cl,E]) g rfl aA q.f q.p⟩
  |block=>rw[P] at h;obtain⟨x,b,h⟩:=al h;cases h;obtain⟨i,F⟩:=Xb (ih .stmt) (lo:=s.at_+1) (m:=s.at_+1) b c;obtain⟨o,u,g⟩:=mF i;obtain⟨H,q⟩:=F (.nil _ _ _ _) (μ _) dP;have E:=q.w;exact⟨o,dP,A2 rfl rfl aA (by simp[wf,Task.cl,E]) g q.f (μ _) dP q.p⟩
  |expr=>
   rw[P] at h;obtain⟨x,b,h⟩:=al h;have S:∀k,14<=k/\k<=18->lL k x.1 (P l n .sum) (be x.2)=some r->s.err=none/\s.at_<=r.2.at_/\Gd l.length s.at_ r.2.at_ .expr r.1:=λk B h=>by obtain⟨i,g2⟩:=N' (ih .sum) (lo:=s.at_) (m:=x.2.at_) B h c;obtain⟨g3,o,u⟩:=ih .sum _ _ b i;obtain⟨g,j⟩:=g2 u o (awF _);simp[be] at g;exact⟨g3,aa,j⟩
   split at h
   ·exact S 14 dP h
   split at h
   ·exact S 15 dP h
   ·cases h;exact ih .sum _ _ b c
  |sum=>rw[P] at h;obtain⟨x,b,h⟩:=al h;obtain⟨i,g2⟩:=YT (ih .term) (lo:=s.at_) h c;obtain⟨g3,o,u⟩:=ih .term _ _ b i;obtain⟨g,j⟩:=g2 u o;exact⟨g3,aa,j⟩
  |term=>rw[P] at h;obtain⟨x,b,h⟩:=al h;obtain⟨i,g2⟩:=Xc (ih .post) (lo:=s.at_) h c;obtain⟨g3,o,u⟩:=ih .post _ _ b i;obtain⟨g,j⟩:=g2 u o;exact⟨g3,aa,j⟩
  |post=>rw[P] at h;obtain⟨x,b,h⟩:=al h;obtain⟨i,g2⟩:=Nw (ih .expr) (lo:=s.at_) h c;obtain⟨g3,o,u⟩:=ih .atom _ _ b i;obtain⟨g,j⟩:=g2 u o;exact⟨g3,aa,j⟩
  |atom=>
   rw[P] at h;simp only at h
   have R:(fA l s).1≠0->s.at_<l.length:=λB=>by
    by_cases Q:s.at_<l.length
    ·exact Q
    ·simp[fA,aDq (aD2 Q)] at B
   split at h
   ·rename_i a;cases h;exact⟨c,awF _,A2 rfl rfl aA (by simp[wf,cE,Task.cl]) (R dP) rfl (μ _) (μ _) (by simp[c_];exact .nil _ _)⟩
   split at h
   ·rename_i a;cases h;exact⟨c,awF _,A2 rfl rfl aA (by simp[wf,cE,Task.cl]) (R dP) rfl (μ _) (μ _) (by simp[c_];exact .nil _ _)⟩
   split at h
   ·cases h;obtain⟨g,j,w,A⟩:=qV c;rw[A];refine⟨g,awF _,?_⟩;show Gd l.length s.at_ (s.at_+1) .expr (.mk 23 s.at_ (s.at_+1) w s.at_ []);exact FA (by simp[wf,cE]) j rfl rfl (μ _) (μ _) (by simp[c_];exact .nil _ _)
   split at h
   ·rename_i a;cases h;exact⟨(fV a).1,awF _,A2 rfl rfl aA (by simp[wf,cE,Task.cl]) (fV a).2 rfl (μ _) (μ _) (by simp[c_];exact .nil _ _)⟩
   split at h
   ·rename_i a;obtain⟨x,b,h⟩:=al h;cases h;obtain⟨o,u,_⟩:=mF c;obtain⟨i,g2,g3⟩:=ih .expr _ _ b o;simp[be] at g2;exact⟨(fV a).1,dP,rP (by simp[wf,cE,Task.cl];exact g3.w) (fV a).2 rfl aA (by rw[C1];exact g3.f) (by rw[yI];exact g3.p.less (awF _) dP)⟩
   split at h
   ·rename_i a;obtain⟨x,b,h⟩:=al h;cases h;obtain⟨_,F⟩:=Et (ih .entry) (lo:=s.at_+1) (m:=s.at_+1) b c;obtain⟨H,q⟩:=F (.nil _ _ _ _) (μ _) (μ _);simp[be] at H;have E:=q.w;simp[Task.cl] at E;exact⟨(fV a).1,dP,A2 rfl rfl aA (by simp[wf,Task.cl,E]) (fV a).2 q.f (μ _) dP q.p⟩
   split at h
   ·rename_i a;obtain⟨x,b,h⟩:=al h;obtain⟨y,D,h⟩:=al h;obtain⟨z,N,h⟩:=al h;cases h;obtain⟨C,c2,e⟩:=ih .block _ _ N c;obtain⟨b1,b2,v⟩:=ih .typed _ _ D C;obtain⟨a1,a2,a3⟩:=ih .params _ _ b b1;simp[be] at a2
    exact⟨(fV a).1,dP,rP (by simp[wf,cE,Task.cl];exact⟨a3.w,v.w,e.w⟩) (fV a).2 rfl aA (by rw[JI,a3.f,v.f,e.f];rfl)
     (by rw[JH];exact(a3.p.less (awF _) (μ _)).app (v.p.app e.p (μ _) b2 c2) (μ _) dP dP)⟩
   ·cases h;simp[jL] at c;split at c
    ·cases c
    ·grind
  |stmt=>
   rw[P] at h;simp only at h;split at h
   ·rename_i a;obtain⟨x,b,h⟩:=al h;obtain⟨y,D,h⟩:=al h;cases h;obtain⟨G,K,_⟩:=mF c;obtain⟨C,c2,e⟩:=ih .expr _ _ D G;obtain⟨b1,b2,_⟩:=mF C;obtain⟨a1,a2,a3⟩:=ih .typed _ _ b b1;obtain⟨g,j,w,A⟩:=qV a1;rw[A] at a2 a3⊢;simp[be] at a2 a3 j;refine⟨(fV a).1,dP,?_⟩;show Gd l.length s.at_ _ .stmt (.mk 7 s.at_ _ w (s.at_+1) [x.1,y.1])
    exact FA (by simp[wf,cE];exact⟨a3.w,e.w⟩) (fV a).2 rfl (by rw[Rv,a3.f,e.f];rfl) dP dP
     (by rw[Ru];exact a3.p.app (e.p.less (μ _) dP) dP dP dP)
   split at h
   ·rename_i a;obtain⟨x,b,h⟩:=al h;obtain⟨y,D,h⟩:=al h;split at h
    ·rename_i W;obtain⟨z,N,h⟩:=al h;cases h;obtain⟨C,c2,e⟩:=ih .block _ _ N c;obtain⟨b1,b2,v⟩:=ih .block _ _ D (fV W).1;obtain⟨a1,a2,a3⟩:=ih .expr _ _ b b1;simp[be] at a2 c2
     exact⟨(fV a).1,dP,rP (by simp[wf,cE,Task.cl];exact⟨a3.w,v.w,awr e.w⟩) (fV a).2 rfl aA (by rw[JI,a3.f,v.f,e.f];rfl)
      (by rw[JH];exact(a3.p.less (awF _) (μ _)).app (v.p.app (e.p.less (awF _) (μ _)) (μ _) b2 dP) (μ _) dP dP)⟩
    ·cases h;obtain⟨b1,b2,v⟩:=ih .block _ _ D c;obtain⟨a1,a2,a3⟩:=ih .expr _ _ b b1;simp[be] at a2
     exact⟨(fV a).1,dP,rP (by simp[wf,cE,Task.cl];exact⟨a3.w,v.w,(ID 0 0 0 (.inr rfl)).w⟩) (fV a).2 rfl aA (by rw[JI,a3.f,v.f,(ID l.length 0 0 (.inr rfl)).f];rfl)
      (by rw[JH];exact(a3.p.less (awF _) (μ _)).app (v.p.app ((ID l.length y.2.at_ y.2.at_ (.inr rfl)).p) (μ _) b2 (μ _)) (μ _) dP b2)⟩
   split at h
   ·rename_i a;obtain⟨x,b,h⟩:=al h;obtain⟨y,D,h⟩:=al h;cases h;obtain⟨b1,b2,v⟩:=ih .block _ _ D c;obtain⟨a1,a2,a3⟩:=ih .expr _ _ b b1;simp[be] at a2
    exact⟨(fV a).1,dP,rP (by simp[wf,cE,Task.cl];exact⟨a3.w,v.w⟩) (fV a).2 rfl aA (by rw[Rv,a3.f,v.f];rfl)
     (by rw[Ru];exact(a3.p.less (awF _) (μ _)).app v.p (μ _) dP b2)⟩
   have d:∀k x,k=11\/k=12\/k=13->∀J:PS,P l n .expr J=some x->r=(ij (.mk k s.at_ 0 [] 0 [x.1]) (cA l [59] x.2).at_,cA l [59] x.2)->s.at_<=J.at_->(J.err=none->s.at_<l.length/\s.err=none)->s.err=none/\s.at_<=r.2.at_/\Gd l.length s.at_ r.2.at_ .stmt r.1:=by rintro k x B J b rfl U T;obtain⟨G,K,_⟩:=mF c;obtain⟨C,c2,e⟩:=ih .expr _ _ b G;refine⟨(T C).2,dP,?_⟩;show Gd l.length s.at_ _ .stmt (.mk k s.at_ _ [] 0 [x.1]);have L:k≠7:=aa;refine rP (by simp[wf,cE,L,B];exact e.w) (T C).1 ?_ ⟨aa,by rcases B with rfl|rfl|rfl<;>rfl⟩ (by rw[C1];exact e.f) (by rw[yI];exact e.p.less U dP);rcases B with rfl|rfl|rfl<;>rfl
   split at h
   ·rename_i a;obtain⟨x,b,h⟩:=al h;simp at h;exact d 11 x dP _ b h.symm (awF _) (λ_=>⟨(fV a).2,(fV a).1⟩)
   split at h
   ·rename_i a;obtain⟨x,b,h⟩:=al h;simp at h;exact d 12 x dP _ b h.symm (awF _) (λ_=>⟨(fV a).2,(fV a).1⟩)
   split at h
   ·obtain⟨x,b,h⟩:=al h;cases h;obtain⟨G,K,_⟩:=mF c;obtain⟨C,c2,e⟩:=ih .expr _ _ b G;obtain⟨b1,b2,_⟩:=mF C;obtain⟨g,j,w,A⟩:=qV b1;rw[A] at b2 c2 e⊢;simp only at b2 c2 e;refine⟨g,dP,?_⟩;show Gd l.length s.at_ _ .stmt (.mk 8 s.at_ _ w s.at_ [x.1]);exact FA (by simp[wf,cE];exact e.w) j rfl (by rw[C1];exact e.f) (μ _) dP (by rw[yI];exact e.p.less dP dP)
   ·obtain⟨x,b,h⟩:=al h;simp at h;refine d 13 x dP s b h.symm (μ _) (λX=>⟨?_,X⟩);have O:=c;rw[<-h] at O;obtain⟨G,K,d3⟩:=mF O;obtain⟨C,c2,e⟩:=ih .expr _ _ b G;omega
end
structure Bi where
 at_:Nat
 k:Nat
 w:List UInt8
 item:Nat
structure Me where
 at_:Nat
 to:Option Nat
 wr:Bool
 bD:Nat
structure Mp where
 bs:List Bi
 ms:List Me
 bad:List (Nat×Nat)
inductive RN where
 |e9 (lam:Bool)
 |nm (i:Nat)
def jd(bs:List Bi)(i:Nat)(w:List UInt8):Bool:=match bs[i]? with|some b=>decide (b.w=w)|none=>false
def sN(bs:List Bi)(w:List UInt8):List RN->Bool
 |[]=>false
 | .e9 _::_=>false
 | .nm i::r=>jd bs i w||sN bs w r
def fe(m:Mp)(l:List RN)(n:Nd)(k item:Nat):Mp:=⟨m.bs++[⟨n.a,k,n.w,item⟩],m.ms,if sN m.bs n.w l then m.bad++[(n.a,31)] else m.bad⟩
def me(bs:List Bi)(w:List UInt8):List RN->Nat->Option (Nat×Nat)
 |[],_=>none
 | .e9 lam::r,bD=>me bs w r (if lam then bD+1 else bD)
 | .nm i::r,bD=>if jd bs i w then some (i,bD) else me bs w r bD
def rE(bs:List Bi)(i:Nat):Nat:=match bs[i]? with|some b=>b.k|none=>0
def eH(m:Mp)(l:List RN)(n:Nd)(wr:Bool):Mp:=
 match me m.bs n.w l 0 with
 |none=>⟨m.bs,m.ms++[⟨n.a,none,wr,0⟩],m.bad++[(n.a,30)]⟩
 |some (i,bD)=>if 3<=rE m.bs i then⟨m.bs,m.ms++[⟨n.a,some i,wr,bD⟩],m.bad⟩ else⟨m.bs,m.ms++[⟨n.a,some i,wr,0⟩],if wr then m.bad++[(n.a,35)] else m.bad⟩
def iD(item:Nat):Mp->List RN->List Nd->Mp×List RN
 |m,l,[]=>(m,l)
 |m,l,n::r=>iD item (fe m l n 3 item) (.nm m.bs.length::l) r
mutual
def eJ(item:Nat)(m:Mp)(l:List RN)(n:Nd):Mp×List RN:=
 match n with
 | .mk k f t w a ks=>
  if k=23 then(eH m l (.mk k f t w a ks) false,l)
  else if k=28 then(jH item true m l ks,l)
  else
   let q:=dj item (if k=8 then eH m l (.mk k f t w a ks) true else m) (if k=6 then .e9 false::l else l) ks
   if k=7 then(fe q.1 q.2 (.mk k f t w a ks) 4 item,.nm q.1.bs.length::q.2) else if k=6 then(q.1,l) else q
def dj(item:Nat)(m:Mp)(l:List RN)(ks:List Nd):Mp×List RN:=
 match ks with
 |[]=>(m,l)
 |n::r=>let q:=eJ item m l n;dj item q.1 q.2 r
def jH(item:Nat)(lam:Bool)(m:Mp)(l:List RN)(ks:List Nd):Mp:=
 match ks with
 |[p,_,b]=>let q:=iD item m (.e9 lam::l) p.ks;(eJ item q.1 q.2 b).1
 |_=>m
end
def dO:Nat->Mp->List RN->List Nd->Mp×List RN
 |_,m,l,[]=>(m,l)
 |i,m,l,n::r=>if n.k=2 then dO (i+1) (fe m l n 1 i) (.nm m.bs.length::l) r else if n.k=3 then dO (i+1) (fe m l n 2 i) (.nm m.bs.length::l) r else dO (i+1) m l r
def gk(l:List RN):Nat->Mp->List Nd->Mp
 |_,m,[]=>m
 |i,m,n::r=>gk l (i+1) (if n.k=3 then jH i false m l n.ks else m) r
def iK(n:Nd):Mp:=let q:=dO 0 ⟨[],[],[]⟩ [] n.ks;gk q.2 0 q.1 n.ks
def kQ(m:Mp):List Nat:=m.bs.map (·.at_)++m.ms.map (·.at_)
def aiL(m)(l:List RN)(n:Nd)(k item:Nat):(kQ (fe m l n k item)).Perm (n.a::kQ m):=by simp only[kQ,fe,aEw,aDm,aEr,adv];exact List.perm_middle
def afc(m)(l:List RN)(n:Nd)(wr:Bool):(kQ (eH m l n wr)).Perm (n.a::kQ m):=by
 have:∀x:Me,x.at_=n.a->(m.bs.map (·.at_)++(m.ms++[x]).map (·.at_)).Perm (n.a::kQ m):=by intro x b;simp[kQ,aEw,b];rw[<-List.append_assoc];exact(aER (l₁:=m.bs.map (·.at_)++m.ms.map (·.at_)) (l₂:=[n.a]))
 unfold eH;split
 ·exact this _ rfl
 ·split
  ·exact this _ rfl
  ·exact this _ rfl
def Cl.l8:Cl->Bool
 | .item=>true
 |_=>false
def Oa{c:Cl}(b:c.l8=false):∀{l:List Nd},eK c l=true->∀x∈l,∃c,Cl.l8 c=false/\wf c x=true
 |[],_,x,a=>absurd a ai
 |n::r,h,x,a=>by
  simp[eK] at h;rcases Ν.1 a with rfl|a
  ·grind
  ·exact Oa b h.2 x a
def HT:∀{cs:List Cl} {l:List Nd},cs.all (λc=> !c.l8)=true->cE cs l=true->∀x∈l,∃c,Cl.l8 c=false/\wf c x=true
 |_,[],_,_,x,a=>absurd a ai
 |[],n::r,_,h,x,a=>by simp[cE] at h
 |c::cs,n::r,b,h,x,a=>by
  simp[cE] at h;simp only[aDI,ap2,aEA] at b;rcases Ν.1 a with rfl|a
  ·grind
  ·exact HT b.2 h.2 x a
def Ob{c}{k f t a}{w}{ks}(h:wf c (.mk k f t w a ks)=true):∀x∈ks,∃c,Cl.l8 c=false/\wf c x=true:=by
 have d:∀{b:Bool} {c:Cl},(b&&eK c ks)=true->eK c ks=true:=λ{b c} h=>by rw[ap2] at h;exact h.2
 cases c<;>simp only[wf] at h;all_goals repeat' split at h
 all_goals first
  |exact Oa rfl h
  |exact HT rfl h
  |exact Oa rfl (d h)
  |cases h
def Rx{c:Cl}(b:c.l8=false){f t a}{w}{ks}:wf c (.mk 2 f t w a ks)=false:=by
 cases c with
 |item=>cases b
 |_=>simp[wf]
def aws{c}{f t a}{w}{ks}(h:wf c (.mk 28 f t w a ks)=true):cE [.params,.opt,.block] ks=true:=by cases c<;>simp[wf] at h;exact h
def arJ{ks}(h:cE [.params,.opt,.block] ks=true):∃p t b,ks=[p,t,b]/\wf .params p=true/\wf .opt t=true/\wf .block b=true:=by
 match ks,h with
 |[p,t,b],h=>simp[cE,aEt] at h;exact⟨p,t,b,rfl,h.1,h.2.1,h.2.2⟩
 |[],h=>simp[cE] at h
 |[_],h=>simp[cE] at h
 |[_,_],h=>simp[cE] at h
 |_::_::_::_::_,h=>simp[cE] at h
def ag4{p:Nd}(h:wf .params p=true):eK .param p.ks=true/\pl p=c_ p.ks:=by
 obtain⟨k,f,t,w,a,ks⟩:=p;simp only[wf] at h;split at h
 ·rename_i b;subst b;exact⟨h,by simp[pl,mn,qa,Nd.ks]⟩
 ·cases h
def aiM{p:Nd}(h:wf .param p=true):p.k=5:=by
 obtain⟨k,f,t,w,a,ks⟩:=p;simp only[wf] at h;split at h
 ·rename_i b;exact b
 ·cases h
def aAn{n:Nd}(h:mn n.k=true):∃q,pl n=n.a::q:=by
 obtain⟨k,f,t,w,a,ks⟩:=n;simp[Nd.k] at h;have:k≠2:=by rintro rfl;cases h
 exact⟨c_ ks,by simp[pl,h,this,Nd.a]⟩
def Ev(m m':Mp)(p:List Nat):Prop:=∃q,q.Sublist p/\(kQ m').Perm (q++kQ m)
def Ev.refl(m)(p):Ev m m p:=⟨[],aFL p,.refl _⟩
def Ev.trans{m m1 a}{p b}(h:Ev m m1 p)(d:Ev m1 a b):Ev m a (p++b):=by obtain⟨q,g,e⟩:=h;obtain⟨c,i,f⟩:=d;refine⟨q++c,g.append i,f.trans ((e.append_left c).trans ?_)⟩;rw[<-List.append_assoc];exact(aER).append_right _
def Ev.swap{m m1 a}{p b}(h:Ev m m1 b)(d:Ev m1 a p):Ev m a (p++b):=by obtain⟨q,g,e⟩:=h;obtain⟨c,i,f⟩:=d;refine⟨c++q,i.append g,f.trans ((e.append_left c).trans ?_)⟩;rw[<-List.append_assoc]
def Ev.less{m m1}{p a}(h:Ev m m1 p)(b:p.Sublist a):Ev m m1 a:=by obtain⟨q,d,c⟩:=h;exact⟨q,d.trans b,c⟩
def HU(m)(l:List RN)(n:Nd)(k item:Nat):Ev m (fe m l n k item) [n.a]:=⟨[n.a],.refl _,aiL m l n k item⟩
def Vn(m)(l:List RN)(n:Nd)(wr:Bool):Ev m (eH m l n wr) [n.a]:=⟨[n.a],.refl _,afc m l n wr⟩
def V2(item:Nat):∀ks m l,eK .param ks=true->Ev m (iD item m l ks).1 (c_ ks)
 |[],m,l,_=>.refl m _
 |n::r,m,l,h=>by simp[eK] at h;simp[iD,c_];obtain⟨q,b⟩:=aAn (n:=n) (by rw[aiM h.1];rfl);refine Ev.trans ((HU m l n 3 item).less ?_) (V2 item r _ _ h.2);rw[b];exact(aFL q).cons_cons n.a
mutual
def YU(item)(m)(l:List RN)(n:Nd)(c:Cl)(hc:c.l8=false)(h:wf c n=true):Ev m (eJ item m l n).1 (pl n):=by
 match n with
 | .mk k f t w a ks=>
  rw[eJ];by_cases lU:k=23
  ·subst lU;rw[ν rfl];refine(Vn m l _ false).less ?_;simp only[pl,mn,Nd.a];exact(aFL _).cons_cons a
  rw[κ lU];by_cases lV:k=28
  ·subst lV;rw[ν rfl];have:=V3 item true m l ks (aws h);simpa[pl,mn,qa] using this
  rw[κ lV];have hk:=λm l=>YV item m l ks (Ob h);simp only;by_cases h7:k=7
  ·subst h7;rw[ν rfl,κ aA,κ aA];have:=Ev.swap (hk m l) (HU (dj item m l ks).1 (dj item m l ks).2 (.mk 7 f t w a ks) 4 item);simpa[pl,mn,Nd.a] using this
  rw[κ h7];by_cases h8:k=8
  ·subst h8;rw[ν rfl,κ aA,κ aA];have:=Ev.trans (Vn m l (.mk 8 f t w a ks) true) (hk (eH m l (.mk 8 f t w a ks) true) l);simpa[pl,mn,Nd.a] using this
  rw[κ h8];have hs:k≠2->(c_ ks).Sublist (pl (.mk k f t w a ks)):=λh2=>by simp[pl];rw[κ (by simpa using h2)];exact List.sublist_append_right _ _
  have h2:k≠2:=by rintro rfl;rw[Rx hc] at h;cases h
  by_cases h6:k=6
  ·rw[ν h6,ν h6];exact(hk m _).less (hs h2)
  ·rw[κ h6,κ h6];exact(hk m _).less (hs h2)
def YV(item)(m)(l)(ks:List Nd)(h:∀x∈ks,∃c,Cl.l8 c=false/\wf c x=true):Ev m (dj item m l ks).1 (c_ ks):=by
 match ks with
 |[]=>exact .refl m _
 |n::r=>rw[dj];simp[c_];obtain⟨c,hi,hc⟩:=h n as1;exact Ev.trans (YU item m l n c hi hc) (YV item _ _ r λx hx=>h x (Η _ hx))
def V3(item)(lam)(m)(l)(ks:List Nd)(h:cE [.params,.opt,.block] ks=true):Ev m (jH item lam m l ks) (c_ ks):=by
 match ks with
 |[p,t,b]=>rw[jH];obtain⟨p',t',b',e,h1,h2,h3⟩:=arJ h;simp at e;obtain⟨rfl,rfl,rfl⟩:=e;obtain⟨h4,h5⟩:=ag4 h1;simp[c_];refine Ev.trans (m1:=(iD item m (.e9 lam::l) p.ks).1) ?_ ((YU item _ _ b .block rfl h3).less (List.sublist_append_right _ _));rw[h5];exact V2 item p.ks m _ h4
 |[]=>exact .refl m _
 |[_]=>exact .refl m _
 |[_,_]=>exact .refl m _
 |_::_::_::_::_=>exact .refl m _
end
def CK:List Nd->List Nat
 |[]=>[]
 |n::r=>(if n.k=2\/n.k=3 then[n.a] else[])++CK r
def C2:List Nd->List Nat
 |[]=>[]
 |n::r=>(if n.k=3 then c_ n.ks else[])++C2 r
def HV:∀i m l ks,Ev m (dO i m l ks).1 (CK ks)
 |_,m,l,[]=>.refl m _
 |i,m,l,n::r=>by
  rw[dO,CK];by_cases a:n.k=2
  ·rw[ν a,ν (.inl a)];exact Ev.trans (HU m l n 1 i) (HV _ _ _ r)
  ·rw[κ a];by_cases b:n.k=3
   ·rw[ν b,ν (.inr b)];exact Ev.trans (HU m l n 2 i) (HV _ _ _ r)
   ·rw[κ b,bV];exact HV _ _ _ r
def arK{n:Nd}(h:wf .item n=true)(b:n.k=3):cE [.params,.opt,.block] n.ks=true:=by obtain⟨k,f,t,w,a,ks⟩:=n;simp[Nd.k] at b;subst b;show cE [.params,.opt,.block] ks=true;simpa[wf] using h
def Oc(l:List RN):∀i m ks,eK .item ks=true->Ev m (gk l i m ks) (C2 ks)
 |_,m,[],_=>.refl m _
 |i,m,n::r,h=>by
  simp[eK] at h;rw[gk,C2];by_cases a:n.k=3
  ·rw[ν a,ν a];exact Ev.trans (V3 i false m l n.ks (arK h.1 a)) (Oc l _ _ r h.2)
  ·rw[κ a,κ a];exact Oc l _ _ r h.2
def Vo:∀ks:List Nd,eK .item ks=true->(CK ks++C2 ks).Perm (c_ ks)
 |[],_=>.refl _
 |n::r,h=>by
  simp[eK] at h
  have c:(if n.k=2\/n.k=3 then[n.a] else[])++(if n.k=3 then c_ n.ks else[])=pl n:=by
   obtain⟨k,f,t,w,a,ks⟩:=n;have b:=h.1;simp only[wf] at b;simp only[Nd.k,Nd.a,Nd.ks,pl];split at b
   ·grind
   ·split at b
    ·rename_i h2 d;simp[d,mn]
    ·cases b
  simp only[CK,C2,c_];rw[<-c];generalize(if n.k=2\/n.k=3 then[n.a] else[])=A;generalize(if n.k=3 then c_ n.ks else[])=D;refine List.Perm.trans ?_ ((Vo r h.2).append_left (A++D));rw[adv,adv];refine List.Perm.append_left A ?_;rw[<-List.append_assoc,<-List.append_assoc];exact(aER).append_right _
def UR{L lo hi:Nat}{n:Nd}(h:oq L lo hi .item n.ks):(kQ (iK n)).Nodup/\∀a∈kQ (iK n),lo<=a/\a<hi:=by
 obtain⟨q,k,i⟩:=HV 0 ⟨[],[],[]⟩ [] n.ks;obtain⟨b,l,j⟩:=Oc (dO 0 ⟨[],[],[]⟩ [] n.ks).2 0 (dO 0 ⟨[],[],[]⟩ [] n.ks).1 n.ks h.w;have c:(kQ (iK n)).Perm (q++b):=by refine j.trans ((i.append_left b).trans ?_);simp[kQ];exact aER
 have e:(q++b).Sublist (CK n.ks++C2 n.ks):=k.append l;have d:=Vo n.ks h.w;have m:(c_ n.ks).Nodup:=h.p.pw.imp λf=>Nat.ne_of_lt f;refine⟨c.nodup_iff.2 ((d.nodup_iff.2 m).sublist e),λa g=> ?_⟩;exact h.p.bd a (d.subset (e.subset (c.subset g)))
set_option maxRecDepth 100000
def Qf:List FuncId:=[180,181,182,183,184,185,186,187,220,221,222,223,224,241,242,243,244,245,259,260,261,269,270,273,276,282,288,144,101,67,145,198,230,229,201,158,199,200,231,247,248,262,249,263,271,274,277,283,289,111,73,159]
def al7:List FuncId:=[100,145,101,67,110,159,111,73,201]
def ioP:List FuncId:=[180,181,182,184,185,186,187,220,222,223,224,241,243,244,245,259,260,261,269,273,276,282,288,144,198,230,229,158,199,200,231,247,248,262,249,263,271,274,277,283,289]
noncomputable def ak:Env:={P:=prog,G:=λf=>Qf.contains f,cl:=λf=>al7.contains f,eX:=λ_=>false,dyn:=λi=>[1,3,5,6,7,8,24,35].contains i,df:=λ_=>false,ext:=JG,io:=λf=>ioP.contains f}
def al8:Qf.all (okF ak)=true:=af
def awt:ak.P=prog:=(rfl)
def arL:ak.dyn 1=true:=(rfl)
def arM:ak.dyn 2=false:=(rfl)
def arN:ak.dyn 3=true:=(rfl)
def arO:ak.dyn 4=false:=(rfl)
def arP:ak.dyn 5=true:=(rfl)
def arQ:ak.dyn 6=true:=(rfl)
def arR:ak.dyn 7=true:=(rfl)
def arS:ak.dyn 8=true:=(rfl)
def al9:ak.dyn 24=true:=(rfl)
def ama:ak.dyn 35=true:=(rfl)
def awu(l):ak.any l=false:=(rfl)
def arT:ak.eX=λ_=>false:=(rfl)
attribute [go_sem] awt awu arT arL arM arN arO arP arQ arR arS al9 ama
mutual
def aB:Nd->AV
 | .mk k f t w a ks=>.agg [.i k,.i f,.i t,.str w,.i a,.vec (if ks.isEmpty then .nil else .ro) (bA ks)]
def bA:List Nd->List AV
 |[]=>[]
 |n::r=>aB n::bA r
end
def aC(n:Nd):List AV:=(aB n).cells
def yc(n):aB n=.agg (aC n):=by cases n;rfl
def xO(n):(aB n).width=some 6:=by cases n;rfl
def zL(n):(aB n).cells=aC n:=rfl
def cz:∀l:List Nd,(bA l).length=l.length
 |[]=>rfl
 |_::r=>by simp[bA,cz r]
def tu:∀l m:List Nd,bA (l++m)=bA l++bA m
 |[],_=>rfl
 |_::r,m=>by simp[bA,tu r m]
mutual
def jI(n):(aB n).aq=true:=by
 match n with
 | .mk k f t w a ks=>have:=nQ ks;cases ks<;>simp[aB,AV.aq,AV.aq.go,this]
def nQ(l):AV.aq.go (bA l)=true:=by
 match l with
 |[]=>rfl
 |n::r=>show((aB n).aq&&AV.aq.go (bA r))=true;rw[jI n,nQ r];rfl
end
def xP(n):(aB n).erase=aB n:=by
 cases n with
 |mk k f t w a ks=>cases ks<;>rfl
def Eu(n):(aC n).length=6:=by cases n;rfl
def Xd(n):(aC n).map AV.bare=aC n:=by
 cases n with
 |mk k f t w a ks=>cases ks<;>rfl
def zW(n):eE (aC n)=true:=by cases n;rfl
def aiN(n):(aC n).take 6=aC n:=by cases n;rfl
def Jf(n:Nd):(aC n)[1]? =some (.i n.f):=by cases n;rfl
def qv(l):cB 6 (bA l):=by
 induction l with
 |nil=>intro e a;cases a
 |cons n r ih=>
  intro e a;simp[bA] at a;rcases a with rfl|a
  ·exact xO n
  ·exact ih e a
def Ew(n)(r):AV.aq.go (aB n::r)=AV.aq.go r:=alE (jI n) r
attribute [go_sem] xO zL jI nQ xP Eu Xd zW aiN Jf Ew
def A3:Option Nat->Int|none=>0|some _=>24
def mR:Option Nat->Int|none=>0|some b=>(b:Int)
def pc(l:List Tok)(s:PS):List AV:=[.vec .ro (V l),.i s.at_,.i (A3 s.err),.i (mR s.err)]
def zX(l)(s):(pc l s).map AV.bare=pc l s:=rfl
def iL(l)(s):AV.aq.go (pc l s)=true:=by show((AV.aq.go (V l))&&true)=true;rw[wW];rfl
def arU(l)(s):(pc l s).length=4:=rfl
def Fh(l)(s)(p):pc l s≠[.ptr p 0]:=by simp[pc]
def aAo(l)(s:PS):(pc l s)[0]? =some (.vec .ro (V l)):=rfl
def aAp(l)(s:PS):(pc l s)[1]? =some (.i s.at_):=rfl
def aAq(l)(s:PS):(pc l s)[2]? =some (.i (A3 s.err)):=rfl
def arV(l)(s s')(h:pc l s=pc l s'):s=s':=by obtain⟨a,e⟩:=s;obtain⟨a',e'⟩:=s';simp[pc] at h;obtain⟨h1,h2,h3⟩:=h;have:a=a':=aa;subst this;cases e<;>cases e'<;>simp_all [A3,mR];omega
def awv(l)(s:PS)(n:Nat):eD (pc l s) 1 [.i n]=pc l ⟨n,s.err⟩:=rfl
def amb(l)(s:PS):eD (eD (pc l s) 2 [.i 24]) 3 [.i s.at_]=pc l ⟨s.at_,some s.at_⟩:=rfl
def amc(l)(s)(x):(eD (pc l s) 2 [x]).length=4:=rfl
def amd(e:Option Nat):(A3 e==0)=e.isNone:=by cases e<;>rfl
def ame(e:Option Nat):(A3 e != 0)=e.isSome:=by cases e<;>rfl
attribute [go_sem] zX iL arU aAo aAp aAq awv amb amc amd ame
def pg(l:List Tok)(p:Option TypeId×PS):Option bH:=some (.cells p.1 (pc l p.2))
def arW(l)(a b:Option TypeId×PS)(h:pg l a=pg l b):a=b:=by simp[pg,bH.cells.injEq] at h;exact aFM h.1 (arV l _ _ h.2)
def onP{A:Type}(l)(te)(s)(k:Option TypeId×PS->A)(d:A):ir (pg l) (some (.c te (pc l s))) k d=k (te,s):=Cq (arW l) (te,s) k d
attribute [go_sem] onP
def Od{l}{f}(args:List AV){a:PS->AV}{fs:PS->PS}(c:ak.cl f=false)(e:ak.io f=true)(b:AV.aq.go (args.map AV.erase)=true)(h:∀s,Io ak f (args.map AV.erase) (pc l s) (a s) (pc l (fs s)))(i:Nat)(H:ab):
  bt ak f (.ptr i 0::args) H=ir (pg l) (H.get i) (λp=>some (a p.2,H.set i (.cells p.1 (pc l (fs p.2))))) (bt ak f (.ptr i 0::args) H):=
 qW λs d=>sr c e rfl b (Fh l s.2) (zX l s.2) (iL l s.2) d (h s.2)
def Ey{l}{f}(args:List AV){a:PS->AV}(d:ak.cl f=false)(e:ak.io f=true)(c:AV.aq.go (args.map AV.erase)=true)(h:∀s,Io ak f (args.map AV.erase) (pc l s) (a s) (pc l s))(i:Nat)(H:ab):
  dX ak (run ak) (.fn (.func f) [] []) (.ptr i 0::args) H=ir (pg l) (H.get i) (λp=>some (a p.2,H)) (dX ak (run ak) (.fn (.func f) [] []) (.ptr i 0::args) H):=
 qW λs b=>by
  rw[sr d e rfl c (Fh l s.2) (zX l s.2) (iL l s.2) b (h s.2)]
  have:H.set i (.cells s.1 (pc l s.2))=H:=by
   have hg:cq H.jx i=some (.cells s.1 (pc l s.2)):=by
    have:=b;unfold ab.get at this;split at this
    ·exact this
    ·cases this
   unfold ab.set;rw[qu _ _ _ hg]
  rw[this]
def YW:∀l:List Tok,iV (V l) (V l)=true
 |[]=>by simp[V,iV]
 |x::r=>by show iV (mj x::V r) (mj x::V r)=true;rw[qw,YW r,mj,Ix,qw,qw,qw,qw,Ah,Ah,Iw,Iw,O2];rfl
def aAr(l):ef (.vec .ro (V l)) (.vec .ro (V l))=true:=by simp[ef,xX,YW]
attribute [go_sem] aAr
def tR(o)(l:List Tok):gD prog #[68] [.vec o (V l)]=some (.i l.length):=by rw[YL,CJ]
def uz{l}{i:Nat}{x:Tok}(h:l[i]? =some x):dC prog 68 (.vec .ro (V l)) (.i i)=some (.rptr [.i x.1,.i x.2.1,.str x.2.2.1,.str x.2.2.2]):=by
 have:(V l)[i]? =some (mj x):=by simp[V,h]
 simp[dC,Pf,IC,AV.width,AV.cells,this,mj]
def ag5{l}{s:PS}{x}(h:l[s.at_]? =some x):fA l s=x:=by simp[fA,h]
def Ed{l}{s:PS}(h:l[s.at_]? =none):fA l s=(0,0,[],[]):=by simp[fA,h]
def arX(l:List Tok)(s:PS):Io ak 181 [] (pc l s) (mj (fA l s)) (pc l s):=by
 refine fX rfl rfl func181 rfl aA (λte=> ?_) rfl (iL l s);by_cases h:s.at_<l.length
 ·obtain⟨x,b⟩:=fG h;have a:=bJ ((s.at_:Int)<(l.length:Int));rw[ag5 b];simp only[go_sem,seval,tR,a,uz b,results181]<;>rfl
 ·have a:=bP ((s.at_:Int)<(l.length:Int));rw[Ed (aDq aa)];simp only[go_sem,seval,tR,a,results181]<;>rfl
section
variable {l:List Tok}
def lf(i)(H:ab):bt ak 181 [.ptr i 0] H=ir (pg l) (H.get i) (λp=>some (mj (fA l p.2),H)) (bt ak 181 [.ptr i 0] H):=Ey [] rfl rfl rfl (arX l) i H
def amf(s):Io ak 186 [.i 24] (pc l s) (.tup []) (pc l (jL s)):=by
 refine fX rfl rfl func186 rfl aA (λte=> ?_) rfl (iL l _);obtain⟨a,e⟩:=s
 cases e with
 |none=>simp only[go_sem,seval,ψ,results186]<;>rfl
 |some b=>simp only[go_sem,seval,awU,results186]<;>rfl
def EV(i)(H:ab):bt ak 186 [.ptr i 0,.i 24] H=ir (pg l) (H.get i) (λp=>some (.tup [],H.set i (.cells p.1 (pc l (jL p.2))))) (bt ak 186 [.ptr i 0,.i 24] H):=Od [.i 24] rfl rfl rfl amf i H
def Jg(t:Tok)(x:List UInt8):Bool:=(decide (t.1=2)||decide (t.1=5))&&decide (t.2.2.2=x)
def amg(s:PS)(x:List UInt8):dB l s x=Jg (fA l s) x:=rfl
def kU(t):mj t=.agg [.i t.1,.i t.2.1,.str t.2.2.1,.str t.2.2.2]:=rfl
def aww(x:List UInt8)(s:PS):Io ak 182 [.str x] (pc l s) (.bool (dB l s x)) (pc l s):=by
 refine fX rfl rfl func182 rfl (by rw[ntmps182];simp) (λte=> ?_) rfl (iL l s);rw[amg];generalize d:fA l s=t;obtain⟨k,a,b,y⟩:=t;have e:((k:Int)==2)=decide (k=2):=ez k 2;have c2:((k:Int)==5)=decide (k=5):=ez k 5;have f:jS .eql y x=some (.bool (decide (y=x))):=by simp[jS,aFm]
 by_cases c:k=2
 ·subst c;simp[go_sem,lf (l:=l),d,kU,f,Jg,decide_true,results182]<;>rfl
 ·rw[ξ c] at e
  cases h2:decide (k=5) with
  |true=>rw[h2] at c2;simp[go_sem,lf (l:=l),d,kU,e,c2,f,Jg,ξ c,h2,results182]<;>rfl
  |false=>rw[h2] at c2;simp[go_sem,lf (l:=l),d,kU,e,c2,Jg,ξ c,h2,results182]<;>rfl
def FB(x)(i)(H:ab):bt ak 182 [.ptr i 0,.str x] H=ir (pg l) (H.get i) (λp=>some (.bool (dB l p.2 x),H)) (bt ak 182 [.ptr i 0,.str x] H):=Ey [.str x] rfl rfl rfl (aww x) i H
def arY{s:PS}{x}(h:dB l s x=true):s.at_<l.length:=by
 by_cases a:s.at_<l.length
 ·exact a
 ·rw[dB,Ed (aDq aa)] at h;simp at h
def mO{n:Nat}(h:n<=1000000000):IntKind.i64.wrap ((n:Int)+1)=((n+1:Nat):Int):=by rw[aDH _ (by omega)];omega
def amh(hl:l.length<=4000)(x)(s):Io ak 241 [.str x] (pc l s) (.bool (bc l s x)) (pc l (nw l s x)):=by
 refine fX rfl rfl func241 rfl (by rw[ntmps241];simp) (λte=> ?_) rfl (iL l _)
 cases he:s.err with
 |some b=>
  have a:bc l s x=false:=by simp[bc,he]
  simp[go_sem,he,aDg,results241,a,nw,τ]<;>rfl
 |none=>
  cases hi:dB l s x with
  |false=>
   have a:bc l s x=false:=by simp[bc,he,hi]
   simp[go_sem,he,Ε,FB (l:=l),hi,Α,results241,a,nw,τ]<;>rfl
  |true=>
   have a:bc l s x=true:=by simp[bc,he,hi]
   have c:=mO (n:=s.at_) (by have:=arY hi;omega);simp only[go_sem,seval,he,Ε,FB (l:=l),hi,ω,c,results241,a,nw,be]<;>rfl
def fa(a:l.length<=4000)(x)(i)(H:ab):bt ak 241 [.ptr i 0,.str x] H=ir (pg l) (H.get i) (λp=>some (.bool (bc l p.2 x),H.set i (.cells p.1 (pc l (nw l p.2 x))))) (bt ak 241 [.ptr i 0,.str x] H):=Od [.str x] rfl rfl rfl (amh a x) i H
def ami(a:l.length<=4000)(x)(s):Io ak 220 [.str x] (pc l s) (.tup []) (pc l (cA l x s)):=by
 refine fX rfl rfl func220 rfl (by rw[ntmps220];simp) (λte=> ?_) rfl (iL l _)
 cases hp:bc l s x with
 |true=>simp[go_sem,fa a,hp,nw,cA,ω,results220]<;>rfl
 |false=>simp[go_sem,fa a,EV (l:=l),hp,nw,cA,Α,τ,results220]<;>rfl
def l_(a:l.length<=4000)(x)(i)(H:ab):bt ak 220 [.ptr i 0,.str x] H=ir (pg l) (H.get i) (λp=>some (.tup [],H.set i (.cells p.1 (pc l (cA l x p.2))))) (bt ak 220 [.ptr i 0,.str x] H):=Od [.str x] rfl rfl rfl (ami a x) i H
def amj(k)(s:PS):Io ak 180 [.i k] (pc l s) (.agg [.i k,.i s.at_,.i 0,.str [],.i 0,.vec .nil []]) (pc l s):=by refine fX rfl rfl func180 rfl (by rw[ntmps180];simp) (λte=> ?_) rfl (iL l _);simp[go_sem,aZ,eD,results180]<;>rfl
def gi(k)(i)(H:ab):bt ak 180 [.ptr i 0,.i k] H=ir (pg l) (H.get i) (λp=>some (.agg [.i k,.i p.2.at_,.i 0,.str [],.i 0,.vec .nil []],H)) (bt ak 180 [.ptr i 0,.i k] H):=Ey [.i k] rfl rfl rfl (amj k) i H
def amk(k f t a)(w)(o:Ab.Own)(es)(c:o.bare=o)(b:AV.aq (.vec o es)=true)(s:PS):Io ak 187 [.agg [.i k,.i f,.i t,.str w,.i a,.vec o es]] (pc l s) (.agg [.i k,.i f,.i s.at_,.str w,.i a,.vec o es]) (pc l s):=by refine fX rfl rfl func187 rfl (by rw[ntmps187];simp) (λte=> ?_) (by simp[AV.aq,AV.aq.go] at b⊢;exact b) (iL l _);simp[go_sem,eD,aEb,aEU,aEc,aEk,List.drop_nil,aD8,aDl,results187,c]
def Nx(o:Ab.Own):o.bare.bare=o.bare:=by cases o<;>rfl
def fH(k f t a)(w)(o:Ab.Own)(es)(b:AV.aq.go es=true)(i)(H:ab):bt ak 187 [.ptr i 0,.agg [.i k,.i f,.i t,.str w,.i a,.vec o es]] H=
  ir (pg l) (H.get i) (λp=>some (.agg [.i k,.i f,.i p.2.at_,.str w,.i a,.vec o.bare es],H)) (bt ak 187 [.ptr i 0,.agg [.i k,.i f,.i t,.str w,.i a,.vec o es]] H):=by
 have hb:AV.aq (.vec o.bare es)=true:=by cases o<;>simp[Own.bare,AV.aq,b]
 refine Ey [.agg [.i k,.i f,.i t,.str w,.i a,.vec o es]] rfl rfl ?_ (λs=>amk k f t a w o.bare es (Nx o) hb s) i H;show(AV.aq (.agg [.i k,.i f,.i t,.str w,.i a,.vec o.bare es])&&true)=true;simp[AV.aq,AV.aq.go] at hb⊢;exact hb
end
set_option maxRecDepth 100000
structure NC where
 te:Option TypeId
 a0:AV
 a1:AV
 a2:AV
 a3:AV
 a4:AV
 o:Ab.Own
 es:List AV
def ng(n:NC):Option bH:=some (.cells n.te [n.a0,n.a1,n.a2,n.a3,n.a4,.vec n.o n.es])
def arZ(a b:NC)(h:ng a=ng b):a=b:=by obtain⟨_,_,_,_,_,_,_,_⟩:=a;obtain⟨_,_,_,_,_,_,_,_⟩:=b;simp[ng,bH.cells.injEq] at h;simp[NC.mk.injEq];exact h
def onN{A:Type}(te)(a0 a1 a2 a3 a4)(o)(es:List AV)(k:NC->A)(d:A):ir ng (some (.c te [a0,a1,a2,a3,a4,.vec o es])) k d=k ⟨te,a0,a1,a2,a3,a4,o,es⟩:=Cq arZ ⟨te,a0,a1,a2,a3,a4,o,es⟩ k d
attribute [go_sem] onN
def Jh{H:ab}{q}{tn}{a0 a1 a2 a3 a4}{o o2}{es xs:List AV}(l:H.get q=some (.cells tn [a0,a1,a2,a3,a4,.vec o es]))(hg:bY H 71 o es.length)(p:cB 6 es)(x:cB 6 xs)(y:xs≠[])(hb:es.length+xs.length<=1000000000):
  ∃j a,dX ak (run ak) (.fn (.func 183) [] []) [.ptr q 0,.vec o2 xs] H=some (.tup [],a)/\a.get q=some (.cells tn [a0,a1,a2,a3,a4,.vec (.own j) (es++xs)])/\bY a 71 (.own j) (es++xs).length/\H.next<=a.next/\∀i te cs,i≠q->H.get i=some (.c te cs)->a.get i=some (.c te cs):=by
 obtain⟨m,L⟩:=H;obtain⟨s,t⟩:=aj.1 l;obtain⟨j,⟨m',v⟩,e,g,k,_⟩:=BP tC (m:=λ_=>false) rfl (o2:=o2) hg p x y aa aa;obtain⟨b,f⟩:=aj.1 (k.2 _ _ _ l);rw[tg rfl rfl]
 suffices hh:∃r,run ak 183 [.ptr q 0,.vec o2 xs] ⟨m,L⟩=some r/\r=(.tup [],(⟨m',aH v q (.cells tn [a0,a1,a2,a3,a4,.vec (.own j) (es++xs)])⟩:ab)) by
  obtain⟨r,u,rfl⟩:=hh;refine⟨j,_,u,aj.2 ⟨b,by rw[bg,ν rfl,f];rfl⟩,g.bU λi n hi=> ?_,k.1,λi te cs hi w=> ?_⟩
  ·obtain⟨h,d⟩:=aj.1 hi;refine aj.2 ⟨h,?_⟩;rw[bg,κ (by rintro rfl;rw[f] at d;cases d)];exact d
  ·obtain⟨h,d⟩:=aj.1 (k.2 _ _ _ w);exact aj.2 ⟨h,by rw[bg,κ (λe=>hi e.symm)];exact d⟩
 refine g_ rfl rfl func183 rfl (by rw[ntmps183];simp) ?_;simp only[go_sem,seval,υ s,aF t,cQ,e,υ b,aF f,f,results183];exact⟨_,rfl,rfl⟩
def awx{H:ab}{q}{tn}{a0 a1 a2 a3 a4}{o2}{xs:List AV}(c:H.get q=some (.cells tn [a0,a1,a2,a3,a4,.vec .nil []]))(e:cB 6 xs)(f:xs≠[])(hb:xs.length<=1000000000):
  dX ak (run ak) (.fn (.func 183) [] []) [.ptr q 0,.vec o2 xs] H=some (.tup [],(H.push (.bB xs.length 71)).set q (.cells tn [a0,a1,a2,a3,a4,.vec (.own H.next) xs])):=by
 obtain⟨m,L⟩:=H;obtain⟨b,a⟩:=aj.1 c;have d:=aY (q<m+1);have z4:=dw (m=q);rw[tg rfl rfl];refine qY rfl rfl func183 rfl (by rw[ntmps183];simp) ?_;simp[go_sem,υ b,aF a,cQ,(append_nil tC (m:=λ_=>false) rfl (H:=⟨m,L⟩) (o2:=o2) e f aa aa),d,z4,a,results183]
def awy{H:ab}{q j}{tn}{a0 a1 a2 a3 a4}{o2}{es xs:List AV}(f:H.get q=some (.cells tn [a0,a1,a2,a3,a4,.vec (.own j) es]))(c:H.get j=some (.bB es.length 71))(d:cB 6 es)(i:cB 6 xs)(hb:es.length+xs.length<=1000000000):
  dX ak (run ak) (.fn (.func 183) [] []) [.ptr q 0,.vec o2 xs] H=some (.tup [],(H.set j (.bB (es.length+xs.length) 71)).set q (.cells tn [a0,a1,a2,a3,a4,.vec (.own j) (es++xs)])):=by
 obtain⟨m,L⟩:=H;obtain⟨e,a⟩:=aj.1 f;obtain⟨Gb,g⟩:=aj.1 c;have b:j≠q:=by rintro rfl;rw[g] at a;cases a
 have z4:e_ (aH L j (.bB (es.length+xs.length) 71)) q=some [a0,a1,a2,a3,a4,.vec (.own j) es]:=by rw[e_,bg,κ b,a]
 have h:cq (aH L j (.bB (es.length+xs.length) 71)) q=some (.cells tn [a0,a1,a2,a3,a4,.vec (.own j) es]):=by rw[bg,κ b,a]
 rw[tg rfl rfl];refine qY rfl rfl func183 rfl (by rw[ntmps183];simp) ?_;simp[go_sem,υ e,aF a,cQ,(GW tC (m:=λ_=>false) (o2:=o2) c d i aa aa),z4,h,results183]
structure N0 where
 te:Option TypeId
 a0:AV
 a1:AV
 a2:AV
 a3:AV
 a4:AV
def Gc(n:N0):Option bH:=some (.cells n.te [n.a0,n.a1,n.a2,n.a3,n.a4,.vec .nil []])
def aml(a b:N0)(h:Gc a=Gc b):a=b:=by obtain⟨_,_,_,_,_,_⟩:=a;obtain⟨_,_,_,_,_,_⟩:=b;simp[Gc,bH.cells.injEq] at h;simp[N0.mk.injEq];exact h
def aAs{A:Type}(te)(a0 a1 a2 a3 a4)(k:N0->A)(d:A):ir Gc (some (.c te [a0,a1,a2,a3,a4,.vec .nil []])) k d=k ⟨te,a0,a1,a2,a3,a4⟩:=Cq aml ⟨te,a0,a1,a2,a3,a4⟩ k d
def qD(q)(o2)(xs:List AV)(b:cB 6 xs)(c:xs≠[])(hb:xs.length<=5)(H:ab):bt ak 183 [.ptr q 0,.vec o2 xs] H=
  ir Gc (H.get q) (λn=>some (.tup [],(H.push (.bB xs.length 71)).set q (.cells n.te [n.a0,n.a1,n.a2,n.a3,n.a4,.vec (.own H.next) xs]))) (bt ak 183 [.ptr q 0,.vec o2 xs] H):=
 qW λn a=>awx a b c aa
structure NK where
 te:Option TypeId
 a0:AV
 a1:AV
 a2:AV
 a3:AV
 a4:AV
 j:Nat
def Ge(es:List AV)(n:NK):Option bH:=some (.cells n.te [n.a0,n.a1,n.a2,n.a3,n.a4,.vec (.own n.j) es])
def amm(es)(a b:NK)(h:Ge es a=Ge es b):a=b:=by obtain⟨_,_,_,_,_,_,_⟩:=a;obtain⟨_,_,_,_,_,_,_⟩:=b;simp[Ge,bH.cells.injEq,Own.own.injEq] at h;simp[NK.mk.injEq];exact h
def aAt{A:Type}(es:List AV)(te)(a0 a1 a2 a3 a4)(j)(k:NK->A)(d:A):ir (Ge es) (some (.c te [a0,a1,a2,a3,a4,.vec (.own j) es])) k d=k ⟨te,a0,a1,a2,a3,a4,j⟩:=Cq (amm es) ⟨te,a0,a1,a2,a3,a4,j⟩ k d
def S'(c:Nat)(_:Unit):Option bH:=some (.bB c 71)
def awz{A:Type}(c)(k:Unit->A)(d:A):ir (S' c) (some (.bB c 71)) k d=k ():=Cq (g:=S' c) (λ_ _ _=>rfl) () k d
attribute [go_sem] aAs aAt awz
def Qg(q)(o2)(es xs:List AV)(c)(e:es.length=c)(a:cB 6 es)(f:cB 6 xs)(hn:xs≠[])(hb:c+xs.length<=9)(H:ab):bt ak 183 [.ptr q 0,.vec o2 xs] H=
  ir (Ge es) (H.get q) (λn=>ir (S' c) (H.get n.j) (λ_=>some (.tup [],(H.set n.j (.bB (c+xs.length) 71)).set q (.cells n.te [n.a0,n.a1,n.a2,n.a3,n.a4,.vec (.own n.j) (es++xs)])))
   (bt ak 183 [.ptr q 0,.vec o2 xs] H)) (bt ak 183 [.ptr q 0,.vec o2 xs] H):=by
 subst e;exact qW λn d=>qW λ_ b=>awy d b a f aa
def cB.one(a):cB 6 [aB a]:=qv [a]
def cB.two(a b):cB 6 [aB a,aB b]:=qv [a,b]
def cB.three(a b c):cB 6 [aB a,aB b,aB c]:=qv [a,b,c]
def C3(t:Tok):List AV:=[.i t.1,.i t.2.1,.str t.2.2.1,.str t.2.2.2]
def dI(a:AV):Option (List UInt8×Nat)->AV|some (w,_)=>.str w|none=>a
def dH(a:AV):Option (List UInt8×Nat)->AV|some (_,p)=>.i p|none=>a
section
variable {l:List Tok}
def nr(hl:l.length<=4000)(i q:Nat)(H:ab):dX ak (run ak) (.fn (.func 221) [] []) [.ptr i 0,.ptr q 0] H=
  ir (pg l) (H.get i) (λp=>ir ng (H.get q) (λn=>some (.tup [],((H.push (.k 95 (C3 (fA l p.2)))).set q (.cells n.te [n.a0,n.a1,n.a2,dI n.a3 (cT l p.2).1,dH n.a4 (cT l p.2).1,.vec n.o n.es])).set i (.cells p.1 (pc l (cT l p.2).2))))
   (dX ak (run ak) (.fn (.func 221) [] []) [.ptr i 0,.ptr q 0] H)) (dX ak (run ak) (.fn (.func 221) [] []) [.ptr i 0,.ptr q 0] H):=by
 refine qW λ⟨te,s⟩ C=>qW λ⟨tn,a0,a1,a2,a3,a4,o,es⟩ D=> ?_;obtain⟨m,L⟩:=H;simp[pg] at C;simp[ng] at D;obtain⟨E,f⟩:=aj.1 C;obtain⟨Dv,d⟩:=aj.1 D;have F:i≠q:=by rintro rfl;rw[f] at d;simp only[Ζ,bH.cells.injEq,pc] at d;have:=Λ List.length d.2;simp at this
 have u:=aY (i<m+1);have G:=aY (q<m+1);have x:=dw (m=i);have z4:=dw (m=q);have I:(q=i)=False:=eq_false (λe=>F e.symm);have r:=aY (m<m+1);have z:(i<m)=True:=υ E;have B:=aF f;rw[tg rfl rfl];refine qY rfl rfl func221 rfl (by rw[ntmps221];simp) ?_;generalize c:fA l s=t;obtain⟨k,a,b,y⟩:=t;have h:((k:Int) != 1)= !decide (k=1):=rO k 1;by_cases g:k=1
 ·rw[π g] at h
  have aN:s.at_<l.length:=by
   by_cases w:s.at_<l.length
   ·exact w
   ·rw[Ed (aDq aa)] at c;cases c;cases g
  cases he:s.err with
  |none=>
   have j:cT l s=(some (y,s.at_),be s):=by simp[cT,c,g,he]
   simp only[go_sem,seval,lf (l:=l),c,kU,u,G,x,z4,I,r,z,f,d,B,aF d,h,he,(mO (n:=s.at_) aa),j,bg,fU,gh,ψ,ω,dI,dH,be,C3,results221]
  |some e=>
   have j:cT l s=(none,s):=by simp[cT,c,g,he]
   have v:=qu L q _ d;simp only[go_sem,seval,lf (l:=l),c,kU,u,x,z4,r,z,f,B,h,he,j,v,qu L i _ f,awU,ω,dI,dH,C3,results221]
 ·rw[ξ g] at h;have A:(jL s).err.isNone=false:=by unfold jL;cases w:s.err<;>simp[w]
  have j:cT l s=(none,jL s):=by simp[cT,c,g,A]
  have v:=qu L q _ d;simp only[go_sem,seval,lf (l:=l),EV (l:=l),c,kU,u,x,z4,r,z,f,h,j,A,v,fU,Α,dI,dH,C3,results221]
end
set_option maxRecDepth 100000
def C5(l:List Tok)(te:Option TypeId)(i:Nat)(K:ab->Prop)(c:AV)(one:PS->PR):Prop:=∀s r H,one s=some r->H.get i=some (.c te (pc l s))->K H->∃a,dX ak (run ak) c [] H=some (aB r.1,a)/\Up H i (.c te (pc l r.2)) a
def BQ{l}{te}{i:Nat}{f:FuncId}{one:PS->PR}(b:ak.cl f=false)(a:ak.io f=true)(h:∀s r,one s=some r->Io ak f [] (pc l s) (aB r.1) (pc l r.2)):C5 l te i (λ_=>True) (.fn (.func f) [.ptr i 0] []) one:=
 λs r H c hg _=>⟨_,sr b a rfl rfl (Fh l s) (zX l s) (iL l s) hg (h s r c),Up.set hg⟩
def Oe{l}{tb te}{i b:Nat}{f:FuncId}{one:PS->PR}(k:ak.cl f=false)(m:ak.io f=true)(a:i≠b)(h:∀s r,one s=some r->KS ak f (pc l s) (aB r.1) (pc l r.2)):C5 l te i (λH=>H.get b=some (.cells tb [.ptr i 0])) (.fn (.func f) [] [.ptr b 0]) one:=by
 intro s r H g hg hb;refine⟨_,aiD k m a (zX l s) (iL l s) hb hg (h s r g),μ _,?_,λj y d c=> ?_⟩
 ·rw[ab.ec,κ (λe=>a e.symm),ab.ec,ν rfl,hg];rfl
 ·rw[ab.ec];split
  ·rename_i e;subst e;rw[hb] at c;cases c;rw[ab.ec,κ a,hb];rfl
  ·rw[ab.ec,κ (λe=>d e.symm)];exact c
structure qm(cs:List AV)(a:Nd):Prop where
 bare:cs.map AV.bare=aC a
 len:cs.length=6
 all:eE cs=true
 frm:cs[1]? =some (.i a.f)
def wM(a):qm (aC a) a:=⟨Xd a,Eu a,zW a,Jf a⟩
def wC(k f t:Nat)(a b:Nd):List AV:=[.i k,.i f,.i t,.str [],.i 0,.vec .full [aB a,aB b]]
def CL(k f t:Nat)(a b:Nd):qm (wC k f t a b) (.mk k f t [] 0 [a,b]):=⟨rfl,rfl,rfl,rfl⟩
def qm.take{cs:List AV}{a}(h:qm cs a):cs.take 6=cs:=aEs (by rw[h.len];exact μ _)
def qm.erase{cs}{a}(h:qm cs a):(AV.agg cs).erase=aB a:=by rw[sC,h.bare,yc]
def ar0{c d}{a b}(e:qm c a)(f:qm d b)(H):dS prog 69 2 [(0,.agg c),(1,.agg d)] H=some (.vec .full [aB a,aB b],H):=by simp[dS,yo,sF,Cs,mH,fF,lZ,e.erase,f.erase,xO,zL,zW]
def aAu(a)(H):dS prog 69 1 [(0,aB a)] H=some (.vec .full [aB a],H):=by simp[dS,yo,sF,Cs,mH,fF,lZ,xP,xO,zL,zW]
def aAv(a b)(H):dS prog 69 2 [(0,aB a),(1,aB b)] H=some (.vec .full [aB a,aB b],H):=by simp[dS,yo,sF,Cs,mH,fF,lZ,xP,xO,zL,zW]
def aAw(a b c)(H):dS prog 69 3 [(0,aB a),(1,aB b),(2,aB c)] H=some (.vec .full [aB a,aB b,aB c],H):=by simp[dS,yo,sF,Cs,mH,fF,lZ,xP,xO,zL,zW]
def aav(cs)(H:ab):fY (.agg cs) H=some (.ptr H.next 0,H.push (.z cs)):=Ym cs
def YX(a:Nd):AV.agg (aC a)=aB a:=(yc a).symm
attribute [go_sem] aAu aAv aAw aav YX
section
variable {l:List Tok}
def Ph(hl:l.length<=4000){te}{i}{K:ab->Prop}{c:AV}{one:PS->PR}(Q:C5 l te i K c one){s}{r}(M:one s=some r){H:ab}(hg:H.get i=some (.c te (pc l s)))(F:∀H':ab,(∀j y,H.get j=some y->H'.get j=some y)->K H')(k:Nat){cs:List AV}{a:Nd}(e:qm cs a):
  ∃o,dX ak (run ak) (.fn (.func 270) [] []) [.ptr i 0,.i k,.agg cs,c] H=some (.agg (wC k a.f r.2.at_ a r.1),o)/\Up H i (.c te (pc l r.2)) o:=by
 obtain⟨m,L⟩:=H;obtain⟨eA,t⟩:=aj.1 hg;have D:ab.get ⟨m+1+1,(m+1,.k 71 [.i 0,.i 0,.i 0,.str [],.i 0,.vec .nil []])::(m,.z cs)::L⟩ i=some (.c te (pc l s)):=aj.2 ⟨aa,by rw[br,bV,br,bV];exact t⟩
 obtain⟨⟨b,w⟩,P,G,B,h⟩:=Q s r _ M D (F _ λj y n=>by
  obtain⟨E,g⟩:=aj.1 n
  exact aj.2 ⟨aa,by rw[br,bV,br,bV];exact g⟩)
 have d:=aj.1 (h (m+1) (.k 71 [.i 0,.i 0,.i 0,.str [],.i 0,.vec .nil []]) aa (aj.2 ⟨aa,by rw[br,ν rfl]⟩));have p:=aj.1 B;simp only at G;have C:=aY (m<b+1);have x:=aY (m+1<b+1);have N:=aY (i<b+1);have z4:=aY (b<b+1);have v:=dw (b=m);have J:=dw (b=m+1);have u:=dw (b=i);have O:∀H:ab,dS prog 69 2 [(0,.agg cs),(1,aB r.1)] H=some (.vec .full [aB a,aB r.1],H):=λH=>by have:=ar0 e (wM r.1) H;rwa [YX] at this
 rw[tg rfl rfl];suffices hh:∃q,run ak 270 [.ptr i 0,.i k,.agg cs,c] ⟨m,L⟩=some q/\q=(.agg (wC k a.f r.2.at_ a r.1),(⟨b+1,(b,.k 71 (aC r.1))::aH w (m+1) (.k 71 (wC k a.f r.2.at_ a r.1))⟩:ab)) by obtain⟨q,A,rfl⟩:=hh;refine⟨_,A,by simp only;omega,aj.2 ⟨aa,by rw[br,bV,bg,bV];exact p.2⟩,λj y n I=> ?_⟩;obtain⟨E,g⟩:=aj.1 I;have:=aj.1 (h j y n (aj.2 ⟨aa,by rw[br,bV,br,bV];exact g⟩));exact aj.2 ⟨aa,by rw[br,bV,bg,bV];exact this.2⟩
 refine g_ rfl rfl func270 rfl (by rw[ntmps270];simp) ?_;simp only[go_sem,seval,P,d.2,aF (aj.1 (h m (.z cs) aa (aj.2 ⟨aa,by rw[br,bV,br,ν rfl]⟩))).2,aF d.2,aF p.2,C,x,N,z4,v,J,u,O,e.take,e.len,e.frm,aZ,fU,Ι,results270];exact⟨_,rfl,rfl⟩
def sn{H}{o:Ab.Own}{ks:List Nd}(hg:bY H 71 o ks.length):o.bare=if ks.isEmpty then .nil else .ro:=by rw[hg.bare];cases ks<;>rfl
def aiO(b):Own.bare (if b=true then Own.nil else Own.ro)=if b=true then Own.nil else Own.ro:=by cases b<;>rfl
attribute [go_sem] aiO
noncomputable def Ry:=f242.c.r.b.b
structure pB(l:List Tok)(te tn:Option TypeId)(a0 a1 a2 a3 a4:AV)(i q:Nat)(H0:ab)(ks:List Nd)(s:PS)(H:ab):Prop where
 p:H.get i=some (.c te (pc l s))
 n:∃o,H.get q=some (.cells tn [a0,a1,a2,a3,a4,.vec o (bA ks)])/\bY H 71 o ks.length
 k:H0.next<=H.next/\∀j t cs,j≠i->j≠q->H0.get j=some (.c t cs)->H.get j=some (.c t cs)
def pB.ne{te tn}{a0 a1 a2 a3 a4}{i q}{H0 H}{ks}{s}(h:pB l te tn a0 a1 a2 a3 a4 i q H0 ks s H):i≠q:=by obtain⟨o,a,_⟩:=h.n;have:=h.p;rintro rfl;rw[a] at this;simp only[Ζ,bH.cells.injEq,pc] at this;have:=Λ List.length this.2;simp at this
def pB.up{te tn}{a0 a1 a2 a3 a4}{i q}{H0 H b}{ks}{s d}(h:pB l te tn a0 a1 a2 a3 a4 i q H0 ks s H)(u:Up H i (.c te (pc l d)) b):pB l te tn a0 a1 a2 a3 a4 i q H0 ks d b:=by obtain⟨o,r,g⟩:=h.n;exact⟨u.2.1,⟨o,u.2.2 q _ (λe=>h.ne e.symm) r,g.bU λj m a=>u.2.2 j _ (by rintro rfl;rw[h.p] at a;cases a) a⟩,aDj h.k.1 u.1,λj t cs a f v=>u.2.2 j _ a (h.k.2 j t cs a f v)⟩
def V4(v:l.length<=4000){te tn}{a0 a1 a2 a3 a4}{i q}{K:ab->Prop}{c:AV}{one:PS->PR}(N:C5 l te i K c one)(e){H0:ab}(G:∀H':ab,(∀j t cs,j≠i->j≠q->H0.get j=some (.c t cs)->H'.get j=some (.c t cs))->K H'):
  ∀n ks s r α H,nu l one e n ks s=some r->ks.length+n<=1000000->α 0=.ptr i 0->α 1=.ptr q 0->α 2=.str e->α 3=c->pB l te tn a0 a1 a2 a3 a4 i q H0 ks s H->
   aD (aJ (aO ak Ry) α H) λx ae H'=>(x=.ret\/x=.exit 0)/\pB l te tn a0 a1 a2 a3 a4 i q H0 r.1 r.2 H'
 |0,ks,s,r,α,H,a,W,g,b1,b2,u,b=>by cases a
 |n+1,ks,s,r,α,H,a,W,g,b1,b2,u,b=>by
  obtain⟨m,L⟩:=H;obtain⟨P,O⟩:=aj.1 b.p;have B:=aF O;have A:=υ P;have Y:Ry=.seq _ _:=rfl;rw[aG,Y]
  cases he:s.err with
  |some x=>simp[nu,he] at a;subst a;simp only[go_sem,seval,g,B,A,he,awU];exact⟨.inr trivial,b⟩
  |none=>
   simp[nu,he] at a;obtain⟨x,V,a⟩:=al a;obtain⟨⟨m1,L1⟩,J,S⟩:=N s x ⟨m,L⟩ V b.p (G _ b.k.2);have w:=b.up S;obtain⟨o,U,R⟩:=w.n;obtain⟨j,⟨f,d⟩,I,k1,k2,Q,M⟩:=Jh U (by rw[cz];exact R) (qv ks) (cB.one x.1) ai (by rw[cz];simp;omega) (o2:=.full)
   have h:pB l te tn a0 a1 a2 a3 a4 i q H0 (ks++[x.1]) x.2 ⟨f,d⟩:=by
    refine⟨M i _ _ b.ne w.p,⟨.own j,?_,?_⟩,aDj w.k.1 Q,λD t cs X E T=>M D t cs E (w.k.2 D t cs X E T)⟩
    ·rw[tu];exact k1
    ·simpa[cz] using k2
   obtain⟨Z,C⟩:=aj.1 h.p;have F:=υ Z
   cases ht:bc l x.2 e with
   |true=>
    simp[ht] at a;subst a;have z:nw l x.2 e=be x.2:=by simp[nw,ht]
    have y:Up ⟨f,d⟩ i (.c te (pc l (be x.2))) ⟨f,aH d i (.c te (pc l (be x.2)))⟩:=Up.set h.p;simp only[go_sem,seval,g,b1,b2,u,B,A,he,ψ,J,I,fa v,F,C,ht,z];exact⟨.inl trivial,h.up y⟩
   |false=>
    simp[ht] at a;have z:nw l x.2 e=x.2:=by simp[nw,ht]
    have y:Up ⟨f,d⟩ i (.c te (pc l (cA l [44] x.2))) ⟨f,aH d i (.c te (pc l (cA l [44] x.2)))⟩:=Up.set h.p;simp[go_sem,g,b1,b2,u,B,A,he,ψ,J,I,fa v,l_ v,F,C,ht,z,qu d i _ C];refine V4 v N e G n (ks++[x.1]) _ r _ _ a aX ?_ ?_ ?_ ?_ (h.up y);all_goals simp[go_sem,g,b1,b2,u]
def EW(d:l.length<=4000){te tn}{a0 a1 a2 a3 a4}{i q}{K:ab->Prop}{c:AV}{one:PS->PR}(z:C5 l te i K c one)(e){H0:ab}(w:∀H':ab,(∀j t cs,j≠i->j≠q->H0.get j=some (.c t cs)->H'.get j=some (.c t cs))->K H')
  {n} {ks:List Nd} {s} {r} {o} (a:mc l one e n ks s=some r) (A:ks.length+n<=1000000) (b:H0.get i=some (.c te (pc l s))) (v:H0.get q=some (.cells tn [a0,a1,a2,a3,a4,.vec o (bA ks)])) (hg:bY H0 71 o ks.length):
  ∃x,dX ak (run ak) (.fn (.func 242) [] []) [.ptr i 0,.ptr q 0,.str e,c] H0=some x/\∃p,x=(.tup [],p)/\pB l te tn a0 a1 a2 a3 a4 i q H0 r.1 r.2 p:=by
 have k:pB l te tn a0 a1 a2 a3 a4 i q H0 ks s H0:=⟨b,⟨o,v,hg⟩,μ _,λj t cs _ _ h=>h⟩;obtain⟨m,L⟩:=H0;obtain⟨y,f⟩:=aj.1 b;have u:=υ y;rw[tg rfl rfl];refine g_ (c:=.seq _ (.block 0 (.loop Ry))) rfl rfl func242 rfl (by rw[ntmps242];simp) ?_
 cases ht:bc l s e with
 |true=>
  simp[mc,ht] at a;subst a;have g:nw l s e=be s:=by simp[nw,ht]
  simp only[go_sem,seval,fa d,u,f,ht,g,results242];exact⟨_,rfl,_,rfl,k.up (Up.set b)⟩
 |false=>
  simp[mc,ht] at a;have g:nw l s e=s:=by simp[nw,ht]
  simp only[go_sem,seval,fa d,u,f,ht,g,qu L i _ f];refine zJ ?_;rw[gB];refine aT (V4 d z e w n ks s r _ _ a A ?_ ?_ ?_ ?_ k) ?_
  case refine_5=>
   rintro x ae H' ⟨rfl|rfl,h⟩
   ·refine .inr ⟨rfl,?_⟩;simp only[go_sem,results242];exact⟨_,rfl,_,rfl,h⟩
   ·refine .inl ⟨.inr rfl,?_⟩;simp only[go_sem,results242];exact⟨_,rfl,_,rfl,h⟩
  all_goals(simp[go_sem];try rfl)
end
set_option maxRecDepth 100000
section
variable {l:List Tok}
def eU(l:List Tok)(f:FuncId)(one:PS->PR):Prop:=∀s r,one s=some r->Io ak f [] (pc l s) (aB r.1) (pc l r.2)
def wX(l:List Tok)(f:FuncId)(one:PS->PR):Prop:=∀s r,one s=some r->KS ak f (pc l s) (aB r.1) (pc l r.2)
def lG{f}{one:PS->PR}(c:ak.cl f=false)(b:ak.io f=true)(h:eU l f one)(i)(H:ab):
  bt ak f [.ptr i 0] H=ir (pg l) (H.get i) (λp=>vO (one p.2) (λr=>some (aB r.1,H.set i (.cells p.1 (pc l r.2)))) (bt ak f [.ptr i 0] H)) (bt ak f [.ptr i 0] H):=
 qW λs a=>BZ λr d=>sr c b rfl rfl (Fh l s.2) (zX l s.2) (iL l s.2) a (h s.2 r d)
def jJ{s}{x}(h:bc l s x=true):nw l s x=be s:=by simp[nw,h]
def db{s}{x}(h:bc l s x=false):nw l s x=s:=by simp[nw,h]
def Qh(es)(ks:List Nd)(h:es=bA ks)(b:ks≠[]):AV.vec .ro es=.vec (if ks.isEmpty then .nil else .ro) (bA ks):=by
 subst h
 cases ks with
 |nil=>exact(b rfl).elim
 |cons a r=>rfl
def amn(a:l.length<=4000){n:Nat}(ih:eU l 244 (P l n .kind)):eU l 223 (P l (n+1) .typed):=by
 intro s r h;refine fX rfl rfl func223 rfl aA (λte=> ?_) (jI _) (iL l _)
 cases ht:bc l s [58] with
 |false=>simp[P,ht] at h;subst h;simp[go_sem,fa a,ht,db ht,Α,aZ,results223]<;>rfl
 |true=>simp[P,ht] at h;simp[go_sem,fa a,ht,jJ ht,ω,lG rfl rfl ih,aV,h,results223]<;>rfl
def amo(d:l.length<=4000){n:Nat}(ih:eU l 223 (P l n .typed)):wX l 243 (P l (n+1) .param):=by
 intro s r h;simp[P] at h;obtain⟨q,b,h⟩:=al h;cases h;refine Pd rfl rfl func243 rfl aA (λtb te=> ?_) (jI _) (iL l _);generalize c:cT l s=w at b⊢;obtain⟨x,s1⟩:=w;simp only at b⊢;rcases x with _|⟨w,a⟩;all_goals simp[go_sem,gi (l:=l),nr d,c,lG rfl rfl ih,aV,b,(qD (o2:=.full) (q:=3) _ (cB.one q.1) ai ai),fH (l:=l),gS,results243,dI,dH]
 all_goals rfl
def amp(c:l.length<=4000){n:Nat}(ih:eU l 244 (P l n .kind)):wX l 259 (P l (n+1) .field):=by
 intro s r h;simp[P] at h;obtain⟨q,b,h⟩:=al h;cases h;refine Pd rfl rfl func259 rfl aA (λtb te=> ?_) (jI _) (iL l _);generalize d:cT l s=w at b⊢;obtain⟨x,s1⟩:=w;simp only at b⊢;rcases x with _|⟨w,a⟩;all_goals simp[go_sem,gi (l:=l),nr c,d,l_ c,lG rfl rfl ih,aV,b,(qD (o2:=.full) (q:=3) _ (cB.one q.1) ai ai),fH (l:=l),gS,results259,dI,dH]
 all_goals rfl
def amq(c:l.length<=4000){n:Nat}(ih:eU l 260 (P l n .expr)):wX l 288 (P l (n+1) .entry):=by
 intro s r h;simp[P] at h;obtain⟨q,b,h⟩:=al h;cases h;refine Pd rfl rfl func288 rfl aA (λtb te=> ?_) (jI _) (iL l _);generalize d:cT l s=w at b⊢;obtain⟨x,s1⟩:=w;simp only at b⊢;rcases x with _|⟨w,a⟩;all_goals simp[go_sem,gi (l:=l),nr c,d,l_ c,lG rfl rfl ih,aV,b,(qD (o2:=.full) (q:=3) _ (cB.one q.1) ai ai),fH (l:=l),gS,results288,dI,dH]
 all_goals rfl
end
set_option maxRecDepth 100000
section
variable {l:List Tok}
def aiP(b:l.length<=4000){n}(hn:n<=900000)(ih:wX l 243 (P l n .param)):eU l 222 (P l (n+1) .params):=by intro s r h;simp[P] at h;obtain⟨q,f,h⟩:=al h;cases h;refine fX rfl rfl func222 rfl aA (λte=> ?_) (jI _) (iL l _);simp[go_sem,gi (l:=l),l_ b];simp[cg];refine bL (EW b (te:=te) (tn:=some 71) (K:=λH=>H.get 1=some (.z [.ptr 0 0])) (i:=0) (Oe rfl rfl aA ih) [41] (λH' c=>c 1 none [.ptr 0 0] aA aA rfl) f aX rfl rfl (.inl ⟨rfl,rfl⟩)) ?_;rintro _ ⟨⟨m1,L1⟩,rfl,a⟩;obtain⟨u,m⟩:=aj.1 a.p;obtain⟨j,d⟩:=aj.1 (a.k.2 1 none [.ptr 0 0] aA aA rfl);obtain⟨e,g2⟩:=aj.1 (a.k.2 2 (some 71) _ aA aA rfl);obtain⟨o,g,hg⟩:=a.n;obtain⟨t,g3⟩:=aj.1 g;simp only[go_sem,seval,υ u,υ j,υ e,υ t,m,g2,aF d,aF g2,aF g3,fH (l:=l),nQ q.1,bg,fU,sg,sn hg,results222];rfl
noncomputable def Rz:=f224.c.r.r.r.l.b.b
def Vp(u:l.length<=4000){te tn}{a0 a1 a2 a3 a4}{q}{one}(ih:eU l 245 one){H0}:
  ∀n ks s r α H,nU l one n ks s=some r->ks.length+n<=1000000->α 0=.ptr 0 0->α 2=.ptr 1 0->α 3=.ptr q 0->pB l te tn a0 a1 a2 a3 a4 0 q H0 ks s H->
   aD (aJ (aO ak Rz) α H) λx h H'=>x=.exit 0/\h 0=.ptr 0 0/\h 2=.ptr 1 0/\h 3=.ptr q 0/\pB l te tn a0 a1 a2 a3 a4 0 q H0 r.1 r.2 H'
 |0,ks,s,r,α,H,a,J,d,b2,g,b=>by cases a
 |n+1,ks,s,r,α,H,a,J,d,b2,g,b=>by
  obtain⟨m,L⟩:=H;obtain⟨B,e⟩:=aj.1 b.p;have v:=aF e;have w:=υ B;have N:Rz=.seq _ _:=rfl;rw[aG,N]
  cases he:s.err with
  |some x=>
   simp[nU,he] at a;subst a;simp only[go_sem,seval,d,v,w,he,awU];refine⟨?_,?_,?_,?_,b⟩;all_goals first|trivial|assumption
  |none=>
   simp[nU,he] at a
   cases ht:bc l s [125] with
   |true=>
    simp[ht] at a;subst a;have i:Up ⟨m,L⟩ 0 (.c te (pc l (be s))) ⟨m,aH L 0 (.c te (pc l (be s)))⟩:=Up.set b.p;simp only[go_sem,seval,d,v,w,e,he,ψ,fa u,ht,jJ ht,ω];refine⟨?_,?_,?_,?_,b.up i⟩;all_goals first|trivial|assumption
   |false=>
    simp[ht] at a;obtain⟨x,I,a⟩:=al a;have i:Up ⟨m,L⟩ 0 (.c te (pc l x.2)) ⟨m,aH L 0 (.c te (pc l x.2))⟩:=Up.set b.p;have f:=b.up i;obtain⟨o,G,C⟩:=f.n;obtain⟨j,⟨A,M⟩,E,p1,p2,p3,p4⟩:=Jh G (by rw[cz];exact C) (qv ks) (cB.one x.1) ai (by rw[cz];simp;omega) (o2:=.full)
    have D:pB l te tn a0 a1 a2 a3 a4 0 q H0 (ks++[x.1]) x.2 ⟨A,M⟩:=by
     refine⟨p4 0 _ _ b.ne f.p,⟨.own j,?_,?_⟩,aDj f.k.1 p3,λy t cs K z F=>p4 y t cs z (f.k.2 y t cs K z F)⟩
     ·rw[tu];exact p1
     ·simpa[cz] using p2
    simp[go_sem,d,g,v,w,e,he,ψ,fa u,ht,db ht,Α,qu L 0 _ e,lG rfl rfl ih,aV,I,E];refine Vp u ih n (ks++[x.1]) x.2 r _ _ a aX ?_ ?_ ?_ D;all_goals simp[go_sem,d,b2,g]
def amr(d:l.length<=4000){n}(hn:n<=900000)(ih:eU l 245 (P l n .stmt)):eU l 224 (P l (n+1) .block):=by
 intro s r h;simp[P] at h;obtain⟨q,g,h⟩:=al h;cases h;refine fX (c:=.seq _ (.seq _ (.seq _ (.seq (.block 0 (.loop Rz)) _)))) rfl rfl func224 rfl aA (λte=> ?_) (jI _) (iL l _);simp[go_sem,gi (l:=l),l_ d];refine jE ?_;rw[gB];refine aT (Vp d ih n [] (cA l [123] s) q _ _ g aX ?_ ?_ ?_ (q:=2) (te:=te) (tn:=some 71) (H0:=⟨3,[(2,.k 71 [.i 6,.i s.at_,.i 0,.str [],.i 0,.vec .nil []]),(1,.k 71 [.i 0,.i 0,.i 0,.str [],.i 0,.vec .nil []]),(0,.c te (pc l (cA l [123] s)))]⟩) ⟨rfl,⟨.nil,rfl,.inl ⟨rfl,rfl⟩⟩,μ _,λj t cs _ _ h=>h⟩) ?_
 case refine_4=>
  rintro x ae ⟨m1,L1⟩ ⟨rfl,d0,e,f,a⟩;refine .inl ⟨.inr rfl,?_⟩;obtain⟨y,u⟩:=aj.1 a.p;obtain⟨v,b⟩:=aj.1 (a.k.2 1 (some 71) _ aA aA rfl);obtain⟨o,m,hg⟩:=a.n;obtain⟨w,g3⟩:=aj.1 m;simp only[go_sem,seval,υ y,υ v,υ w,u,b,aF b,aF g3,d0,e,f,fH (l:=l),nQ q.1,bg,fU,sg,sn hg,results224];rfl
 all_goals simp[go_sem,]
structure s6(l:List Tok)(te:Option TypeId)(x:Nd)(s:PS)(H:ab):Prop where
 p:H.get 0=some (.c te (pc l s))
 r:H.get 1=some (.k 71 [.i 0,.i 0,.i 0,.str [],.i 0,.vec .nil []])
 x:∃cs,H.get 2=some (.k 71 cs)/\qm cs x
def s6.up{te}{x y}{s b}{H a:ab}(h:s6 l te x s H)(u:Up H 0 (.c te (pc l b)) a){cs}(d:qm cs y):s6 l te y b (a.set 2 (.k 71 cs)):=by obtain⟨cs0,e,_⟩:=h.x;exact⟨by rw[ab.ec,κ aA];exact u.2.1,by rw[ab.ec,κ aA];exact(u.2.2 1 _ aA h.r),⟨cs,by rw[ab.ec,ν rfl,(u.2.2 2 _ aA e)];rfl,d⟩⟩
noncomputable def RA:=f273.c.r.r.l.b.b
def Vq(g:l.length<=4000){te}{one}(ih:eU l 276 one):
  ∀n x s r α H,qA l one n x s=some r->α 0=.ptr 0 0->α 2=.ptr 1 0->α 3=.ptr 2 0->s6 l te x s H->
   aD (aJ (aO ak RA) α H) λy o H'=>y=.exit 0/\o 0=.ptr 0 0/\o 2=.ptr 1 0/\o 3=.ptr 2 0/\s6 l te r.1 r.2 H'
 |0,x,s,r,α,H,a,e,b2,k,b=>by cases a
 |n+1,x,s,r,α,H,a,e,b2,k,b=>by
  obtain⟨m,L⟩:=H;obtain⟨C,h⟩:=aj.1 b.p;obtain⟨cs,w,j⟩:=b.x;obtain⟨I,N⟩:=aj.1 w;have z:=υ C;have M:RA=.seq _ _:=rfl;rw[aG,M];rw[qA] at a
  cases ht:bc l s [42] with
  |false=>
   simp[ht] at a;subst a;simp only[go_sem,seval,e,z,h,fa g,ht,db ht,qu L 0 _ h];refine⟨?_,?_,?_,?_,b⟩;all_goals first|trivial|assumption
  |true=>
   simp[ht] at a;obtain⟨q,d,a⟩:=al a;simp[lL] at d;obtain⟨y,F,d⟩:=al d;cases d;have t:Up ⟨m,L⟩ 0 (.c te (pc l (be s))) ⟨m,aH L 0 (.c te (pc l (be s)))⟩:=Up.set b.p;obtain⟨⟨m1,K⟩,J,v⟩:=Ph g (BQ (te:=te) (i:=0) rfl rfl ih) F t.2.1 (λ_ _=>trivial) 18 j;obtain⟨D,u⟩:=aj.1 ((t.trans v).2.2 2 _ aA w);have A:bt ak 270 [.ptr 0 0,.i 18,.agg cs,.fn (.func 276) [.ptr 0 0] []] ⟨m,aH L 0 (.c te (pc l (be s)))⟩=some (.agg (wC 18 x.f y.2.at_ x y.1),⟨m1,K⟩):=J;have B:e_ (aH L 0 (.c te (pc l (be s)))) 2=some cs:=by rw[fU,κ aA];exact(aF N)
   have E:(wC 18 x.f y.2.at_ x y.1).length=6:=rfl;have G:eE (wC 18 x.f y.2.at_ x y.1)=true:=rfl;simp[go_sem,e,k,z,h,υ I,B,fa g,ht,jJ ht,j.take,j.len,A,υ D,aF u,u,E,G];refine Vq g ih n _ y.2 r _ _ a ?_ ?_ ?_ (b.up (t.trans v) (CL 18 x.f y.2.at_ x y.1));all_goals simp[go_sem,e,b2,k]
def ar1(i:l.length<=4000){n}(ih:eU l 276 (P l n .post)):eU l 273 (P l (n+1) .term):=by
 intro s r h;simp[P] at h;obtain⟨q,g,h⟩:=al h;refine fX (c:=.seq _ (.seq _ (.seq (.block 0 (.loop RA)) _))) rfl rfl func273 rfl aA (λte=> ?_) (jI _) (iL l _);simp[go_sem,lG rfl rfl ih,aV,g];refine jE ?_;rw[gB];refine aT (Vq i ih n q.1 q.2 r _ _ h ?_ ?_ ?_ (te:=te) ⟨rfl,rfl,⟨aC q.1,rfl,wM q.1⟩⟩) ?_
 case refine_4=>
  rintro x ae ⟨m1,L1⟩ ⟨rfl,d0,e,f,b⟩;refine .inl ⟨.inr rfl,?_⟩;obtain⟨t,k⟩:=aj.1 b.p;obtain⟨j,d⟩:=aj.1 b.r;obtain⟨cs,m,a⟩:=b.x;obtain⟨o,g3⟩:=aj.1 m;simp[go_sem,υ t,υ j,υ o,k,d,aF d,aF g3,e,f,a.take,a.len,a.all,a.bare,bg,fU,sg,results273]
 all_goals simp[go_sem,]
end
set_option maxRecDepth 100000
section
variable {l:List Tok}
def aaw(d:l.length<=4000){te}{i}{K}{c}{one}(o:C5 l te i K c one){s}{r}(h:one s=some r){H:ab}(hg:H.get i=some (.c te (pc l s)))(n:∀H':ab,(∀j y,H.get j=some y->H'.get j=some y)->K H')(k:Nat){cs:List AV}{a:Nd}(g:qm cs a):
  ∃x,bt ak 270 [.ptr i 0,.i k,.agg cs,c] H=some x/\∃b,x=(.agg (wC k a.f r.2.at_ a r.1),b)/\Up H i (.c te (pc l r.2)) b:=by
 obtain⟨b,m,e⟩:=Ph d o h hg n k g;exact⟨_,m,b,rfl,e⟩
def Xe(a):aB a=.agg (aC a):=yc a
def RB(l:List Tok)(te:Option TypeId)(r:Nd×PS)(α:az)(H:ab):Prop:=α 2=.ptr 1 0/\H.get 0=some (.c te (pc l r.2))/\∃cs,H.get 1=some (.k 71 cs)/\qm cs r.1
noncomputable def RC:=f269.c.r.r.l.b.b
def MZ(u:l.length<=4000){te:Option TypeId}{one:PS->PR}(ih:eU l 273 one):
  ∀n x s r α H,k_ l one n x s=some r->α 0=.ptr 0 0->α 2=.ptr 1 0->α 3=.ptr 2 0->s6 l te x s H->
   aD (aJ (aO ak RC) α H) λy C H'=>(y=.exit 0/\C 0=.ptr 0 0/\C 2=.ptr 1 0/\C 3=.ptr 2 0/\s6 l te r.1 r.2 H')\/(y=.ret/\RB l te r C H')
 |0,x,s,r,α,H,a,h,b2,t,j=>by cases a
 |n+1,x,s,r,α,H,a,h,b2,t,j=>by
  obtain⟨m,L⟩:=H;obtain⟨T,o⟩:=aj.1 j.p;obtain⟨cs,V,v⟩:=j.x;obtain⟨Bk,ot⟩:=aj.1 V;obtain⟨X,Q⟩:=aj.1 j.r;have D:=aF o;have E:=υ T;have c2:=aF ot;have I:=υ Bk;have M:=v.take;have b:=v.len;have hB:RC=.seq _ _:=rfl;rw[aG,hB]
  cases he:s.err with
  |some e=>
   simp[k_,he] at a;subst a;simp only[go_sem,seval,h,D,E,he,awU];refine .inl ⟨?_,?_,?_,?_,j⟩;all_goals first|trivial|assumption
  |none=>
   simp[k_,he] at a
   have Y:∀k:Nat,(B:(bn (lL k x one (be s)) λr=>k_ l one n r.1 r.2)=some r)->∃(y:Nd×PS) (m1:Nat) (d:List (Nat×bH)),bt ak 270 [.ptr 0 0,.i k,.agg cs,.fn (.func 273) [.ptr 0 0] []] ⟨m,aH L 0 (.c te (pc l (be s)))⟩=some (.agg (wC k x.f y.2.at_ x y.1),⟨m1,d⟩)/\
     s6 l te (.mk k x.f y.2.at_ [] 0 [x,y.1]) y.2 (ab.set ⟨m1,d⟩ 2 (.k 71 (wC k x.f y.2.at_ x y.1)))/\k_ l one n (.mk k x.f y.2.at_ [] 0 [x,y.1]) y.2=some r/\(2<m1)/\cq d 2=some (.k 71 cs):=by
    intro k B;obtain⟨q,A,B⟩:=al B;simp[lL] at A;obtain⟨y,Z,A⟩:=al A;cases A;have J:Up ⟨m,L⟩ 0 (.c te (pc l (be s))) ⟨m,aH L 0 (.c te (pc l (be s)))⟩:=Up.set j.p;obtain⟨⟨m1,d⟩,z,U⟩:=Ph u (BQ (te:=te) (i:=0) rfl rfl ih) Z J.2.1 (λ_ _=>trivial) k v;obtain⟨w,g⟩:=aj.1 ((J.trans U).2.2 2 _ aA V);exact⟨y,m1,d,z,j.up (J.trans U) (CL k x.f y.2.at_ x y.1),B,w,g⟩
   have S:e_ (aH L 0 (.c te (pc l (be s)))) 2=some cs:=by rw[fU,κ aA];exact c2
   have W:=qu L 0 _ o
   cases ht:bc l s [43] with
   |true=>
    simp[ht] at a;obtain⟨y,m1,d,z,R,P,w,g⟩:=Y 16 a;have F:bt ak 270 [.ptr 0 0,.i 16,.agg cs,.fn (.func 273) [.ptr 0 0] []] ⟨m,aH L 0 (.c te (pc l (be s)))⟩=some (.agg (wC 16 x.f y.2.at_ x y.1),⟨m1,d⟩):=z;have G:=aF g;have O:=υ w;have K:(wC 16 x.f y.2.at_ x y.1).length=6:=rfl;have N:eE (wC 16 x.f y.2.at_ x y.1)=true:=rfl;simp[go_sem,h,t,D,E,o,he,ψ,I,S,fa u,ht,jJ ht,M,b,F,O,G,g,K,N];refine MZ u ih n _ y.2 r _ _ P ?_ ?_ ?_ R;all_goals simp[go_sem,h,b2,t]
   |false=>
    simp[ht] at a
    cases hu:bc l s [45] with
    |true=>
     simp[hu] at a;obtain⟨y,m1,d,z,R,P,w,g⟩:=Y 17 a;have F:bt ak 270 [.ptr 0 0,.i 17,.agg cs,.fn (.func 273) [.ptr 0 0] []] ⟨m,aH L 0 (.c te (pc l (be s)))⟩=some (.agg (wC 17 x.f y.2.at_ x y.1),⟨m1,d⟩):=z;have G:=aF g;have O:=υ w;have K:(wC 17 x.f y.2.at_ x y.1).length=6:=rfl;have N:eE (wC 17 x.f y.2.at_ x y.1)=true:=rfl;simp[go_sem,h,t,D,E,o,he,ψ,I,S,fa u,ht,hu,W,db ht,jJ hu,M,b,F,O,G,g,K,N];refine MZ u ih n _ y.2 r _ _ P ?_ ?_ ?_ R;all_goals simp[go_sem,h,b2,t]
    |false=>simp[hu] at a;subst a;simp only[go_sem,seval,h,b2,t,D,E,o,he,ψ,υ X,I,aF Q,c2,Q,fa u,ht,hu,W,db ht,db hu,M,b,v.all];refine .inr ⟨trivial,?_,aj.2 ⟨T,by rw[bg,κ aA];exact o⟩,cs,aj.2 ⟨X,by rw[bg,ν rfl,Q];rfl⟩,v⟩;simp[go_sem,b2]
def ab0{te}{r}{α:az}{H:ab}(h:RB l te r α H):yz (finish prog [.cell 2 71] (.ret,α,H))=some (aB r.1,te,pc l r.2):=by obtain⟨m,L⟩:=H;obtain⟨a2,f,cs,e,a⟩:=h;obtain⟨g,d⟩:=aj.1 f;obtain⟨c,b⟩:=aj.1 e;simp[go_sem,a2,υ g,υ c,d,aF b,a.take,a.len,a.bare,Yn,WK,Yo,UH,Vf]
def awA(i:l.length<=4000){n:Nat}(ih:eU l 273 (P l n .term)):eU l 269 (P l (n+1) .sum):=by
 intro s r h;simp[P] at h;obtain⟨q,g,h⟩:=al h;refine fX (c:=.seq _ (.seq _ (.seq (.block 0 (.loop RC)) _))) rfl rfl func269 rfl aA (λte=> ?_) (jI _) (iL l _);simp only[go_sem,seval,lG rfl rfl ih,aV,g];refine jE ?_;rw[gB];refine aT (MZ i ih n q.1 q.2 r _ _ h ?_ ?_ ?_ (te:=te) ⟨rfl,rfl,⟨aC q.1,rfl,wM q.1⟩⟩) ?_
 case refine_4=>
  rintro x ae ⟨m1,L1⟩ (⟨rfl,d0,e,f,b⟩|⟨rfl,o⟩)
  ·refine .inl ⟨.inr rfl,?_⟩;obtain⟨u,k⟩:=aj.1 b.p;obtain⟨j,d⟩:=aj.1 b.r;obtain⟨cs,m,a⟩:=b.x;obtain⟨t,g3⟩:=aj.1 m;simp only[go_sem,seval,υ u,υ j,υ t,k,d,aF d,aF g3,e,f,a.take,a.len,a.all,a.bare,bg,fU,sg,results269]
  ·refine .inr ⟨rfl,?_⟩;rw[results269];exact ab0 o
 all_goals simp[go_sem,]
def aAx{c}{a}(b:qm c a)(H):dS prog 69 1 [(0,.agg c)] H=some (.vec .full [aB a],H):=by simp[dS,yo,sF,Cs,mH,fF,lZ,b.erase,xO,zL,zW]
noncomputable def RD:=f276.c.r.r.l.b.b
def GX(t:l.length<=4000){te:Option TypeId}{one:PS->PR}(ih:eU l 260 one):
  ∀n x s r α H,n<=900000->nk l one n x s=some r->α 0=.ptr 0 0->α 2=.ptr 1 0->α 3=.ptr 2 0->s6 l te x s H->
   aD (aJ (aO ak RD) α H) λy I H'=>(y=.exit 0/\I 0=.ptr 0 0/\I 2=.ptr 1 0/\I 3=.ptr 2 0/\s6 l te r.1 r.2 H')\/(y=.ret/\RB l te r I H')
 |0,x,s,r,α,H,hn,d,j,b2,u,B=>by cases d
 |n+1,x,s,r,α,H,hn,d,j,b2,u,B=>by
  obtain⟨m,L⟩:=H;obtain⟨eA,h⟩:=aj.1 B.p;obtain⟨cs,jP,v⟩:=B.x;obtain⟨Bk,T⟩:=aj.1 jP;obtain⟨uA,D⟩:=aj.1 B.r;have C:=aF h;have E:=υ eA;have c2:=aF T;have G:=υ Bk;have M:=v.take;have b:=v.len;have F:=v.frm;have O:=aAx v;have P:=aY (0<m+1);have y1:=aY (1<m+1);have y2:=aY (2<m+1);have Q:=aY (m<m+1);have Z:=aY (0<m+1+1);have y4:=aY (2<m+1+1);have y5:=aY (m<m+1+1);have J:=dw (m=0);have n1:=dw (m=1);have n2:=dw (m=2);have Y:=dw (m+1=0);have n4:=dw (m+1=2);have W:=dw (m+1=m);have hB:RD=.seq _ _:=rfl;rw[aG,hB]
  cases he:s.err with
  |some e=>
   simp[nk,he] at d;subst d;simp only[go_sem,seval,j,C,E,he,awU];refine .inl ⟨?_,?_,?_,?_,B⟩;all_goals first|trivial|assumption
  |none=>
   simp[nk,he] at d
   cases ht:bc l s [46] with
   |true=>
    simp[ht] at d;generalize hw:cT l (be s)=w at d;obtain⟨o,g⟩:=w
    have fin:∀S x' tk,qm S x'->s6 l te x' g ⟨m+1+1,(m+1,.k 95 tk)::(m,.k 71 [.i 19,.i x.f,.i 0,dI (.str []) o,dH (.i 0) o,.vec .full [aB x]])::aH (aH L 0 (.c te (pc l g))) 2 (.k 71 S)⟩:=by
     intro S x' tk qM;refine⟨aj.2 ⟨aa,?_⟩,aj.2 ⟨aa,?_⟩,⟨S,aj.2 ⟨aa,?_⟩,qM⟩⟩
     ·rw[br,bV,br,bV,bg,κ aA,bg,ν rfl,h];rfl
     ·rw[br,bV,br,bV,bg,κ aA,bg,κ aA];exact D
     ·rw[br,bV,br,bV,bg,ν rfl,bg,κ aA,T];rfl
    have V:e_ (aH L 0 (.c te (pc l g))) 2=some cs:=by rw[fU,κ aA];exact c2
    have e2:cq (aH L 0 (.c te (pc l g))) 2=some (.k 71 cs):=by rw[bg,κ aA];exact T
    have d0:cq (aH L 0 (.c te (pc l g))) 0=some (.c te (pc l g)):=by rw[bg,ν rfl,h];rfl
    have A:cq (aH L 0 (.c te (pc l (be s)))) 0=some (.c te (pc l (be s))):=by rw[bg,ν rfl,h];rfl
    cases o with
    |none=>
     have:=fin (aC (.mk 19 x.f g.at_ [] 0 [x])) (.mk 19 x.f g.at_ [] 0 [x]) (C3 (fA l (be s))) (wM _);simp only[go_sem,seval,j,u,C,E,h,he,ψ,G,c2,fa t,ht,jJ ht,M,b,F,O,aZ,P,Z,y4,y5,Q,J,n2,Y,n4,W,nr t,hw,A,d0,V,e2,gh,dI,dH,fH (l:=l),gS];refine GX t ih n _ g r _ _ aa d ?_ ?_ ?_ this;all_goals simp[go_sem,j,b2,u]
    |some wa=>
     obtain⟨w,a⟩:=wa;have:=fin (aC (.mk 19 x.f g.at_ w a [x])) (.mk 19 x.f g.at_ w a [x]) (C3 (fA l (be s))) (wM _);simp only[go_sem,seval,j,u,C,E,h,he,ψ,G,c2,fa t,ht,jJ ht,M,b,F,O,aZ,P,Z,y4,y5,Q,J,n2,Y,n4,W,nr t,hw,A,d0,V,e2,gh,dI,dH,fH (l:=l),gS];refine GX t ih n _ g r _ _ aa d ?_ ?_ ?_ this;all_goals simp[go_sem,j,b2,u]
   |false=>
    simp[ht] at d;have hs:=qu L 0 _ h
    cases hu:bc l s [40] with
    |true=>
     simp[hu] at d;obtain⟨q,hq,d⟩:=al d;simp only[go_sem,seval,j,u,C,E,h,he,ψ,G,c2,fa t,ht,db ht,hu,jJ hu,hs,M,b,F,O,aZ,P,Q,J];have g0:cq ((m,bH.cells (some 71) [.i 20,.i x.f,.i 0,.str [],.i 0,.vec .full [aB x]])::aH L 0 (.c te (pc l (be s)))) 0=some (.c te (pc l (be s))):=by rw[br,bV,bg,ν rfl,h];rfl
     have gm:∀{X:bH} {R:List (Nat×bH)},cq ((m,X)::R) m=some X:=by intro X R;rw[br,ν rfl]
     simp[cg];refine bL (EW t (te:=te) (tn:=some 71) (K:=λ_=>True) (i:=0) (q:=m) (BQ rfl rfl ih) [41] (λ_ _=>trivial) hq aX (aj.2 ⟨aa,g0⟩) (aj.2 ⟨aa,gm⟩) (.inr (.inl ⟨rfl,ai⟩))) ?_;rintro _ ⟨⟨m1,L1⟩,rfl,N⟩;obtain⟨z0,j0⟩:=aj.1 N.p;obtain⟨z1,j1⟩:=aj.1 (N.k.2 1 (some 71) _ aA aa (aj.2 ⟨aa,by rw[br,bV,bg,κ aA];exact D⟩));obtain⟨z,U⟩:=aj.1 (N.k.2 2 (some 71) _ aA aa (aj.2 ⟨aa,by rw[br,bV,bg,κ aA];exact T⟩));obtain⟨o,oV,hg⟩:=N.n;obtain⟨z3,j3⟩:=aj.1 oV
     have:s6 l te (.mk 20 x.f q.2.at_ [] 0 q.1) q.2 ⟨m1,aH L1 2 (.k 71 (aC (.mk 20 x.f q.2.at_ [] 0 q.1)))⟩:=
      ⟨aj.2 ⟨z0,by rw[bg,κ aA];exact j0⟩,aj.2 ⟨z1,by rw[bg,κ aA];exact j1⟩,⟨_,aj.2 ⟨z,by rw[bg,ν rfl,U];rfl⟩,wM _⟩⟩
     simp only[go_sem,seval,j,u,υ z0,υ z,υ z3,j0,U,aF U,aF j3,b,fH (l:=l),nQ q.1,sn hg];refine GX t ih n _ q.2 r _ _ aa d ?_ ?_ ?_ this;all_goals simp[go_sem,j,b2,u]
    |false=>simp[hu] at d;subst d;simp only[go_sem,seval,j,b2,u,C,E,h,he,ψ,G,c2,fa t,ht,db ht,hu,db hu,hs,M,b,F,O,v.all,aZ,P,y1,y2,Q,J,n1,n2,aF D,D];refine .inr ⟨trivial,?_,aj.2 ⟨aa,by rw[br,bV,bg,κ aA];exact h⟩,cs,aj.2 ⟨aa,by rw[br,bV,bg,ν rfl,D];rfl⟩,v⟩;simp[go_sem,b2]
def ar2(j:l.length<=4000){n:Nat}(v:n<=900000)(d:eU l 282 (P l n .atom))(ih:eU l 260 (P l n .expr)):eU l 276 (P l (n+1) .post):=by
 intro s r h;simp[P] at h;obtain⟨q,i,h⟩:=al h;refine fX (c:=.seq _ (.seq _ (.seq (.block 0 (.loop RD)) _))) rfl rfl func276 rfl aA (λte=> ?_) (jI _) (iL l _);simp only[go_sem,seval,lG rfl rfl d,aV,i];refine jE ?_;rw[gB];refine aT (GX j ih n q.1 q.2 r _ _ v h ?_ ?_ ?_ (te:=te) ⟨rfl,rfl,⟨aC q.1,rfl,wM q.1⟩⟩) ?_
 case refine_4=>
  rintro x ae ⟨m1,L1⟩ (⟨rfl,d0,f,g,b⟩|⟨rfl,t⟩)
  ·refine .inl ⟨.inr rfl,?_⟩;obtain⟨w,m⟩:=aj.1 b.p;obtain⟨k,e⟩:=aj.1 b.r;obtain⟨cs,o,a⟩:=b.x;obtain⟨u,g3⟩:=aj.1 o;simp only[go_sem,seval,υ w,υ k,υ u,m,e,aF e,aF g3,f,g,a.take,a.len,a.all,a.bare,bg,fU,sg,results276]
  ·refine .inr ⟨rfl,?_⟩;rw[results276];exact ab0 t
 all_goals simp[go_sem,]
def ar3(d:l.length<=4000){n:Nat}(ih:eU l 269 (P l n .sum)):eU l 260 (P l (n+1) .expr):=by
 intro s r h;simp[P] at h;obtain⟨q,o,h⟩:=al h;refine fX rfl rfl func260 rfl aA (λte=> ?_) (jI _) (iL l _);have k1:=lG rfl rfl ih;have fin:∀(k:Nat) (y:Nd×PS) (A:PS) (m1:Nat) (a:List (Nat×bH)),Up ⟨3,[(2,.k 71 (aC q.1)),(1,.k 71 [.i 0,.i 0,.i 0,.str [],.i 0,.vec .nil []]),(0,.c te (pc l A))]⟩ 0 (.c te (pc l y.2)) ⟨m1,a⟩->(0<m1)/\(1<m1)/\cq a 0=some (.c te (pc l y.2))/\cq a 1=some (.k 71 [.i 0,.i 0,.i 0,.str [],.i 0,.vec .nil []]):=by intro k y A m1 a u;obtain⟨j,g⟩:=aj.1 u.2.1;obtain⟨e,b⟩:=aj.1 (u.2.2 1 _ aA rfl);exact⟨j,e,g,b⟩
 cases h1:bc l q.2 [60] with
 |true=>simp[h1,lL] at h;obtain⟨y,t,h⟩:=al h;cases h;simp[go_sem,k1,aV,o,fa d,h1,jJ h1];rw[Xe q.1];simp[cg];refine bL (aaw d (te:=te) (i:=0) (K:=λ_=>True) (BQ rfl rfl ih) t rfl (λ_ _=>trivial) 14 (wM q.1)) ?_;rintro _ ⟨⟨m1,a⟩,rfl,u⟩;obtain⟨j,e,g,b⟩:=fin 14 y _ m1 a u;have p:=υ j;have b1:=υ e;have z:=aF b;have w:(wC 14 q.1.f y.2.at_ q.1 y.1).length=6:=rfl;have v:eE (wC 14 q.1.f y.2.at_ q.1 y.1)=true:=rfl;have m:=(CL 14 q.1.f y.2.at_ q.1 y.1).take;have x:=(CL 14 q.1.f y.2.at_ q.1 y.1).bare;simp[go_sem,p,b1,g,b,z,w,v,m,x,bg,fU,sg,results260]
 |false=>
  simp[h1] at h
  cases h2:bc l q.2 [61,61] with
  |true=>simp[h2,lL] at h;obtain⟨y,t,h⟩:=al h;cases h;simp[go_sem,k1,aV,o,fa d,h1,h2,db h1,jJ h2];rw[Xe q.1];simp[cg];refine bL (aaw d (te:=te) (i:=0) (K:=λ_=>True) (BQ rfl rfl ih) t rfl (λ_ _=>trivial) 15 (wM q.1)) ?_;rintro _ ⟨⟨m1,a⟩,rfl,u⟩;obtain⟨j,e,g,b⟩:=fin 15 y _ m1 a u;have p:=υ j;have b1:=υ e;have z:=aF b;have w:(wC 15 q.1.f y.2.at_ q.1 y.1).length=6:=rfl;have v:eE (wC 15 q.1.f y.2.at_ q.1 y.1)=true:=rfl;have m:=(CL 15 q.1.f y.2.at_ q.1 y.1).take;have x:=(CL 15 q.1.f y.2.at_ q.1 y.1).bare;simp[go_sem,p,b1,g,b,z,w,v,m,x,bg,fU,sg,results260]
  |false=>simp[h2] at h;subst h;simp[go_sem,k1,aV,o,fa d,h1,h2,db h1,db h2,results260]
end
set_option maxRecDepth 100000
section
variable {l:List Tok}
def awB:ak.cl 222=false:=af
def awC:ak.cl 223=false:=af
def awD:ak.cl 224=false:=af
def awE:ak.cl 181=false:=af
def awG:ak.cl 183=false:=af
attribute [go_sem] awG awB awC awD awE
def ams(hl:l.length<=4000)(s):Io ak 261 [] (pc l s) (.bool (qC l s)) (pc l s):=by
 refine fX rfl rfl func261 rfl aA (λte=> ?_) rfl (iL l s);generalize c:fA l s=t;obtain⟨k,a,b,y⟩:=t;have d:((k:Int) != 1)= !decide (k=1):=rO k 1;by_cases f:k=1
 ·rw[π f] at d
  have aN:s.at_<l.length:=by
   by_cases p:s.at_<l.length
   ·exact p
   ·rw[Ed (aDq aa)] at c;cases c;cases f
  have h:=mO (n:=s.at_) aa;by_cases j:s.at_+1<l.length
  ·obtain⟨x,o⟩:=fG j;have g:=bP (((s.at_+1:Nat):Int)≥(l.length:Int));have m:=uz o;obtain⟨k2,a2,b2,i⟩:=x;have c2:((k2:Int)==5)=decide (k2=5):=ez k2 5;have q:jS .eql i [61]=some (.bool (decide (i=[61]))):=by simp[jS,aFm]
   have e:qC l s=(decide (k2=5)&&decide (i=[61])):=by simp[qC,c,f,o]
   rw[e]
   cases h5:decide (k2=5) with
   |true=>rw[h5] at c2;simp only[go_sem,seval,lf (l:=l),c,kU,d,h,tR,g,m,c2,q,ω,results261]<;>rfl
   |false=>rw[h5] at c2;simp only[go_sem,seval,lf (l:=l),c,kU,d,h,tR,g,m,c2,ω,results261]<;>rfl
  ·have g:=bJ (((s.at_+1:Nat):Int)≥(l.length:Int));have e:qC l s=false:=by simp[qC,aDq (aD2 j)]
   rw[e];simp only[go_sem,seval,lf (l:=l),c,kU,d,h,tR,g,ω,results261]<;>rfl
 ·rw[ξ f] at d;have e:qC l s=false:=by simp[qC,c,f]
  rw[e];simp[go_sem,lf (l:=l),c,kU,d,Α,results261]<;>rfl
def Pj(a:l.length<=4000)(i)(H:ab):bt ak 261 [.ptr i 0] H=ir (pg l) (H.get i) (λp=>some (.bool (qC l p.2),H)) (bt ak 261 [.ptr i 0] H):=Ey [] rfl rfl rfl (ams a) i H
def ar4(b:l.length<=4000){n}(hn:n<=900000)(u:wX l 259 (P l n .field))(ih:eU l 244 (P l n .kind)):eU l 244 (P l (n+1) .kind):=by
 intro s r h;refine fX rfl rfl func244 rfl aA (λte=> ?_) (jI _) (iL l _);rw[P] at h
 cases h1:bc l s [105,110,116] with
 |true=>simp[h1] at h;subst h;simp[go_sem,gi (l:=l),fa b,h1,jJ h1,fH (l:=l),gS,results244]<;>rfl
 |false=>
 simp[h1] at h
 cases h2:bc l s [115,116,114] with
 |true=>simp[h2] at h;subst h;simp[go_sem,gi (l:=l),fa b,h1,h2,db h1,jJ h2,fH (l:=l),gS,results244]<;>rfl
 |false=>
 simp[h2] at h
 cases h3:bc l s [100,121,110] with
 |true=>simp[h3] at h;subst h;simp[go_sem,gi (l:=l),fa b,h1,h2,h3,db h1,db h2,jJ h3,fH (l:=l),gS,results244]<;>rfl
 |false=>
 simp[h3] at h
 cases h4:bc l s [123] with
 |true=>simp[h4] at h;obtain⟨q,d,h⟩:=al h;cases h;simp[go_sem,gi (l:=l),fa b,h1,h2,h3,h4,db h1,db h2,db h3,jJ h4];simp[cg];refine bL (EW b (te:=te) (tn:=some 71) (K:=λH=>H.get 1=some (.z [.ptr 0 0])) (i:=0) (Oe rfl rfl aA u) [125] (λH' J=>J 1 none [.ptr 0 0] aA aA rfl) d aX rfl rfl (.inl ⟨rfl,rfl⟩)) ?_;rintro _ ⟨⟨m1,m⟩,rfl,a⟩;obtain⟨C,e⟩:=aj.1 a.p;obtain⟨w,A⟩:=aj.1 (a.k.2 1 none [.ptr 0 0] aA aA rfl);obtain⟨E,g2⟩:=aj.1 (a.k.2 2 (some 71) _ aA aA rfl);obtain⟨o,B,hg⟩:=a.n;obtain⟨R,g3⟩:=aj.1 B;have g:=aF A;have v:=υ C;have b1:=υ w;have y:=nQ q.1;simp only[go_sem,seval,v,b1,υ E,υ R,e,g2,g,aF g2,aF g3,fH (l:=l),y,bg,fU,sg,sn hg,results244];rfl
 |false=>
 simp[h4] at h
 cases h5:bc l s [102,110] with
 |true=>
  simp[h5] at h;obtain⟨q,d,h⟩:=al h;obtain⟨p,Q,h⟩:=al h;cases h;simp[go_sem,gi (l:=l),fa b,h1,h2,h3,h4,h5,db h1,db h2,db h3,db h4,jJ h5,l_ b];simp[cg];refine bL (EW b (te:=te) (tn:=some 71) (K:=λ_=>True) (i:=0) (BQ rfl rfl ih) [41] (λ_ _=>trivial) d aX rfl rfl (.inl ⟨rfl,rfl⟩)) ?_;rintro _ ⟨⟨m1,m⟩,rfl,a⟩;obtain⟨C,e⟩:=aj.1 a.p;obtain⟨w,A⟩:=aj.1 (a.k.2 1 none [.ptr 0 0] aA aA rfl);obtain⟨E,g2⟩:=aj.1 (a.k.2 2 (some 71) _ aA aA rfl);have f:=a.up (Up.set (x:=.c te (pc l p.2)) a.p);obtain⟨o,B,hg⟩:=f.n;obtain⟨j,⟨G,U⟩,O,p1,p2,p3,p4⟩:=Jh B (by rw[cz];exact hg) (qv q.1) (cB.one p.1) ai (by rw[cz];have T:=BG l d;rw[Χ] at T;simp;omega) (o2:=.full);obtain⟨S,d0⟩:=aj.1 (p4 0 _ _ aA f.p);obtain⟨I,N⟩:=aj.1 (p4 1 _ _ aA (f.k.2 1 none [.ptr 0 0] aA aA rfl));obtain⟨W,D⟩:=aj.1 (p4 2 _ _ aA (f.k.2 2 (some 71) _ aA aA rfl));obtain⟨L,F⟩:=aj.1 p1;have t:bt ak 183 [.ptr 3 0,.vec .full [aB p.1]] ⟨m1,aH m 0 (.c te (pc l p.2))⟩=some (.tup [],⟨G,U⟩):=O;have g:=aF A;have V:e_ (aH m 0 (.c te (pc l (cA l [58] q.2)))) 1=some [.ptr 0 0]:=by rw[fU,κ aA];exact g
  have M:cq (aH m 0 (.c te (pc l (cA l [58] q.2)))) 0=some (.c te (pc l (cA l [58] q.2))):=by rw[bg,ν rfl,e];rfl
  have v:=υ C;have b1:=υ w;have y:AV.aq.go (bA q.1++[aB p.1])=true:=by rw[show bA q.1++[aB p.1]=bA (q.1++[p.1]) from by rw[tu];rfl];exact nQ _
  simp[go_sem,v,b1,e,g,l_ b,V,M,lG rfl rfl ih,aV,Q,gh,t,υ S,υ I,υ W,υ L,d0,D,aF N,aF D,aF F,fH (l:=l),y,bg,fU,sg,results244];rw[show bA q.1++[aB p.1]=bA (q.1++[p.1]) from by rw[tu];rfl,Qh _ (q.1++[p.1]) rfl ai];rfl
 |false=>simp[h5] at h;subst h;simp[go_sem,gi (l:=l),fa b,h1,h2,h3,h4,h5,db h1,db h2,db h3,db h4,db h5,EV (l:=l),fH (l:=l),gS,results244]<;>rfl
def ar5(b:l.length<=4000){n}(k:eU l 223 (P l n .typed))(j:eU l 260 (P l n .expr))(v:eU l 224 (P l n .block)):eU l 245 (P l (n+1) .stmt):=by
 intro s r h;refine fX rfl rfl func245 rfl aA (λte=> ?_) (jI _) (iL l _);have k1:=lG rfl rfl k;have k2:=lG rfl rfl j;have f:=lG rfl rfl v;rw[P] at h;simp only at h
 cases h1:bc l s [108,101,116] with
 |true=>
  simp[h1] at h;obtain⟨q,d,h⟩:=al h;obtain⟨p,c,h⟩:=al h;cases h;generalize e:cT l (be s)=w at d⊢;obtain⟨o,t⟩:=w;simp only at d⊢;have p1:=qD (o2:=.full) (q:=2) _ (cB.one q.1) ai ai;have p2:=Qg (o2:=.full) (q:=2) _ _ 1 rfl (cB.one q.1) (cB.one p.1) ai ai;have w1:=υ (cB.one q.1)
  cases o with
  |none=>simp[go_sem,gi (l:=l),fa b,h1,jJ h1,nr b,e,dI,dH,k1,k2,aV,d,c,p1,p2,l_ b,fH (l:=l),gS,results245,aD8,aDl];rfl
  |some g=>obtain⟨w,a⟩:=g;simp[go_sem,gi (l:=l),fa b,h1,jJ h1,nr b,e,dI,dH,k1,k2,aV,d,c,p1,p2,l_ b,fH (l:=l),gS,results245,aD8,aDl];rfl
 |false=>
 simp[h1] at h
 cases h2:bc l s [105,102] with
 |true=>
  simp[h2] at h;obtain⟨q,d,h⟩:=al h;obtain⟨p,c,h⟩:=al h;have p1:=qD (o2:=.full) (q:=2) _ (cB.two q.1 p.1) ai ai;have w1:=υ (cB.two q.1 p.1)
  cases he:bc l p.2 [101,108,115,101] with
  |true=>simp[he] at h;obtain⟨u,m,h⟩:=al h;cases h;have p2:=Qg (o2:=.full) (q:=2) _ _ 2 rfl (cB.two q.1 p.1) (cB.one u.1) ai ai;simp[go_sem,gi (l:=l),fa b,h1,h2,db h1,jJ h2,k2,f,aV,d,c,he,jJ he,m,p1,p2,fH (l:=l),gS,results245,aD8,aDl];rfl
  |false=>simp[he] at h;subst h;have p2:=Qg (o2:=.full) (q:=2) _ _ 2 rfl (cB.two q.1 p.1) (cB.one eG) ai ai;have x:AV.agg [.i 0,.i 0,.i 0,.str [],.i 0,.vec .nil []]=aB eG:=rfl;simp[go_sem,gi (l:=l),fa b,h1,h2,db h1,jJ h2,k2,f,aV,d,c,he,db he,x,p1,p2,fH (l:=l),gS,results245,aD8,aDl];rfl
 |false=>
 simp[h2] at h
 cases h3:bc l s [119,104,105,108,101] with
 |true=>simp[h3] at h;obtain⟨q,d,h⟩:=al h;obtain⟨p,c,h⟩:=al h;cases h;have p1:=qD (o2:=.full) (q:=2) _ (cB.two q.1 p.1) ai ai;simp[go_sem,gi (l:=l),fa b,h1,h2,h3,db h1,db h2,jJ h3,k2,f,aV,d,c,p1,fH (l:=l),gS,results245];rfl
 |false=>
 simp[h3] at h
 cases h4:bc l s [112,114,105,110,116] with
 |true=>simp[h4] at h;obtain⟨p,c,h⟩:=al h;cases h;have p1:=qD (o2:=.full) (q:=2) _ (cB.one p.1) ai ai;simp[go_sem,gi (l:=l),fa b,h1,h2,h3,h4,db h1,db h2,db h3,jJ h4,k2,aV,c,p1,l_ b,fH (l:=l),gS,results245];rfl
 |false=>
 simp[h4] at h
 cases h5:bc l s [114,101,116,117,114,110] with
 |true=>simp[h5] at h;obtain⟨p,c,h⟩:=al h;cases h;have p1:=qD (o2:=.full) (q:=2) _ (cB.one p.1) ai ai;simp[go_sem,gi (l:=l),fa b,h1,h2,h3,h4,h5,db h1,db h2,db h3,db h4,jJ h5,k2,aV,c,p1,l_ b,fH (l:=l),gS,results245];rfl
 |false=>
 simp[h5] at h
 cases h6:qC l s with
 |true=>
  simp[h6] at h;obtain⟨p,c,h⟩:=al h;cases h;generalize e:cT l s=w at c⊢;obtain⟨o,t⟩:=w;simp only at c⊢;have p1:=qD (o2:=.full) (q:=2) _ (cB.one p.1) ai ai
  cases o with
  |none=>simp[go_sem,gi (l:=l),fa b,h1,h2,h3,h4,h5,h6,db h1,db h2,db h3,db h4,db h5,Pj b,nr b,e,dI,dH,k2,aV,c,p1,l_ b,fH (l:=l),gS,results245];rfl
  |some g=>obtain⟨w,a⟩:=g;simp[go_sem,gi (l:=l),fa b,h1,h2,h3,h4,h5,h6,db h1,db h2,db h3,db h4,db h5,Pj b,nr b,e,dI,dH,k2,aV,c,p1,l_ b,fH (l:=l),gS,results245];rfl
 |false=>simp[h6] at h;obtain⟨p,c,h⟩:=al h;cases h;have p1:=qD (o2:=.full) (q:=2) _ (cB.one p.1) ai ai;simp[go_sem,gi (l:=l),fa b,h1,h2,h3,h4,h5,h6,db h1,db h2,db h3,db h4,db h5,Pj b,k2,aV,c,p1,l_ b,fH (l:=l),gS,results245];rfl
end
set_option maxRecDepth 100000
set_option maxHeartbeats 4000000
section
variable {l:List Tok}
def aax{s:PS}(h:(fA l s).1≠0):s.at_<l.length:=by
 by_cases a:s.at_<l.length
 ·exact a
 ·rw[Ed (aDq aa)] at h;exact(h rfl).elim
def ar6(g:l.length<=4000){n}(hn:n<=900000)(T:eU l 260 (P l n .expr))(D:wX l 288 (P l n .entry))(F:eU l 222 (P l n .params))(G:eU l 223 (P l n .typed))(V:eU l 224 (P l n .block)):eU l 282 (P l (n+1) .atom):=by
 intro s r h;refine fX rfl rfl func282 rfl aA (λte=> ?_) (jI _) (iL l _);rw[P] at h;simp only at h;generalize d:fA l s=t at h;obtain⟨k,a,b,y⟩:=t;have c:((k:Int)==3)=decide (k=3):=ez k 3;have f:((k:Int)==4)=decide (k=4):=ez k 4;have e:((k:Int)==1)=decide (k=1):=ez k 1;by_cases A:k=3
 ·rw[π A] at c;have j:=mO (n:=s.at_) (by have:=aax (l:=l) (s:=s) (by rw[d];simp[A]);omega);simp[A] at h;subst h;simp only[go_sem,seval,gi (l:=l),lf (l:=l),d,kU,c,j,fH (l:=l),gS,results282]<;>rfl
 rw[ξ A] at c;simp[A] at h;by_cases x:k=4
 ·rw[π x] at f;have j:=mO (n:=s.at_) (by have:=aax (l:=l) (s:=s) (by rw[d];simp[x]);omega);simp[x] at h;subst h;simp only[go_sem,seval,gi (l:=l),lf (l:=l),d,kU,c,f,j,fH (l:=l),gS,results282]<;>rfl
 rw[ξ x] at f;simp[x] at h;by_cases B:k=1
 ·rw[π B] at e;simp[B] at h;subst h;generalize j:cT l s=w;obtain⟨o,s1⟩:=w
  cases o with
  |none=>simp[go_sem,gi (l:=l),lf (l:=l),d,kU,c,f,e,nr g,j,dI,dH,fH (l:=l),gS,results282]<;>rfl
  |some W=>obtain⟨w,a2⟩:=W;simp[go_sem,gi (l:=l),lf (l:=l),d,kU,c,f,e,nr g,j,dI,dH,fH (l:=l),gS,results282]<;>rfl
 rw[ξ B] at e;simp[B] at h
 cases p1:bc l s [105,110,112,117,116] with
 |true=>simp[p1] at h;subst h;simp[go_sem,gi (l:=l),lf (l:=l),d,kU,c,f,e,fa g,p1,jJ p1,fH (l:=l),gS,results282]<;>rfl
 |false=>
 simp[p1] at h
 cases p2:bc l s [40] with
 |true=>simp[p2] at h;obtain⟨q,m,h⟩:=al h;cases h;have E:=qD (o2:=.full) (q:=3) _ (cB.one q.1) ai ai;simp[go_sem,gi (l:=l),lf (l:=l),d,kU,c,f,e,fa g,p1,p2,db p1,jJ p2,lG rfl rfl T,aV,m,E,l_ g,fH (l:=l),gS,results282]<;>rfl
 |false=>
 simp[p2] at h
 cases p3:bc l s [123] with
 |true=>simp[p3] at h;obtain⟨q,m,h⟩:=al h;cases h;simp[go_sem,gi (l:=l),lf (l:=l),d,kU,c,f,e,fa g,p1,p2,p3,db p1,db p2,jJ p3];simp[cg];refine bL (EW g (te:=te) (tn:=some 71) (K:=λH=>H.get 1=some (.z [.ptr 0 0])) (i:=0) (Oe rfl rfl aA D) [125] (λH' I=>I 1 none [.ptr 0 0] aA aA rfl) m aX rfl rfl (.inl ⟨rfl,rfl⟩)) ?_;rintro _ ⟨⟨m1,L1⟩,rfl,C⟩;obtain⟨S,M⟩:=aj.1 C.p;obtain⟨L,N⟩:=aj.1 (C.k.2 1 none [.ptr 0 0] aA aA rfl);obtain⟨J,g2⟩:=aj.1 (C.k.2 2 (some 71) _ aA aA rfl);obtain⟨o,O,hg⟩:=C.n;obtain⟨R,g3⟩:=aj.1 O;have e:=aF N;have c:=aF g3;simp only[go_sem,seval,υ S,υ L,υ J,υ R,M,g2,e,aF g2,c,fH (l:=l),nQ q.1,bg,fU,sg,sn hg,results282];rfl
 |false=>
 simp[p3] at h
 cases p4:bc l s [102,110] with
 |true=>simp[p4] at h;obtain⟨q,m,h⟩:=al h;obtain⟨u,Q,h⟩:=al h;obtain⟨v,U,h⟩:=al h;cases h;have E:=qD (o2:=.full) (q:=3) _ (cB.three q.1 u.1 v.1) ai ai;simp[go_sem,gi (l:=l),lf (l:=l),d,kU,c,f,e,fa g,p1,p2,p3,p4,db p1,db p2,db p3,jJ p4,lG rfl rfl F,lG rfl rfl G,lG rfl rfl V,aV,m,Q,U,E,fH (l:=l),gS,results282]<;>rfl
 |false=>simp[p4] at h;subst h;simp[go_sem,gi (l:=l),lf (l:=l),d,kU,c,f,e,fa g,p1,p2,p3,p4,db p1,db p2,db p3,db p4,EV (l:=l),fH (l:=l),gS,results282]<;>rfl
structure TOk(l:List Tok)(n:Nat):Prop where
 kind:eU l 244 (P l n .kind)
 field:wX l 259 (P l n .field)
 typed:eU l 223 (P l n .typed)
 params:eU l 222 (P l n .params)
 param:wX l 243 (P l n .param)
 block:eU l 224 (P l n .block)
 stmt:eU l 245 (P l n .stmt)
 expr:eU l 260 (P l n .expr)
 sum:eU l 269 (P l n .sum)
 term:eU l 273 (P l n .term)
 post:eU l 276 (P l n .post)
 atom:eU l 282 (P l n .atom)
 entry:wX l 288 (P l n .entry)
def ab1(a:l.length<=4000):∀n,n<=900000->TOk l n
 |0,_=>⟨λs r h=>(by cases h),λs r h=>(by cases h),λs r h=>(by cases h),λs r h=>(by cases h),λs r h=>(by cases h),λs r h=>(by cases h),λs r h=>(by cases h),λs r h=>(by cases h),λs r h=>(by cases h),λs r h=>(by cases h),λs r h=>(by cases h),λs r h=>(by cases h),λs r h=>(by cases h)⟩
 |n+1,hn=>by have ih:=ab1 a n aa;have b:n<=900000:=aa;exact⟨ar4 a b ih.field ih.kind,amp a ih.kind,amn a ih.kind,aiP a b ih.param,amo a ih.typed,amr a b ih.stmt,ar5 a ih.typed ih.expr ih.block,ar3 a ih.sum,awA a ih.term,ar1 a ih.post,ar2 a b ih.atom ih.expr,ar6 a b ih.expr ih.entry ih.params ih.typed ih.block,amq a ih.expr⟩
def awH(b:l.length<=4000):eU l 184 (λs=>some (ny l s)):=by
 intro s r h;cases h;refine fX rfl rfl func184 rfl aA (λte=> ?_) (jI _) (iL l _);unfold ny;simp only;generalize e:cT l (cA l [117,115,101] s)=w;obtain⟨o,d⟩:=w;generalize g:cT l (cA l [46] d)=w2;obtain⟨o2,s2⟩:=w2;have j:=λx:Nd=>qD (o2:=.full) (q:=2) _ (cB.one x) ai ai;have n:∀(k f t a:Nat) (w:List UInt8),AV.agg [.i k,.i f,.i t,.str w,.i a,.vec .nil []]=aB (.mk k f t w a []):=λ_ _ _ _ _=>rfl
 cases o with
 |none=>
  have c:AV.agg [.i 23,.i ((cA l [117,115,101] s).at_:Int),.i d.at_,.str [],.i 0,.vec .nil []]=_:=n 23 (cA l [117,115,101] s).at_ d.at_ 0 []
  cases o2 with
  |none=>simp[go_sem,gi (l:=l),l_ b,nr b,e,g,dI,dH,fH (l:=l),gS,c,j,results184]<;>rfl
  |some m=>obtain⟨p,a2⟩:=m;simp[go_sem,gi (l:=l),l_ b,nr b,e,g,dI,dH,fH (l:=l),gS,c,j,results184]<;>rfl
 |some u=>
  obtain⟨v,a⟩:=u;have c:AV.agg [.i 23,.i ((cA l [117,115,101] s).at_:Int),.i d.at_,.str v,.i a,.vec .nil []]=_:=n 23 (cA l [117,115,101] s).at_ d.at_ a v
  cases o2 with
  |none=>simp[go_sem,gi (l:=l),l_ b,nr b,e,g,dI,dH,fH (l:=l),gS,c,j,results184]<;>rfl
  |some m=>obtain⟨p,a2⟩:=m;simp[go_sem,gi (l:=l),l_ b,nr b,e,g,dI,dH,fH (l:=l),gS,c,j,results184]<;>rfl
def awI(c:l.length<=4000){n}(ih:TOk l n):eU l 185 (tX l n):=by
 intro s r h;simp[tX] at h;obtain⟨q,b,h⟩:=al h;obtain⟨u,g,h⟩:=al h;obtain⟨v,f,h⟩:=al h;cases h;refine fX rfl rfl func185 rfl aA (λte=> ?_) (jI _) (iL l _);have e:=lG rfl rfl ih.params;have j:=lG rfl rfl ih.typed;have i:=lG rfl rfl ih.block;generalize d:cT l (cA l [100,101,102] s)=w at b⊢;obtain⟨o,s1⟩:=w;simp only at b⊢;have k:=qD (o2:=.full) (q:=2) _ (cB.three q.1 u.1 v.1) ai ai
 cases o with
 |none=>simp[go_sem,gi (l:=l),l_ c,nr c,d,dI,dH,e,j,i,aV,b,g,f,k,fH (l:=l),gS,results185]<;>rfl
 |some m=>obtain⟨w,a⟩:=m;simp[go_sem,gi (l:=l),l_ c,nr c,d,dI,dH,e,j,i,aV,b,g,f,k,fH (l:=l),gS,results185]<;>rfl
noncomputable def RE:=f144.c.r.r.l.b.b
def G'(i:l.length<=4000){te tn}{a0 a1 a2 a3 a4}{H0}:
  ∀n ks s r α H,n<=900000->nq l n ks s=some r->ks.length+n<=1000000->α 0=.ptr 0 0->α 2=.ptr 1 0->α 3=.ptr 2 0->pB l te tn a0 a1 a2 a3 a4 0 2 H0 ks s H->
   aD (aJ (aO ak RE) α H) λx E H'=>x=.exit 0/\E 0=.ptr 0 0/\E 2=.ptr 1 0/\E 3=.ptr 2 0/\pB l te tn a0 a1 a2 a3 a4 0 2 H0 r.1 r.2 H'
 |0,ks,s,r,α,H,O,d,T,e,b2,h,f=>by cases d
 |n+1,ks,s,r,α,H,O,d,T,e,b2,h,f=>by
  obtain⟨m,L⟩:=H;obtain⟨M,w⟩:=aj.1 f.p;have A:=aF w;have B:=υ M;have V:RE=.seq _ _:=rfl;rw[aG,V];rw[nq] at d
  cases he:s.err with
  |some x=>
   simp[he] at d;subst d;simp only[go_sem,seval,e,A,B,he,awU];refine⟨?_,?_,?_,?_,f⟩;all_goals first|trivial|assumption
  |none=>
   generalize C:fA l s=t at d;obtain⟨k,a,b,y⟩:=t;have v:((k:Int) != 0)= !decide (k=0):=rO k 0
   cases hk:decide (k=0) with
   |true=>
    rw[hk] at v;simp[he,hk] at d;subst d;simp only[go_sem,seval,e,A,B,w,he,ψ,lf (l:=l),C,kU,v,ω];refine⟨?_,?_,?_,?_,f⟩;all_goals first|trivial|assumption
   |false=>
    rw[hk] at v;simp[he,hk] at d
    have K:∀x:Nd×PS,∃g q,bt ak 183 [.ptr 2 0,.vec .full [aB x.1]] ⟨m,aH L 0 (.c te (pc l x.2))⟩=some (.tup [],⟨g,q⟩)/\pB l te tn a0 a1 a2 a3 a4 0 2 H0 (ks++[x.1]) x.2 ⟨g,q⟩:=by
     intro x;have P:Up ⟨m,L⟩ 0 (.c te (pc l x.2)) ⟨m,aH L 0 (.c te (pc l x.2))⟩:=Up.set f.p;have D:=f.up P;obtain⟨o,R,N⟩:=D.n;obtain⟨j,⟨g,q⟩,z,p1,p2,p3,p4⟩:=Jh R (by rw[cz];exact N) (qv ks) (cB.one x.1) ai (by rw[cz];simp;omega) (o2:=.full);refine⟨g,q,z,p4 0 _ _ aA D.p,⟨.own j,?_,?_⟩,aDj D.k.1 p3,λI t cs U J Q=>p4 I t cs J (D.k.2 I t cs U J Q)⟩
     ·rw[tu];exact p1
     ·simpa[cz] using p2
    cases hu:dB l s [117,115,101] with
    |true=>
     simp[hu] at d;generalize G:ny l s=u at d;obtain⟨g,q,z,F⟩:=K u;simp[go_sem,e,h,A,B,w,he,ψ,lf (l:=l),C,kU,v,Α,FB (l:=l),hu,lG rfl rfl (awH i),aV,G,z];refine G' i n _ _ r _ _ aa d aX ?_ ?_ ?_ F;all_goals simp[go_sem,e,b2,h]
    |false=>
     simp[hu] at d
     cases hd:dB l s [100,101,102] with
     |true=>
      simp[hd] at d;obtain⟨x,S,d⟩:=al d;obtain⟨g,q,z,F⟩:=K x;simp[go_sem,e,h,A,B,w,he,ψ,lf (l:=l),C,kU,v,Α,FB (l:=l),hu,hd,lG rfl rfl (awI i (ab1 i n aa)),aV,S,z];refine G' i n _ _ r _ _ aa d aX ?_ ?_ ?_ F;all_goals simp[go_sem,e,b2,h]
     |false=>
      simp[hd] at d;simp[go_sem,e,A,B,w,he,ψ,lf (l:=l),C,kU,v,Α,FB (l:=l),hu,hd,EV (l:=l)];refine G' i n _ _ r _ _ aa d aa ?_ ?_ ?_ (f.up (Up.set (x:=.c te (pc l (jL s))) f.p));all_goals simp[go_sem,e,b2,h]
def ar7(g:l.length<=4000){n}(hn:n<=90000){r}(h:u_ l n=some r):Io ak 144 [] (pc l ⟨0,none⟩) (aB r.1) (pc l r.2):=by
 simp[u_] at h;obtain⟨q,f,h⟩:=al h;cases h;refine fX (c:=.seq _ (.seq _ (.seq (.block 0 (.loop RE)) _))) rfl rfl func144 rfl aA (λte=> ?_) (jI _) (iL l _);simp[go_sem,gi (l:=l)];refine jE ?_;rw[gB];refine aT (G' g n [] ⟨0,none⟩ q _ _ aa f aX ?_ ?_ ?_ (te:=te) (tn:=some 71) (H0:=⟨3,[(2,.k 71 [.i 1,.i (0:Nat),.i 0,.str [],.i 0,.vec .nil []]),(1,.k 71 [.i 0,.i 0,.i 0,.str [],.i 0,.vec .nil []]),(0,.c te (pc l ⟨0,none⟩))]⟩) ⟨rfl,⟨.nil,rfl,.inl ⟨rfl,rfl⟩⟩,μ _,λj t cs _ _ h=>h⟩) ?_
 case refine_4=>
  rintro x ae ⟨m1,L1⟩ ⟨rfl,d0,d,e,a⟩;refine .inl ⟨.inr rfl,?_⟩;obtain⟨w,s⟩:=aj.1 a.p;obtain⟨u,b⟩:=aj.1 (a.k.2 1 (some 71) _ aA aA rfl);obtain⟨o,m,hg⟩:=a.n;obtain⟨v,g3⟩:=aj.1 m;simp only[go_sem,seval,υ w,υ u,υ v,s,b,aF b,aF g3,d0,d,e,fH (l:=l),nQ q.1,bg,fU,sg,sn hg,results144];rfl
 all_goals simp[go_sem,]
end
set_option maxRecDepth 100000
def bI:Option Nat->Int|none=> -1|some b=>(b)
def rc(l:List Tok)(e:Option Nat):List AV:=[.vec .ro (V l),.i (bI e)]
def yd(l)(e):(rc l e).map AV.bare=rc l e:=rfl
def kg(l)(e):AV.aq.go (rc l e)=true:=by show((AV.aq.go (V l))&&true)=true;rw[wW];rfl
def ar8(l)(e):(rc l e).length=2:=rfl
def AD(l)(e)(p):rc l e≠[.ptr p 0]:=by simp[rc]
def aAy(l)(e):(rc l e)[0]? =some (.vec .ro (V l)):=rfl
def aAz(l)(e):(rc l e)[1]? =some (.i (bI e)):=rfl
def ar9{a b}(h:bI a=bI b):a=b:=by
 cases a<;>cases b<;>simp only[bI] at h
 ·rfl
 ·omega
 ·omega
 ·grind
def asa(l)(a b)(h:rc l a=rc l b):a=b:=by simp[rc] at h;exact ar9 h
def asb(l)(e:Option Nat)(n:Nat):eD (rc l e) 1 [.i n]=rc l (some n):=rfl
def awJ(e:Option Nat):decide (bI e<0)=e.isNone:=by
 cases e with
 |none=>rfl
 |some b=>exact ξ (by simp only[bI];omega)
def awK(e:Option Nat):decide (bI e≥0)=e.isSome:=by
 cases e with
 |none=>rfl
 |some b=>exact π (by simp only[bI];omega)
attribute [go_sem] yd kg ar8 aAy aAz asb awJ awK
def rg(l:List Tok)(p:Option TypeId×Option Nat):Option bH:=some (.cells p.1 (rc l p.2))
def asc(l)(a b:Option TypeId×Option Nat)(h:rg l a=rg l b):a=b:=by simp[rg,bH.cells.injEq] at h;exact aFM h.1 (asa l _ _ h.2)
def onR{A:Type}(l)(te)(e)(k:Option TypeId×Option Nat->A)(d:A):ir (rg l) (some (.c te (rc l e))) k d=k (te,e):=Cq (asc l) (te,e) k d
attribute [go_sem] onR
section
variable {l:List Tok}
def asd{a}{x}{b}(h:cP l a x=some b)(e):Io ak 198 [.i a,.str x] (rc l e) (.bool b) (rc l e):=by
 refine fX rfl rfl func198 rfl (by rw[ntmps198];simp) (λte=> ?_) rfl (kg l e);unfold cP at h
 cases hx:l[a]? with
 |none=>rw[hx] at h;cases h
 |some t=>
  rw[hx] at h;obtain⟨k,p,q,y⟩:=t;simp at h;subst h;have d:=uz hx;have f:((k:Int)==2)=decide (k=2):=ez k 2;have c2:((k:Int)==5)=decide (k=5):=ez k 5;have g:jS .eql y x=some (.bool (decide (y=x))):=by simp[jS,aFm]
  by_cases c:k=2
  ·subst c;simp[go_sem,d,g,decide_true,aDG,Bool.true_and,results198]<;>rfl
  ·rw[ξ c] at f
   cases h2:decide (k=5) with
   |true=>rw[h2] at c2;simp[go_sem,d,f,c2,g,ξ c,aE6,Bool.true_and,results198]<;>rfl
   |false=>rw[h2] at c2;simp[go_sem,d,f,c2,ξ c,aE6,Bool.false_and,results198]<;>rfl
def cO(a:Nat)(x:List UInt8)(i:Nat)(H:ab):dX ak (run ak) (.fn (.func 198) [] []) [.ptr i 0,.i a,.str x] H=ir (rg l) (H.get i) (λp=>vO (cP l a x) (λb=>some (.bool b,H)) (dX ak (run ak) (.fn (.func 198) [] []) [.ptr i 0,.i a,.str x] H)) (dX ak (run ak) (.fn (.func 198) [] []) [.ptr i 0,.i a,.str x] H):=
 qW λs c=>BZ λb hb=>by
  rw[sr (first:=[]) (ar:=[.ptr i 0,.i a,.str x]) (args:=[.i a,.str x]) rfl rfl rfl rfl (AD l s.2) (yd l s.2) (kg l s.2) c (asd hb s.2),Nc c]
def uV{a}{x}{b}(h:cP l a x=some b):a<l.length:=by
 unfold cP at h
 cases hx:l[a]? with
 |none=>rw[hx] at h;cases h
 |some t=>exact(ο.1 hx).1
def aiQ(hl:l.length<=4000){x:List UInt8}{s c:RS}(h:bX l x s=some c):Io ak 230 [.i s.at_,.str x] (rc l s.bad) (.i c.at_) (rc l c.bad):=by
 refine fX rfl rfl func230 rfl (by rw[ntmps230];simp) (λte=> ?_) rfl (kg l _);obtain⟨a,e⟩:=s
 cases e with
 |some b=>simp[bX] at h;subst h;simp[go_sem,awU,aDg,results230]<;>rfl
 |none=>
  simp[bX] at h;obtain⟨b,hb,h⟩:=al h;have d:=mO (n:=a) (by have:=uV hb;omega)
  cases b with
  |true=>simp at h;subst h;simp[go_sem,ψ,Ε,cO (l:=l),aV,hb,ω,d,results230]<;>rfl
  |false=>simp at h;subst h;simp[go_sem,ψ,aDg,cO (l:=l),aV,hb,Α,results230]<;>rfl
def gC(c:l.length<=4000)(a:Nat)(x:List UInt8)(i:Nat)(H:ab):bt ak 230 [.ptr i 0,.i a,.str x] H=ir (rg l) (H.get i) (λp=>vO (bX l x ⟨a,p.2⟩) (λs=>some (.i s.at_,H.set i (.cells p.1 (rc l s.bad)))) (bt ak 230 [.ptr i 0,.i a,.str x] H)) (bt ak 230 [.ptr i 0,.i a,.str x] H):=
 qW λs b=>BZ λr d=>sr (first:=[]) (ar:=[.ptr i 0,.i a,.str x]) (args:=[.i a,.str x]) rfl rfl rfl rfl (AD l s.2) (yd l s.2) (kg l s.2) b (aiQ c d)
def rW(l:List Tok)(s:RS):Option (Option (List UInt8×Nat)×RS):=if s.bad.isNone then bn (l[s.at_]?) λt=>some (if t.1=1 then(some (t.2.2.2,s.at_),⟨s.at_+1,none⟩) else(none,⟨s.at_,some s.at_⟩)) else some (none,s)
def Ez(n)(s:RS):iF l n s=bn (rW l s) λq=>some (eY n q.1,q.2):=by
 unfold iF rW;split
 ·cases l[s.at_]? with
  |none=>rfl
  |some t=>simp[fx];split<;>rfl
 ·rfl
def aiR(hl:l.length<=4000)(k f){s:RS}{q:Option (List UInt8×Nat)×RS}(h:rW l s=some q):Io ak 229 [.agg [.i k,.i f,.i 0,.str [],.i 0,.vec .nil []],.i s.at_] (rc l s.bad) (.tup [.agg [.i k,.i f,.i 0,dI (.str []) q.1,dH (.i 0) q.1,.vec .nil []],.i q.2.at_]) (rc l q.2.bad):=by
 refine fX rfl rfl func229 rfl (by rw[ntmps229];simp) (λte=> ?_) (by cases q.1<;>rfl) (kg l _);obtain⟨a,e⟩:=s;unfold rW at h
 cases e with
 |some b=>simp at h;subst h;simp[go_sem,awU,aDg,dI,dH,results229]<;>rfl
 |none=>
  simp at h;obtain⟨t,g,h⟩:=al h;simp at h;have j:=uz g;have m:=mO (n:=a) (by have:=(ο.1 g).1;omega);have d:((t.1:Int) != 1)= !decide (t.1=1):=rO t.1 1;by_cases c:t.1=1
  ·rw[π c] at d;rw[ν c] at h;subst h;simp[go_sem,ψ,Ε,j,d,ω,m,dI,dH,results229]<;>rfl
  ·rw[ξ c] at d;rw[κ c] at h;subst h;simp[go_sem,ψ,aDg,j,d,Α,dI,dH,results229]<;>rfl
def iT(c:l.length<=4000)(k f)(a:Nat)(i:Nat)(H:ab):bt ak 229 [.ptr i 0,.agg [.i k,.i f,.i 0,.str [],.i 0,.vec .nil []],.i a] H=
  ir (rg l) (H.get i) (λp=>vO (rW l ⟨a,p.2⟩) (λq=>some (.tup [.agg [.i k,.i f,.i 0,dI (.str []) q.1,dH (.i 0) q.1,.vec .nil []],.i q.2.at_],H.set i (.cells p.1 (rc l q.2.bad))))
   (bt ak 229 [.ptr i 0,.agg [.i k,.i f,.i 0,.str [],.i 0,.vec .nil []],.i a] H)) (bt ak 229 [.ptr i 0,.agg [.i k,.i f,.i 0,.str [],.i 0,.vec .nil []],.i a] H):=
 qW λs b=>BZ λr d=>sr (first:=[]) (ar:=[.ptr i 0,.agg [.i k,.i f,.i 0,.str [],.i 0,.vec .nil []],.i a]) (args:=[.agg [.i k,.i f,.i 0,.str [],.i 0,.vec .nil []],.i a]) rfl rfl rfl rfl (AD l s.2) (yd l s.2) (kg l s.2) b (aiR c k f d)
def amt(k f t a to)(w)(o2:Ab.Own)(es)(c:AV.aq.go es=true)(hb:o2.bare=o2):aI prog (run ak) 201 [.agg [.i k,.i f,.i t,.str w,.i a,.vec .nil []],.i to,.vec o2 es]=some (.agg [.i k,.i f,.i to,.str w,.i a,.vec o2 es]):=by
 have b:AV.aq (.vec o2 es)=true:=by cases o2<;>first|(cases hb;done)|simp[AV.aq,c]
 refine tc rfl rfl func201 rfl (by rw[ntmps201];simp) (bW:=[.agg [.i k,.i f,.i t,.str w,.i a,.vec .nil []],.i to,.vec o2 es]) (by simp[sC,O5,O6,sD,Ck,O7,hb,W_]) (by simp[AV.aq,AV.aq.go] at b⊢;exact b) ?_ (by simp[sC,sD,Ck,O7,hb]) (by simp[AV.aq,AV.aq.go] at b⊢;exact b);simp[go_sem,ab.empty,results201]
def eQ(k f t a to)(w)(o2:Ab.Own)(es)(b:AV.aq.go es=true)(H):dX ak (run ak) (.fn (.func 201) [] []) [.agg [.i k,.i f,.i t,.str w,.i a,.vec .nil []],.i to,.vec o2 es] H=some (.agg [.i k,.i f,.i to,.str w,.i a,.vec o2.bare es],H):=by
 have e:aI prog (run ak) 201 [.agg [.i k,.i f,.i t,.str w,.i a,.vec .nil []],.i to,.vec o2 es]=aI prog (run ak) 201 [.agg [.i k,.i f,.i t,.str w,.i a,.vec .nil []],.i to,.vec o2.bare es]:=by simp[aI,sC,O5,O6,Nx]
 rw[sf rfl,show ak.P=prog from rfl,e,amt k f t a to w o2.bare es b (Nx o2)];rfl
def dG(l:List Tok)(f:FuncId)(one:RS->RR):Prop:=∀s r,one s=some r->Io ak f [.i s.at_] (rc l s.bad) (.tup [aB r.1,.i r.2.at_]) (rc l r.2.bad)
def kY{f}{one:RS->RR}(d:ak.cl f=false)(c:ak.io f=true)(h:dG l f one)(a:Nat)(i:Nat)(H:ab):
  bt ak f [.ptr i 0,.i a] H=ir (rg l) (H.get i) (λp=>vO (one ⟨a,p.2⟩) (λr=>some (.tup [aB r.1,.i r.2.at_],H.set i (.cells p.1 (rc l r.2.bad)))) (bt ak f [.ptr i 0,.i a] H)) (bt ak f [.ptr i 0,.i a] H):=
 qW λs b=>BZ λr e=>sr (first:=[]) (ar:=[.ptr i 0,.i a]) (args:=[.i a]) d c rfl rfl (AD l s.2) (yd l s.2) (kg l s.2) b (h ⟨a,s.2⟩ r e)
def sG(n)(a):AV.aq (.tup [aB n,.i a])=true:=by simp[AV.aq,AV.aq.go,jI]
def lX(n)(a):(AV.tup [aB n,.i a]).erase=.tup [aB n,.i a]:=by
 cases n with
 |mk k f t w b ks=>cases ks<;>rfl
def aAA(x y):iz 0 (.tup [x,y])=some x:=rfl
def aAB(x y):iz 1 (.tup [x,y])=some y:=rfl
attribute [go_sem] aAA aAB lX
def amu(hl:l.length<=4000){n:Nat}(ih:dG l 262 (R l n .kind)):dG l 248 (R l (n+1) .typed):=by
 intro s r h;refine fX rfl rfl func248 rfl (by rw[ntmps248];simp) (λte=> ?_) (sG _ _) (kg l _);obtain⟨a,e⟩:=s;simp[R,wV] at h;obtain⟨b,hb,h⟩:=al h
 cases e with
 |some c=>simp at hb;subst hb;simp at h;subst h;simp[go_sem,aDg,aZ,results248]<;>rfl
 |none=>
  simp at hb;have d:=mO (n:=a) (by have:=uV hb;omega)
  cases b with
  |true=>simp at h;simp only[go_sem,seval,Ε,cO (l:=l),aV,hb,ω,d,kY rfl rfl ih,h,results248]<;>rfl
  |false=>simp at h;subst h;simp[go_sem,Ε,cO (l:=l),aV,hb,Α,aZ,results248]<;>rfl
end
end Go.Proofs.YtmehamiifalmaaaGreatDoor
