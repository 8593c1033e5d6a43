/- LintFinds: part 4 of its proof. -/
import Derived.Test.YtmehamiifalmaaaGreatDoorG2
set_option linter.all false
namespace Go
noncomputable def Code.l:Code->Code| .seq a _=>a|_=>.skip
noncomputable def Code.r:Code->Code| .seq _ b=>b|_=>.skip
noncomputable def Code.b:Code->Code| .block _ b=>b| .loop b=>b|_=>.skip
noncomputable def Code.t:Code->Code| .cond _ b _=>b|_=>.skip
noncomputable def Code.e:Code->Code| .cond _ _ b=>b|_=>.skip
noncomputable def Code.o:Code->List Oper| .region _ o _=>o.toList|_=>[]
noncomputable def Func.c(f:Func):Code:=match f.body with|some c=>c|_=>.skip
end Go
namespace Go.Ab
open Go Go.RowKit
section
variable {P:Program} {B:Nat->Prop} {W0:World} {H H':ab} {σ aS:St} {w w':World} {n:Nat} {a:Act} {α:az} {E:Env} {call:cu} {ops:Array Oper} {ds:List Deferred}
def Ex.Jj:Ex->Exit
 | .normal=>.normal
 | .exit id=>.exit id
 | .ret=>.ret
def nk(E:Env)(n:Nat):Code->Bool
 | .region id ops e=>ops.all (λo=>match o.dst with|some d=>decide (d<n)|none=>true)&&(!e||(if E.dyn id=true then(E.any ops||Bg E ops||(List.range ops.size).any (qc E ops)) else F5 E ops 0 ops.toList))
 | .seq a b=>nk E n a&&nk E n b
 | .cond _ a b=>nk E n a&&nk E n b
 | .block _ c=>nk E n c
 | .loop c=>nk E n c
 |_=>true
def px(c a:cu):Prop:=∀f args H r,c f args H=some r->a f args H=some r
def D0(g a:az->ab->Option ef):Prop:=∀α H r,g α H=some r->a α H=some r
def D1(l b:(az->ab->Option ef)->az->ab->Option ef):Prop:=∀g a,D0 g a->D0 (l g) (b a)
def iH{α β:Type}{x}{f:α->Option β}{r:β}(h:an x f=some r):∃a,x=some a/\f a=some r:=by
 cases x with
 |none=>simp[an] at h
 |some a=>exact⟨a,rfl,h⟩
def U1{P}{c b:cu}(h:px c b){f}{args}{v}(a:aK P c f args=some v):aK P b f args=some v:=by
 unfold aK at*
 split at a
 ·rename_i d;rw[μ d]
  cases hc:c f (args.map AV.erase) .empty with
  |none=>simp[hc] at a
  |some p=>rw[h _ _ _ _ hc];simpa[hc] using a
 ·cases a
def agl{c b:cu}(h:px c b){f}{args}{te}{cs}{r}(a:oG c f args te cs=some r):oG b f args te cs=some r:=by
 unfold oG at*
 cases hc:c f args {next:=1,jo:=[(0,.cells te cs)]} with
 |none=>simp[hc] at a
 |some p=>rw[h _ _ _ _ hc];simpa[hc] using a
def afw{c b:cu}(h:px c b){f}{args}{tb te}{cs}{r}(a:oC c f args tb te cs=some r):oC b f args tb te cs=some r:=by
 unfold oC at*
 cases hc:c f args {next:=2,jo:=[(1,.cells tb [.ptr 0 0]),(0,.cells te cs)]} with
 |none=>simp[hc] at a
 |some p=>rw[h _ _ _ _ hc];simpa[hc] using a
def NB{c}{f}{args as:List AV}{H:ab}{id}{te}{cs:List AV}{x}(g:gH 0 (args.map AV.erase)=some (id,as))(a:(gH 1 (args.map AV.erase)).isSome=true)
  (d:H.get id=some (.cells te cs)) (hb:∀b,cs≠[.ptr b 0]) (h3:AV.aq.go (cs.map AV.bare)=true) (e:oG c f as te (cs.map AV.bare)=some x):yJ c f args H=some (x.1,H.set id (.cells x.2.1 x.2.2)):=by
 obtain⟨⟨gD,Gt⟩,a⟩:=Option.isSome_iff_exists.1 a;unfold yJ;rw[g,a];simp only[d];rw[μ h3,e];rfl
def M8{c}{f}{args as:List AV}{H:ab}{id a}{tb te}{cs:List AV}{x}(i:(gH 0 (args.map AV.erase)).map (·.1)=some id)(h:gH 1 (args.map AV.erase)=some (id,as))
  (e:H.get id=some (.cells tb [.ptr a 0])) (h3:H.get a=some (.cells te cs)) (d:a≠id) (g:AV.aq.go (cs.map AV.bare)=true) (h5:oC c f as tb te (cs.map AV.bare)=some x):
  yJ c f args H=some (x.1,(H.set a (.cells x.2.2.1 x.2.2.2)).set id (.cells x.2.1 [.ptr a 0])):=by
 obtain⟨⟨gD,as0⟩,b,rfl⟩:=aEj.1 i;unfold yJ;rw[b,h];simp only[e,h3];rw[μ ⟨d,g⟩,h5];rfl
def afx{io}{c g:cu}(h:px c g):px (sV io c) (sV io g):=by
 intro f args H r d
 unfold sV at*
 split at d
 ·rename_i hf;rw[μ hf];rcases M6 d with⟨id,as,te,cs,x,e,j,a,hb,h3,b,rfl⟩|⟨id,pid,as,tb,te,cs,x,k,e,a,h3,b,h5,i,rfl⟩
  ·exact NB e j a hb h3 (agl h b)
  ·exact M8 k e a h3 b h5 (afw h i)
 ·rename_i hf;rw[κ hf];exact h _ _ _ _ d
def tV{c e:cu}(h:px c e){op}{ρ}{r}(a:bh E c op ρ H=some r):bh E e op ρ H=some r:=by
 cases op<;>simp[bh] at a⊢<;>(try exact a)
 case call cl=>
  unfold tX at*
  cases hf:cl.callee with
  |value f=>
   simp[hf] at a⊢
   unfold dD at*
   cases ht:target (ρ f) with
   |none=>simp[ht] at a
   |some p=>
    obtain⟨g,first,cap⟩:=p
    simp[ht] at a⊢;by_cases d:E.cl g=true
    ·rw[μ d] at a⊢;obtain⟨v,j,i⟩:=iH a;simp only[U1 h j,an];exact i
    ·rw[κ d] at a⊢;exact afx h _ _ _ _ a
  |builtin b=>simp[hf] at a⊢;cases b<;>exact a
  |invoke q m=>simp[hf] at a⊢;exact a
def U2{Q b}(h:∀α H,Q α H->b α H):∀fuel listed α H,uj E call ops Q fuel listed α H->uj E call ops b fuel listed α H
 |0,_,_,_,a=>⟨a.1,h _ _ a.2⟩
 |fuel+1,_,_,_,a=>⟨λe=>h _ _ (a.1 e),λi hi=>Vt (U2 h fuel _) (a.2 i hi)⟩
def V_:∀a b,CJ a b=true->a=b
 |[],b,h=>by cases b with|nil=>rfl|cons=>simp[CJ] at h
 |(x,y,n)::r,b,h=>by
  cases b with
  |nil=>simp[CJ] at h
  |cons z l=>simp[CJ] at h;rw[Cb _ _ h.1.1.1,Cb _ _ h.1.1.2,h.1.2,V_ r l h.2]
def agm:∀a b,wJ a b=true->a=b
 | .cells t cs,b,h=>by cases b<;>simp[wJ] at h;rw[h.1,wH _ _ h.2]
 | .bQ n t,b,h=>by cases b<;>simp[wJ] at h;rw[h.1,h.2]
 | .row n t s cs,b,h=>by cases b<;>simp[wJ] at h;rw[h.1.1.1,h.1.1.2,h.1.2,wH _ _ h.2]
 | .map es c,b,h=>by cases b<;>simp[wJ] at h;rw[V_ _ _ h.1,h.2]
def V':∀a b,yK a b=true->a=b
 |[],b,h=>by cases b with|nil=>rfl|cons=>simp[yK] at h
 |(i,x)::r,b,h=>by
  cases b with
  |nil=>simp[yK] at h
  |cons y l=>simp[yK] at h;rw[h.1.1,agm _ _ h.1.2,V' r l h.2]
def aaZ(call:cu):∀f args H r,mf f args H=some r->call f args H=some r:=λf args H r h=>by simp[mf] at h
def YT{α}{dst}{d}(h:dst≠some d)(v):Ab.put α dst v d=α d:=by
 cases dst with
 |none=>rfl
 |some e=>exact κ λa=>h (by rw[a])
def EG{qh}{dQ:az}:∀fuel listed α H,ph E ops qh fuel listed α H=true->(∀d,(∀o∈ops.toList,o.dst≠some d)->α d=dQ d)->
  uj E call ops (λj H2=>qh j H2=true/\∀d,(∀o∈ops.toList,o.dst≠some d)->j d=dQ d) fuel listed α H
 |0,listed,α,H,h,e=>by simp[ph,aGs] at h;exact⟨h.1,h.2,e⟩
 |fuel+1,listed,α,H,h,e=>by
  have cj:∀(i:Nat) (o:Oper) (v:AV),ops[i]? =some o->∀d,(∀o∈ops.toList,o.dst≠some d)->put α o.dst v d=dQ d:=by intro i o v a d g;have l:o.dst≠some d:=g o (by simpa using aFf a);rw[<-e d g];exact YT l v
  simp[ph] at h;split at h
  ·rename_i i hi;have k:=aE2 hi;have hf:=List.find?_some hi;split at h
   ·rename_i o a;split at h
    ·rename_i c;split at h
     ·rename_i v H' f;exact Hz a fuel listed α H H' (HF a hf) k (.inl ⟨c,tV (aaZ call) f⟩) (EG fuel _ _ _ h (cj i o v a))
     ·cases h
    ·rename_i c;exact Hz a fuel listed α H H (HF a hf) k (.inr ⟨c,rfl,rfl⟩) (EG fuel _ _ _ h (cj i o gz a))
    ·cases h
   ·cases h
  simp[aEi] at h;refine⟨λm=>⟨?_,e⟩,λi hi=> ?_⟩
  ·have:=h.1;simpa[m] using this
  have b:=h.2 i hi;unfold mg;split at b
  ·rename_i o a;simp only[a];split at b
   ·rename_i c;simp only[c];split at b
    ·rename_i v H' f;exact⟨v,H',tV (aaZ call) f,EG fuel _ _ _ b (cj i o v a)⟩
    ·cases b
   ·rename_i c;simp only[c];exact EG fuel _ _ _ b (cj i o gz a)
   ·cases b
  ·cases b
def OS(c){all}:∀l α H r,gv E c all l α H=some r->∀d,(∀o∈l,o.dst≠some d)->r.1 d=α d
 |[],α,H,r,h,d,a=>by simp[gv] at h;rw[<-h]
 |o::l,α,H,r,h,d,a=>by
  simp[gv] at h;have g:o.dst≠some d:=a o (Ρ ..);have off:∀v,put α o.dst v d=α d:=YT g;have e:∀o∈l,o.dst≠some d:=λo f=>a o (Κ _ f)
  cases hw:iI all o.guard α with
  |none=>simp[hw,an] at h
  |some b=>
   simp[hw,an] at h
   cases b with
   |true=>
    simp[c_] at h
    cases hs:bh E c o.op (ev α) H with
    |none=>simp[hs] at h
    |some p=>simp[hs] at h;rw[OS c l _ _ _ h d e,off]
   |false=>simp[c_] at h;rw[OS c l _ _ _ h d e,off]
def aiv{g:az}(h:yp E ops α H=some (g,H')):uj E call ops (λe H2=>e=g/\H2=H') ops.size (Array.replicate ops.size false) α H:=by
 unfold yp at h;split at h
 ·rename_i r m;unfold c_ at h;split at h
  ·rename_i hb;cases h;refine U2 (λe H2 k=> ?_) _ _ _ _ (EG (dQ:=α) ops.size _ α H hb λ_ _=>rfl);obtain⟨a,n⟩:=k;simp only[Cw,Ω,aEi,aEn] at a;refine⟨funext λd=> ?_,?_⟩
   ·by_cases b:∀o∈ops.toList,o.dst≠some d
    ·rw[n d b];exact((OS mf ops.toList α H _ m) d b).symm
    ·have⟨o,j⟩:=Classical.not_forall.1 b;have⟨c,l⟩:=Classical.not_imp.1 j;have:=a.1.1 o c;rw[Classical.not_not.1 l] at this;exact Cb _ _ this
   ·have i:=a.1.2;have f:=V' _ _ a.2;cases H2;cases H';simp only at i f;rw[i,f]
  ·cases h
 ·cases h
def ae6(v:dK E.P call)(hm:E.P.follows .mixedOrders=true){id}{b}{m}{Q}(r:nk E n (.region id ops b)=true)(q:aY E.P B W0 H σ w)(p:js σ n ds a α)
  (h:c_ (b&&E.dyn id) (c_ (E.any ops) (yp E ops α H) (eY E call ops 0 ops.toList [] [] α H)) (gv E call ops ops.toList α H)=some (m,H')) (l:∀a' w',vJ E.P B W0 σ n ds m H' a' w'->Q .normal a' w'):(Code.region id ops b).wp E.P Q a w:=by
 simp only[nk,Ω] at r;have f:∀o∈ops.toList,∀d,o.dst=some d->d<n:=by intro o c d G;have:=aEV.1 r.1 o (by simpa using c);simpa[G] using this
 cases b with
 |false=>simp[c_] at h;exact wp_region_list (NA v ops.toList α H σ a w h q p f l)
 |true=>
  by_cases A:E.dyn id=true
  ·refine wp_region_any hm ?_;simp[A,c_] at h;by_cases C:E.any ops=true
   ·rw[μ C] at h;refine HM v (λi o c=>f o (by simpa using aFf c)) _ _ α H σ a _ (aiv (call:=call) h) q.drew p ?_;rintro e H2 a2 u j s g t ⟨rfl,rfl⟩;exact l a2 u ⟨j,s,g,t⟩
   rw[κ C] at h
   have z:Bg E ops=true\/∃i0,qc E ops i0=true:=by
    have:=r.2;simp[A,Bool.eq_false_iff.2 C,List.any_eq_true] at this;rcases this with h|⟨i,_,h⟩
    ·exact .inl h
    ·exact .inr ⟨i,h⟩
   rcases z with k|⟨i0,k⟩
   rotate_left
   ·exact aiu v k (λi o c=>f o (by simpa using aFf c)) h q.drew p λI a' w' F D h3=>l a' w' ⟨I,F,D,h3⟩
   have x:=alK (call:=call) (ops:=ops) (Q:=λe H2=>e=m/\H2=H') k h ⟨rfl,rfl⟩;refine HM v (λi o c=>f o (by simpa using aFf c)) _ _ α H σ a _ x q.drew p ?_;rintro e H2 a2 u j s g t ⟨rfl,rfl⟩;exact l a2 u ⟨j,s,g,t⟩
  ·refine wp_region_any hm ?_;have y:E.dyn id=false:=by simpa using A
   simp[y,c_] at h r;have k:ID E ops=true:=aeO (by simpa using r.2);have x:=M7 (call:=call) (ops:=ops) (Q:=λe H2=>e=m/\H2=H') ops.toList 0 (Array.replicate ops.size false) α H m H' ah (by simpa[ID] using k) h ⟨rfl,rfl⟩;rw[aEx] at x;refine HM v (λi o c=>f o (by simpa using aFf c)) _ _ α H σ a _ x q.drew p ?_;rintro e H2 a2 u j s g t ⟨rfl,rfl⟩;exact l a2 u ⟨j,s,g,t⟩
def CK(loop:(az->ab->Option ef)->az->ab->Option ef):Prop:=∀g α H r,loop g α H=some r->∃k,gZ g k α H=some r
def U3{c:Code}{Q d}(h:∀e a w,Q e a w->d e a w):∀k a w,Code.rounds P c Q k a w->Code.rounds P c d k a w
 |0,_,_,b=>b
 |k+1,a,w,b=>by
  rw[aFd] at b⊢;refine aGv b ?_;intro e a' w' f
  cases e with
  |normal=>exact U3 h k a' w' f
  |_=>exact h _ _ _ f
def vf(z:dK E.P call)(hm:E.P.follows .mixedOrders=true){loop:(az->ab->Option ef)->az->ab->Option ef}(s:CK loop):∀c α H σ a w ex g H',
  nk E n c=true->aN E call loop c α H=some (ex,g,H')->aY E.P B W0 H σ w->js σ n ds a α->
  c.wp E.P (λe a' w'=>e=ex.Jj/\vJ E.P B W0 σ n ds g H' a' w') a w
 | .skip,α,H,σ,a,w,ex,g,H',_,h,d,b=>by simp[aN] at h;obtain⟨rfl,rfl,rfl⟩:=h;exact wp_skip ⟨rfl,σ,Ext.refl _ _,d,b⟩
 | .region id ops C,α,H,σ,a,w,ex,g,H',f,h,d,b=>by
  simp[aN] at h
  cases he:c_ (C&&E.dyn id) (c_ (E.any ops) (yp E ops α H) (eY E call ops 0 ops.toList [] [] α H)) (gv E call ops ops.toList α H) with
  |none=>simp[he,an] at h
  |some p=>obtain⟨o,H1⟩:=p;simp[he,an] at h;obtain⟨rfl,rfl,rfl⟩:=h;exact ae6 z hm f d b he λa' w' l=>⟨rfl,l⟩
 | .seq x y,α,H,σ,a,w,ex,g,H',f,h,d,b=>by
  simp[nk] at f;simp[aN] at h
  cases hx:aN E call loop x α H with
  |none=>simp[hx,an] at h
  |some r=>
   obtain⟨m,o,H1⟩:=r;simp[hx,an] at h;have ih:=vf z hm s x α H σ a w m o H1 f.1 hx d b;refine wp_seq (aGv ih ?_);rintro e a1 w1 ⟨rfl,A,q,u,t⟩
   cases m with
   |normal=>simp[andThen] at h;refine aGv (vf z hm s y o H1 A a1 w1 ex g H' f.2 h u t) ?_;rintro e a2 I ⟨rfl,l⟩;exact⟨rfl,l.trans q⟩
   |exit id=>simp[andThen] at h;obtain⟨rfl,rfl,rfl⟩:=h;exact⟨rfl,A,q,u,t⟩
   |ret=>simp[andThen] at h;obtain⟨rfl,rfl,rfl⟩:=h;exact⟨rfl,A,q,u,t⟩
 | .cond c x y,α,H,σ,a,w,ex,g,H',f,h,d,b=>by
  simp[nk] at f;simp[aN,C9] at h;split at h
  ·rename_i v G;have D:=b.eval c;rw[G] at D;simp[aj] at D;refine wp_cond D ?_
   cases v with
   |true=>exact vf z hm s x α H σ a w ex g H' f.1 (by simpa[c_] using h) d b
   |false=>exact vf z hm s y α H σ a w ex g H' f.2 (by simpa[c_] using h) d b
  ·cases h
 | .block id c,α,H,σ,a,w,ex,g,H',f,h,d,b=>by
  simp[nk] at f;simp[aN] at h
  cases hx:aN E call loop c α H with
  |none=>simp[hx,an] at h
  |some r=>
   obtain⟨m,o,H1⟩:=r;simp[hx,an] at h;refine wp_block (aGv (vf z hm s c α H σ a w m o H1 f hx d b) ?_);rintro e a1 w1 ⟨rfl,l⟩
   cases m with
   |normal=>simp[t_] at h;obtain⟨rfl,rfl,rfl⟩:=h;exact⟨rfl,l⟩
   |exit j=>
    simp[t_] at h;simp[Ex.Jj,Exit.inBlock];by_cases F:j=id
    ·rw[μ F] at h⊢;simp at h;obtain⟨rfl,rfl,rfl⟩:=h;exact⟨rfl,l⟩
    ·rw[κ F] at h⊢;simp at h;obtain⟨rfl,rfl,rfl⟩:=h;exact⟨rfl,l⟩
   |ret=>simp[t_] at h;obtain⟨rfl,rfl,rfl⟩:=h;exact⟨rfl,l⟩
 | .loop c,α,H,σ,a,w,ex,g,H',f,h,d,b=>by
  simp[nk] at f;simp[aN] at h;obtain⟨k,i⟩:=s _ _ _ _ h;refine aFV k ?_;clear h
  induction k generalizing α H σ a w with
  |zero=>simp[gZ] at i
  |succ k ih=>
   simp[gZ] at i;rw[aFd]
   cases hx:aN E call loop c α H with
   |none=>simp[hx,an] at i
   |some r=>
    obtain⟨m,o,H1⟩:=r;simp[hx,an] at i;refine aGv (vf z hm s c α H σ a w m o H1 f hx d b) ?_;rintro e a1 w1 ⟨rfl,A,q,u,t⟩
    cases m with
    |normal=>simp[andThen] at i;have:=ih o H1 A a1 w1 u t i;simp[Ex.Jj,Exit.then];refine U3 ?_ k a1 w1 this;rintro e a2 I ⟨rfl,l⟩;exact⟨rfl,l.trans q⟩
    |exit id=>simp[andThen] at i;obtain⟨rfl,rfl,rfl⟩:=i;exact⟨rfl,A,q,u,t⟩
    |ret=>simp[andThen] at i;obtain⟨rfl,rfl,rfl⟩:=i;exact⟨rfl,A,q,u,t⟩
 | .exit id,α,H,σ,a,w,ex,g,H',_,h,d,b=>by simp[aN] at h;obtain⟨rfl,rfl,rfl⟩:=h;exact wp_exit ⟨rfl,σ,Ext.refl _ _,d,b⟩
 | .ret,α,H,σ,a,w,ex,g,H',_,h,d,b=>by simp[aN] at h;obtain⟨rfl,rfl,rfl⟩:=h;exact wp_ret ⟨rfl,σ,Ext.refl _ _,d,b⟩
 | .rangeFunc _ _ _ _,_,_,_,_,_,_,_,_,_,h,_,_=>by simp[aN] at h
 | .scope _,_,_,_,_,_,_,_,_,_,h,_,_=>by simp[aN] at h
 | .label _,_,_,_,_,_,_,_,_,_,h,_,_=>by simp[aN] at h
 | .goto _,_,_,_,_,_,_,_,_,_,h,_,_=>by simp[aN] at h
 | .refuse _,_,_,_,_,_,_,_,_,_,h,_,_=>by simp[aN] at h
def agn{c}{o d:Oper}(h:A1 c=some (o,d)):∃id ops t f first cap cl,c=.region id ops false/\ops.toList=[o,d]/\o.op=.makeFunc f first cap/\o.dst=some t/\o.guard=none/\d.op=.defer cl/\d.guard=none/\d.dst=none/\cl.callee=.value (.tmp t)/\cl.args.toList=[]:=by
 unfold A1 at h;split at h
 ·rename_i id ops draw;split at h
  ·rename_i o1 d1 i;split at h
   ·rename_i f first cap t cl e m g k b j
    split at h
    ·rename_i t' a;split at h
     ·rename_i l;obtain⟨rfl,n⟩:=l;cases h;exact⟨id,ops,t,f,first,cap,cl,rfl,i,e,m,g,k,b,j,a,by simpa using n⟩
     ·cases h
    ·cases h
   ·cases h
  ·cases h
 ·cases h
def Jk(P:Program)(σ:St)(d:Deferred)(v:AV):Prop:=∃u,aj σ v u/\∀w,(Deferred.ofValue u #[]).run P w=.ok d w
def Jk.mono{aS}{d:Deferred}{v}(a:σ.le aS)(h:Jk P σ d v):Jk P aS d v:=by obtain⟨u,r,e⟩:=h;exact⟨u,r.mono a,e⟩
def ahm(G:dK E.P call)(hm:E.P.follows .mixedOrders=true){loop:(az->ab->Option ef)->az->ab->Option ef}(O:CK loop):∀c α H σ a w ex g H' v,
  nk E n c=true->ik E call loop c α H=some ((ex,g,H'),v)->aY E.P B W0 H σ w->js σ n [] a α->
  c.wp E.P (λe a' w'=>e=ex.Jj/\∃aS d,Ext B σ aS/\aY E.P B W0 H' aS w'/\js aS n [d] a' g/\Jk E.P aS d v) a w:=by
 intro c
 induction c with
 |seq x y _ C=>
  intro α H σ a w ex g H' v i h Q p;simp[nk] at i;simp[ik] at h;split at h
  ·rename_i o J W;obtain⟨id,ops,t,f,first,cap,cl,rfl,K,e1,N,e3,R,U,e6,X,e8⟩:=agn W
   cases cw:bh E call o.op (ev α) H with
   |none=>simp[cw,an] at h
   |some r=>
    obtain⟨F,H1⟩:=r;simp[cw,an] at h
    cases hx:aN E call loop y (put α o.dst F) H1 with
    |none=>simp[hx] at h
    |some q=>
     simp[hx] at h;obtain⟨rfl,rfl⟩:=h;have S:∀o∈ops.toList,∀d,o.dst=some d->d<n:=by intro o ho d lU;have:=i.1;simp only[nk,Ω] at this;have:=aEV.1 this.1 o (by simpa using ho);simpa[lU] using this
     refine wp_seq (wp_region_list ?_);rw[K];have w1:Region.wanted o (yielded ops a.tmps)=true:=by simp[Region.wanted,e3]
     simp only[wpList,w1,aEl];refine .inl (B0 (Er Q G o (ev α) a.eval (λx _=>p.eval x) cw) ?_);rintro u w' ⟨s,l,Y,m⟩;have j:=(p.mono l.le).put (S o (by rw[K];simp)) m;have L:Region.wanted J (yielded ops (a.put o.dst u).tmps)=true:=by simp[Region.wanted,U]
     simp only[L,aEl]
     have z:(a.put o.dst u).eval (.tmp t)=u:=by
      have D:t<n:=S o (by rw[K];simp) t N;have:t<a.tmps.size:=by rw[p.size];exact D
      simp[Act.eval,Act.put,N,this]
     obtain⟨us,b,hu⟩:∃us b:List Value,u=.func f us.toArray b.toArray:=by
      have:F=.fn f (first.toList.map (ev α)) (cap.toList.map (ev α)):=by rw[e1] at cw;simp only[bh,lq,an,Ζ,aES] at cw;exact cw.1.symm
      subst this;simp only[aj] at m;obtain⟨us,b,e,_⟩:=m;exact⟨us,b,e⟩
     subst hu
     have Z:(execOp (a.put o.dst (.func f us.toArray b.toArray)).eval J).run E.P w'=.ok (.defer {target:=.fn f b.toArray,args:=us.toArray++#[]}) w':=by
      obtain⟨dst,op,ty,pos,after,guard⟩:=J;simp only at R;subst R;have ha:cl.args.map (a.put o.dst (.func f us.toArray b.toArray)).eval=#[]:=by apply aF9;simp[e8]
      simp only[execOp,resolve,X,ha,z,Deferred.ofValue,Φ,as1,Ε]
     refine .inl ?_;unfold Oper.wp;rw[Z,Oper.upon_defer];simp only[e6,Act.put,Exit.then]
     have bO:js s n [{target:=.fn f b.toArray,args:=us.toArray++#[]}] {(a.put o.dst (.func f us.toArray b.toArray)) with defers:={target:=.fn f b.toArray,args:=us.toArray++#[]}::(a.put o.dst (.func f us.toArray b.toArray)).defers} (put α o.dst F):=
      ⟨j.size,j.oQ,by rw[j.defers]⟩
     refine aGv (vf (ds:=[{target:=.fn f b.toArray,args:=us.toArray++#[]}]) G hm O y _ H1 s _ w' ex g H' i.2 hx Y bO) ?_;rintro e a2 L ⟨rfl,A,k,M,I⟩;refine⟨rfl,A,_,l.trans k,M,I,_,m.mono k.le,λw=> ?_⟩;simp[Deferred.ofValue]
  ·cases hx:aN E call loop x α H with
   |none=>simp[hx,an] at h
   |some r=>
    obtain⟨V,T,H1⟩:=r;simp[hx,an] at h
    cases V with
    |normal=>simp only at h;refine wp_seq (aGv (vf G hm O x α H σ a w .normal T H1 i.1 hx Q p) ?_);rintro e a1 w1 ⟨rfl,s,l,cM,j⟩;refine aGv (C T H1 s a1 w1 ex g H' v i.2 h cM j) ?_;rintro e a2 L ⟨rfl,A,d,k,M,I,q4⟩;exact⟨rfl,A,d,l.trans k,M,I,q4⟩
    |exit id=>simp at h
    |ret=>simp at h
 |_=>intro α H σ a w ex g H' v i h;simp[ik] at h
end
section
variable {P:Program} {B:Nat->Prop} {W0:World} {H H':ab} {σ aS:St} {w w':World} {n:Nat} {a:Act} {α:az} {E:Env} {call:cu} {ds:List Deferred}
def JY(a:Act):ResultVar->Sem Value
 | .tmp t=>pure (a.tmps.getD t undef)
 | .cell x t=>do loadVar t (<-asAddr (a.tmps.getD x undef))
def M9(fn:Func)(a:Act):results fn a.tmps=(do let b <-fn.results.mapM (JY a);pure (if h:b.size=1 then b[0] else .tuple b)):=by unfold results;congr 1
def Et(m:aY P B W0 H σ w)(g:js σ n ds a α):∀c f,kL P α H c=some f->
  ∃us:List Value,(c.mapM (JY a):Sem (List Value)).run P w=.ok us w/\au σ f us
 |[],f,h=>by simp[kL] at h;subst h;exact⟨[],ah,by simp[au]⟩
 | .tmp t::c,f,h=>by
  simp[kL] at h
  cases hv:kL P α H c with
  |none=>simp[hv,an] at h
  |some l=>simp[hv,an] at h;subst h;obtain⟨us,k,j⟩:=Et m g c l hv;refine⟨a.tmps.getD t undef::us,?_,au.eC.2 ⟨_,_,rfl,g.oQ t,j⟩⟩;simp[List.mapM_cons,JY,Φ,as1,Ε,k]
 | .cell x t::c,f,h=>by
  simp[kL] at h;have o:=g.oQ x
  cases hp:α x with
  |ptr id off=>
   simp[hp] at h o
   cases hl:qK P H t (.ptr id off) with
   |none=>simp[hl,an] at h
   |some v=>
    simp[hl,an] at h
    cases hv:kL P α H c with
    |none=>simp[hv] at h
    |some l=>
     simp[hv] at h;subst h;obtain⟨us,k,j⟩:=Et m g c l hv;obtain⟨u,d,q⟩:=V2 m o hl;have p:=o;simp[aj] at p;obtain⟨b,hb,e⟩:=p;rw[e] at d
     have i:(loadVar t ⟨b,off,none⟩).run P w=.ok u w:=by
      simp[Instr.loadAt,Instr.sureAddr,Φ,as1,Ε] at d
      cases D2:(loadVar t ⟨b,off,none⟩).run P w with
      |ok u' w'=>rw[D2] at d;simp[Ε,Result.ok.injEq,Next.value.injEq] at d;obtain⟨rfl,rfl⟩:=d;rfl
      |halt x' w'=>rw[D2] at d;simp at d
     refine⟨u::us,?_,au.eC.2 ⟨_,_,rfl,q,j⟩⟩;simp[List.mapM_cons,JY,Φ,as1,Ε,e,asAddr,i,k]
  |_=>simp[hp,an] at h
def M_{a}{us:List Value}(h:au σ a us):aj σ (qG a) (if h:us.toArray.size=1 then us.toArray[0] else .tuple us.toArray):=by
 cases a with
 |nil=>rw[au.pR] at h;subst h;simp[qG,aj,au]
 |cons v a=>
  cases a with
  |nil=>rw[au.eC] at h;obtain⟨u,eG,rfl,r,q⟩:=h;rw[au.pR] at q;subst q;simpa[qG] using r
  |cons v2 a=>have b:=h.length;rw[dif_neg (by simp;simp at b;omega)];simp only[qG,aj];exact⟨us,rfl,h⟩
structure ir(E:Env):Prop where
 mixed:E.P.follows .mixedOrders=true
 kW:∀f,E.G f=true->∃fn c,E.P.funcs[f]? =some fn/\fn.body=some c/\(fn.name== "runtime.NumGoroutine")=false/\nk E fn.ntmps c=true
 ext:dK E.P E.ext
def N7{args:List AV}{us:List Value}(h:au σ args us)(hn:args.length<=n):js σ n [] {tmps:=us.toArray++Array.replicate (n-us.toArray.size) undef,defers:=[]} (jq args):=by
 have hl:=h.length;refine⟨aP,λi=> ?_,rfl⟩;simp only[jq];by_cases hi:i<args.length
 ·have b:args[i]? =some args[i]:=Ν hi;obtain⟨u,d,c⟩:=h.get b;rw[b];have:(us.toArray++Array.replicate (n-us.toArray.size) undef)[i]? =some u:=by rw[aEZ aP];simpa using d
  simp only[aFT,this];simpa using c
 ·rw[aEh aa]
  have:((us.toArray++Array.replicate (n-us.toArray.size) undef)[i]?).getD undef=undef:=by
   rw[Array.getElem?_append_right aP]
   cases hq:(Array.replicate (n-us.toArray.size) undef)[i-us.toArray.size]? with
   |none=>rfl
   |some q=>have:=Α.1 hq;obtain⟨h1,a⟩:=this;simp at a;simp[<-a]
  simp only[aFT,this];exact Ez
def afy(p:ir E){f}(z:E.G f=true)(D:dK E.P call){loop:(az->ab->Option ef)->az->ab->Option ef}(t:CK loop){args}{v}
  (h:tg E call loop f args H=some (v,H')):kM E.P f/\Jh E.P f args H v H':=by
 obtain⟨fn,c,i,g,h3,q⟩:=p.kW f z;refine⟨⟨fn,i,h3,by simp[g]⟩,?_⟩;simp only[tg,i,g] at h;split at h
 ·rename_i A;intro B W0 σ w us y x
  cases hx:aN E call loop c (jq args) H with
  |none=>simp[hx,an] at h
  |some r=>
   obtain⟨ex,d,H1⟩:=r;simp[hx,an] at h;refine calls_of_wp i g (aGv (vf D p.mixed t c (jq args) H σ _ w ex d H1 q hx y (N7 x A)) ?_);rintro e a1 w1 ⟨rfl,n,o,m,k⟩;have fin:∀{b:List AV},kL E.P d H1 fn.results.toList=some b->∃u,(results fn a1.tmps).run E.P w1=.ok u w1/\aj n (qG b) u:=by intro b a;obtain⟨S3,C,s⟩:=Et m k _ _ a;refine⟨_,?_,M_ s⟩;rw[M9];simp[aF1,Φ,Sem.run_map,C,Ε,as1]
   cases ex with
   |exit id=>simp[finish] at h
   |normal=>
    simp[finish] at h
    cases a:kL E.P d H1 fn.results.toList with
    |none=>simp[a,an] at h
    |some b=>simp[a,an] at h;obtain⟨rfl,rfl⟩:=h;obtain⟨u,j,l⟩:=fin a;exact⟨k.defers,u,j,u,rfl,n,o,m,l⟩
   |ret=>
    simp[finish] at h
    cases a:kL E.P d H1 fn.results.toList with
    |none=>simp[a,an] at h
    |some b=>simp[a,an] at h;obtain⟨rfl,rfl⟩:=h;obtain⟨u,j,l⟩:=fin a;exact⟨k.defers,u,j,u,rfl,n,o,m,l⟩
 ·cases h
def OT(P:Program)(f:FuncId)(args:List AV)(H:ab)(v:AV)(H':ab):Prop:=
 ∀B W0 σ w us,aY P B W0 H σ w->au σ args us->CallsD P f us.toArray .returning w (λe a w'=>a=.returning/\∃u,e=.returned u/\kF P B W0 σ v H' u w')
def ae7(p:ir E){f}(z:E.G f=true)(D:dK E.P call){loop:(az->ab->Option ef)->az->ab->Option ef}(t:CK loop){args}{v}
  (h:tg E call loop f args H=some (v,H')):kM E.P f/\OT E.P f args H v H':=by
 obtain⟨fn,c,i,g,h3,q⟩:=p.kW f z;refine⟨⟨fn,i,h3,by simp[g]⟩,?_⟩;simp only[tg,i,g] at h;split at h
 ·rename_i A;intro B W0 σ w us y x
  cases hx:aN E call loop c (jq args) H with
  |none=>simp[hx,an] at h
  |some r=>
   obtain⟨ex,d,H1⟩:=r;simp[hx,an] at h;refine callsD_of_wp (R:=λe w'=>∃u,e=.returned u/\kF E.P B W0 σ v H' u w') i g (aGv (vf D p.mixed t c (jq args) H σ _ w ex d H1 q hx y (N7 x A)) ?_);rintro e a1 w1 ⟨rfl,n,o,m,k⟩;have fin:∀{b:List AV},kL E.P d H1 fn.results.toList=some b->∃u,(results fn a1.tmps).run E.P w1=.ok u w1/\aj n (qG b) u:=by intro b a;obtain⟨S3,C,s⟩:=Et m k _ _ a;refine⟨_,?_,M_ s⟩;rw[M9];simp[aF1,Φ,Sem.run_map,C,Ε,as1]
   cases ex with
   |exit id=>simp[finish] at h
   |normal=>
    simp[finish] at h
    cases a:kL E.P d H1 fn.results.toList with
    |none=>simp[a,an] at h
    |some b=>simp[a,an] at h;obtain⟨rfl,rfl⟩:=h;obtain⟨u,j,l⟩:=fin a;exact⟨k.defers,u,j,u,rfl,n,o,m,l⟩
   |ret=>
    simp[finish] at h
    cases a:kL E.P d H1 fn.results.toList with
    |none=>simp[a,an] at h
    |some b=>simp[a,an] at h;obtain⟨rfl,rfl⟩:=h;obtain⟨u,j,l⟩:=fin a;exact⟨k.defers,u,j,u,rfl,n,o,m,l⟩
 ·cases h
def ae8(x:ir E){f}(N:E.G f=true)(T:dK E.P call)(n:∀g args H v H',E.G g=true->E.df g=false->call g args H=some (v,H')->kM E.P g/\OT E.P g args H v H')
  {loop:(az->ab->Option ef)->az->ab->Option ef} (K:CK loop) {args} {v}
  (h:AP E call loop f args H=some (v,H')):kM E.P f/\Jh E.P f args H v H':=by
 obtain⟨fn,c,m,k,h3,F⟩:=x.kW f N;refine⟨⟨fn,m,h3,by simp[k]⟩,?_⟩;simp only[AP,m,k] at h;split at h
 ·rename_i O;intro B W0 σ w us M L
  cases hx:ik E call loop c (jq args) H with
  |none=>simp[hx,an] at h
  |some r=>
   obtain⟨⟨ex,l,H1⟩,j⟩:=r;simp[hx,an] at h;refine calls_of_wp_defers m k (aGv (ahm T x.mixed K c (jq args) H σ _ w ex l H1 j F hx M (N7 L O)) ?_);rintro e a1 w1 ⟨rfl,U,d,J,S,y,u0,o,A⟩
   have body:∀{g:FuncId} {first cap:List AV},target j=some (g,first,cap)->(if E.G g=true/\E.df g=false then an (call g (first++cap) H1) λq=>finish E.P fn.results.toList (.ret,l,q.2) else none)=some (v,H')->
     Leaves E.P fn a1.tmps (λe w'=>∃u,e=.returned u/\kF E.P B W0 σ v H' u w') a1.defers .returning w1:=by
    intro g first cap a h
    split at h
    ·rename_i hg
     cases hq:call g (first++cap) H1 with
     |none=>simp[hq,an] at h
     |some q=>
      obtain⟨vq,H2⟩:=q;simp[hq,an] at h;obtain⟨b,i,rfl,D,Q⟩:=UX a o;have t:=A w1;simp[Deferred.ofValue,as1,Result.ok.injEq] at t;subst t;obtain⟨k1,k2⟩:=n g _ _ _ _ hg.1 hg.2 hq;rw[y.defers];refine leaves_cons (f:=g) (args:=(b++i).toArray) ah ?_ ?_
      ·simp only[invoke,UL k1];congr 2;apply aF9;simp
      ·refine(k2 B W0 U w1 (b++i) S (D.append Q)).mono ?_;rintro e u' w2 ⟨rfl,u,rfl,C,s,z,q3⟩;simp[settle];simp[finish] at h
       cases hv:kL E.P l H2 fn.results.toList with
       |none=>simp[hv,an] at h
       |some vs=>simp[hv,an] at h;obtain⟨rfl,rfl⟩:=h;obtain⟨S3,R,I⟩:=Et z (y.mono s.le) _ _ hv;refine⟨_,?_,_,rfl,C,J.trans s,z,M_ I⟩;rw[M9];simp[aF1,Φ,Sem.run_map,R,Ε,as1]
    ·cases h
   cases ex with
   |exit id=>simp at h
   |normal=>
    cases a:target j with
    |none=>simp[a] at h
    |some p=>obtain⟨g,first,cap⟩:=p;simp only[a] at h;exact body a h
   |ret=>
    cases a:target j with
    |none=>simp[a] at h
    |some p=>obtain⟨g,first,cap⟩:=p;simp only[a] at h;exact body a h
 ·cases h
def Vv(a:ir E):∀n,dK E.P (eL E n)/\∀g args H v H',E.G g=true->E.df g=false->eL E n g args H=some (v,H')->kM E.P g/\OT E.P g args H v H'
 |0=>⟨λf args H v H' h=>by simp[eL] at h,λf args H v H' _ _ h=>by simp[eL] at h⟩
 |n+1=>by
  obtain⟨e,d⟩:=Vv a n;have c:CK (λg=>gZ g n):=λg α H r j=>⟨n,j⟩;refine⟨λf args H v H' h=> ?_,λf args H v H' b i h=> ?_⟩
  ·simp[eL] at h;split at h
   ·rename_i b;split at h
    ·exact ae8 a b e d c h
    ·exact afy a b e c h
   ·exact a.ext f args H v H' h
  ·simp[eL,b,i] at h;exact ae7 a b e c h
def afz(a:ir E)(n):dK E.P (eL E n):=(Vv a n).1
def Ig{c e:cu}(h:px c e){all}:∀l α H r,gv E c all l α H=some r->gv E e all l α H=some r
 |[],_,_,_,d=>d
 |o::l,α,H,r,d=>by
  simp[gv] at d⊢;obtain⟨b,g,a⟩:=iH d;simp[g,an]
  cases b with
  |true=>simp[c_] at a⊢;obtain⟨p,h3,f⟩:=iH a;simp[tV h h3];exact Ig h l _ _ _ f
  |false=>simp[c_] at a⊢;exact Ig h l _ _ _ a
def M'{c b:cu}(h:px c b){o}{α}{v}{H}(a:reads E c o α v H=true):reads E b o α v H=true:=by
 unfold reads at*
 split at a
 ·rename_i u H' d;rw[tV h d];exact a
 ·cases a
def yg{c m:cu}(h:px c m){all}:∀l k i j α H r,eY E c all k l i j α H=some r->eY E m all k l i j α H=some r
 |[],_,_,_,_,_,_,f=>f
 |o::l,k,i,j,α,H,r,f=>by
  simp[eY] at f⊢;obtain⟨b,n,e⟩:=iH f;simp[n,an]
  cases b with
  |true=>
   simp[c_] at e⊢;obtain⟨p,h3,a⟩:=iH e;simp[tV h h3]
   cases hk:bT E o.op with
   |ins=>simp[hk] at a⊢;exact yg h l _ _ _ _ _ _ a
   |rd=>
    simp only[hk] at a⊢;split at a
    ·rename_i d;rw[μ]
     ·exact yg h l _ _ _ _ _ _ a
     ·rw[aEi] at d⊢;intro w g;have:=d w g;simp at this⊢;exact this.imp id (M' h)
    ·cases a
   |wr=>
    simp only[hk] at a⊢;split at a
    ·rename_i d;rw[μ]
     ·exact yg h l _ _ _ _ _ _ a
     ·rw[aEi] at d⊢;intro w g;have:=d w g;simp at this⊢;exact this.imp id (M' h)
    ·cases a
  |false=>simp[c_] at e⊢;exact yg h l _ _ _ _ _ _ e
def MW{g a:az->ab->Option ef}(h:D0 g a){r c}(b:andThen r g=some c):andThen r a=some c:=by
 obtain⟨ex,α,H⟩:=r
 cases ex with
 |normal=>exact h _ _ _ b
 |_=>exact b
def pO{c g:cu}(h:px c g){l k}(e:D1 l k):∀x,D0 (aN E c l x) (aN E g k x)
 | .skip,_,_,_,a=>a
 | .region id ops d,α,H,r,a=>by
  simp[aN] at a⊢;obtain⟨p,b,f⟩:=iH a
  have h3:c_ (d&&E.dyn id) (c_ (E.any ops) (yp E ops α H) (eY E g ops 0 ops.toList [] [] α H)) (gv E g ops ops.toList α H)=some p:=by
   unfold c_ at b⊢;split at b
   ·rename_i i;rw[μ i];split at b
    ·rename_i j;rw[μ j];exact b
    ·rename_i j;rw[κ j];exact yg h _ _ _ _ _ _ _ b
   ·rename_i i;rw[κ i];exact Ig h _ _ _ _ b
  simp only[h3,an];exact f
 | .seq x y,α,H,r,a=>by simp[aN] at a⊢;obtain⟨p,b,f⟩:=iH a;simp[pO h e x _ _ _ b,an];exact MW (pO h e y) f
 | .cond cd x y,α,H,r,a=>by
  simp[aN,C9] at a⊢;split at a
  ·rename_i v hv
   cases v with
   |true=>simp[c_] at a⊢;exact pO h e x _ _ _ a
   |false=>simp[c_] at a⊢;exact pO h e y _ _ _ a
  ·cases a
 | .block id x,α,H,r,a=>by simp[aN] at a⊢;obtain⟨p,b,f⟩:=iH a;simp only[pO h e x _ _ _ b,an];exact f
 | .loop x,α,H,r,a=>by simp[aN] at a⊢;exact e _ _ (pO h e x) _ _ _ a
 | .exit id,_,_,_,a=>a
 | .ret,_,_,_,a=>a
 | .rangeFunc _ _ _ _,_,_,_,a=>by simp[aN] at a
 | .scope _,_,_,_,a=>by simp[aN] at a
 | .label _,_,_,_,a=>by simp[aN] at a
 | .goto _,_,_,_,a=>by simp[aN] at a
 | .refuse _,_,_,_,a=>by simp[aN] at a
def Vw{c d:cu}(h:px c d){l b}(e:D1 l b){f}{args}{r}(a:tg E c l f args H=some r):
  tg E d b f args H=some r:=by
 unfold tg at*
 split at a
 ·split at a
  ·split at a
   ·rename_i j;rw[μ j];obtain⟨p,i,g⟩:=iH a;rw[pO h e _ _ _ _ i];exact g
   ·cases a
  ·cases a
 ·cases a
def N8{c k:cu}(h:px c k){l j}(i:D1 l j):∀x α H r,ik E c l x α H=some r->ik E k j x α H=some r:=by
 intro x
 induction x with
 |seq a b _ ih=>
  intro α H r e;simp[ik] at e⊢;split at e
  ·rename_i o d hd;obtain⟨p,g,f⟩:=iH e;obtain⟨q,h3,m⟩:=iH f;simp only[tV h g,an,pO h i _ _ _ _ h3];exact m
  ·obtain⟨p,g,f⟩:=iH e;simp[pO h i _ _ _ _ g,an];split at f
   ·exact ih _ _ _ f
   ·cases f
 |_=>intro α H r e;simp[ik] at e
def afA{c e:cu}(h:px c e){l d}(g:D1 l d){f}{args}{r}(a:AP E c l f args H=some r):
  AP E e d f args H=some r:=by
 unfold AP at*
 split at a
 ·split at a
  ·split at a
   ·rename_i k;rw[μ k];obtain⟨p,j,b⟩:=iH a;simp[N8 h g _ _ _ _ j,an];split at b
    ·cases b
    ·split at b
     ·rename_i hg;rw[μ hg];obtain⟨q,h3,i⟩:=iH b;simp[h _ _ _ _ h3];exact i
     ·cases b
    ·cases b
   ·cases a
  ·cases a
 ·cases a
def yc{g c:az->ab->Option ef}(h:D0 g c):∀k b,k<=b->D0 (gZ g k) (gZ c b)
 |0,_,_,_,_,_,a=>by simp[gZ] at a
 |k+1,0,d,_,_,_,_=>by omega
 |k+1,b+1,d,α,H,r,a=>by simp[gZ] at a⊢;obtain⟨p,f,e⟩:=iH a;simp[h _ _ _ f,an];exact MW (yc h k b aa) e
def EB:∀n m,n<=m->px (eL E n) (eL E m)
 |0,_,_,_,_,_,_,a=>by simp[eL] at a
 |n+1,0,e,_,_,_,_,_=>by omega
 |n+1,m+1,e,f,args,H,r,a=>by
  simp[eL] at a⊢;split
  ·rename_i c;rw[μ c] at a;split
   ·rename_i b;rw[μ b] at a;exact afA (EB n m aa) (λg d hg=>yc hg n m aa) a
   ·rename_i b;rw[κ b] at a;exact Vw (EB n m aa) (λg d hg=>yc hg n m aa) a
  ·rename_i c;rw[κ c] at a;exact a
open Classical in
noncomputable def run(E:Env):cu:=λf args H=>if h:∃r n,eL E n f args H=some r then some h.choose else none
open Classical in
noncomputable def aL(g:az->ab->Option ef)(α:az)(H:ab):Option ef:=if h:∃r n,gZ g n α H=some r then some h.choose else none
def me{f}{args}{r:AV×ab}:run E f args H=some r↔∃n,eL E n f args H=some r:=by
 unfold run;constructor
 ·intro h;split at h
  ·rename_i a;simp at h;rw[<-h];exact a.choose_spec
  ·cases h
 ·rintro⟨n,c⟩;have a:∃r n,eL E n f args H=some r:=⟨r,n,c⟩;rw[dif_pos a];obtain⟨m,hm⟩:=a.choose_spec;have b:=EB m (max n m) aa _ _ _ _ hm;rw[(EB n (max n m) aa _ _ _ _ c)] at b;exact b.symm
def EH{g}{α}{r:ef}:aL g α H=some r↔∃n,gZ g n α H=some r:=by
 unfold aL;constructor
 ·intro h;split at h
  ·rename_i a;simp at h;rw[<-h];exact a.choose_spec
  ·cases h
 ·rintro⟨n,c⟩;have a:∃r n,gZ g n α H=some r:=⟨r,n,c⟩;rw[dif_pos a];obtain⟨m,hm⟩:=a.choose_spec;have b:=yc (λ_ _ _ h=>h) m (max n m) aa _ _ _ hm;rw[(yc (λ_ _ _ h=>h) n (max n m) aa _ _ _ c)] at b;exact b.symm
def aJ(g)(α)(H):aL g α H=an (g α H) λr=>andThen r (aL g):=by
 apply Option.ext;intro r;rw[EH];constructor
 ·rintro⟨n,c⟩
  cases n with
  |zero=>simp[gZ] at c
  |succ n=>simp[gZ] at c;obtain⟨p,a,b⟩:=iH c;simp[a,an];exact MW (λ_ _ _ h=>EH.2 ⟨n,h⟩) b
 ·intro h;obtain⟨p,a,b⟩:=iH h;obtain⟨ex,ae,H'⟩:=p
  cases ex with
  |normal=>obtain⟨n,c⟩:=EH.1 b;exact⟨n+1,by simp[gZ,a,an,andThen];exact c⟩
  |exit id=>exact⟨1,by simp[gZ,a,an];exact b⟩
  |ret=>exact⟨1,by simp[gZ,a,an];exact b⟩
def EI(a:ir E):dK E.P (run E):=λf args H v H' h=>by obtain⟨n,b⟩:=me.1 h;exact afz a n f args H v H' b
end
end Go.Ab
namespace Go.Ab
open Go
section
variable {H:ab} {E:Env}
def nr(n m:Nat)(h:n<=m):px (eL E n) (eL E m):=EB n m h
def zK(n m:Nat)(h:n<=m):D1 (λg=>gZ g n) (λg=>gZ g m):=λg g' hg=>yc hg n m h
def afB{P}{f}{args}{v}(h:aK P (run E) f args=some v):∃n,aK P (eL E n) f args=some v:=by
 unfold aK at h;split at h
 ·rename_i b
  cases hc:run E f (args.map AV.erase) .empty with
  |none=>simp[hc] at h
  |some p=>obtain⟨n,a⟩:=me.1 hc;refine⟨n,?_⟩;unfold aK;rw[μ b,a];simpa[hc] using h
 ·cases h
def ago{f}{args}{te}{cs}{r}(h:oG (run E) f args te cs=some r):∃n,oG (eL E n) f args te cs=some r:=by
 unfold oG at h
 cases hc:run E f args {next:=1,jo:=[(0,.cells te cs)]} with
 |none=>simp[hc] at h
 |some p=>obtain⟨n,a⟩:=me.1 hc;refine⟨n,?_⟩;unfold oG;rw[a];simpa[hc] using h
def afC{f}{args}{tb te}{cs}{r}(h:oC (run E) f args tb te cs=some r):∃n,oC (eL E n) f args tb te cs=some r:=by
 unfold oC at h
 cases hc:run E f args {next:=2,jo:=[(1,.cells tb [.ptr 0 0]),(0,.cells te cs)]} with
 |none=>simp[hc] at h
 |some p=>obtain⟨n,a⟩:=me.1 hc;refine⟨n,?_⟩;unfold oC;rw[a];simpa[hc] using h
def afD{io}{f}{args}{r}(h:sV io (run E) f args H=some r):∃n,sV io (eL E n) f args H=some r:=by
 unfold sV at*
 split at h
 ·rename_i hf;simp[μ hf];rcases M6 h with⟨id,as,te,cs,x,c,g,a,hb,h3,b,rfl⟩|⟨id,pid,as,tb,te,cs,x,i,c,a,h3,b,h5,e,rfl⟩
  ·obtain⟨n,d⟩:=ago b;exact⟨n,NB c g a hb h3 d⟩
  ·obtain⟨n,d⟩:=afC e;exact⟨n,M8 i c a h3 b h5 d⟩
 ·rename_i hf;simp[κ hf];exact me.1 h
def HP{op}{ρ}{r}(a:bh E (run E) op ρ H=some r):∃n,bh E (eL E n) op ρ H=some r:=by
 cases op<;>simp only[bh] at a⊢<;>(try exact⟨0,a⟩)
 case call cl=>
  unfold tX at*
  cases hf:cl.callee with
  |value f=>
   simp only[hf] at a⊢
   unfold dD at*
   cases ht:target (ρ f) with
   |none=>simp[ht] at a
   |some p=>
    obtain⟨g,first,cap⟩:=p
    simp only[ht] at a⊢;by_cases c:E.cl g=true
    ·rw[μ c] at a;obtain⟨v,h,e⟩:=iH a;obtain⟨n,d⟩:=afB h;refine⟨n,?_⟩;rw[μ c];simp only[d,an];exact e
    ·rw[κ c] at a;obtain⟨n,d⟩:=afD a;exact⟨n,by rw[κ c];exact d⟩
  |builtin b=>simp only[hf] at a⊢;cases b<;>exact⟨0,a⟩
  |invoke q m=>simp only[hf] at a⊢;exact⟨0,a⟩
def N9{all:Array Oper}:∀l α H r,gv E (run E) all l α H=some r->∃n,gv E (eL E n) all l α H=some r
 |[],_,_,_,c=>⟨0,c⟩
 |o::l,α,H,r,c=>by
  simp[gv] at c⊢;obtain⟨b,f,a⟩:=iH c;simp[f,an]
  cases b with
  |true=>simp[c_] at a⊢;obtain⟨p,h3,e⟩:=iH a;obtain⟨n1,d⟩:=HP h3;obtain⟨n2,g⟩:=N9 l _ _ _ e;refine⟨max n1 n2,?_⟩;rw[tV (nr n1 _ aa) d];exact Ig (nr n2 _ aa) l _ _ _ g
  |false=>simp[c_] at a⊢;exact N9 l _ _ _ a
def agp{o}{α}{v}{H}(h:reads E (run E) o α v H=true):∃n,reads E (eL E n) o α v H=true:=by
 unfold reads at h;split at h
 ·rename_i u H' a;obtain⟨n,b⟩:=HP a;exact⟨n,by unfold reads;rw[b];exact h⟩
 ·cases h
def N_{A:Type}(g:A->Bool)(f:A->Oper×az×AV×ab):∀(l:List A),(l.all λq=>g q||reads E (run E) (f q).1 (f q).2.1 (f q).2.2.1 (f q).2.2.2)=true->∃n,∀m,n<=m->(l.all λq=>g q||reads E (eL E m) (f q).1 (f q).2.1 (f q).2.2.1 (f q).2.2.2)=true
 |[],_=>⟨0,λ_ _=>rfl⟩
 |q::l,h=>by
  simp only[aEB,Ω] at h;obtain⟨n,b⟩:=N_ g f l h.2;have a:=h.1;simp at a;rcases a with a|a
  ·exact⟨n,λm hm=>by simp only[aEB,Ω];exact⟨by simp[a],b m hm⟩⟩
  ·obtain⟨k,c⟩:=agp a;refine⟨max n k,λm hm=> ?_⟩;simp only[aEB,Ω];exact⟨by rw[M' (nr k m aa) c];simp,b m aa⟩
def EJ{all:Array Oper}:∀l k d g α H (r:az×ab),eY E (run E) all k l d g α H=some r->∃n,eY E (eL E n) all k l d g α H=some r
 |[],_,_,_,_,_,_,f=>⟨0,f⟩
 |o::l,k,d,g,α,H,r,f=>by
  simp[eY] at f⊢;obtain⟨b,s,e⟩:=iH f;simp[s,an]
  cases b with
  |true=>
   simp[c_] at e⊢;obtain⟨p,h3,a⟩:=iH e;obtain⟨n1,h⟩:=HP h3
   cases hk:bT E o.op with
   |ins=>simp[hk] at a⊢;obtain⟨n2,c⟩:=EJ l _ _ _ _ _ _ a;refine⟨max n1 n2,?_⟩;rw[tV (nr n1 _ aa) h];exact yg (nr n2 _ aa) l _ _ _ _ _ _ c
   |rd=>
    simp only[hk] at a⊢;split at a
    ·rename_i m;obtain⟨n2,c⟩:=EJ l _ _ _ _ _ _ a;obtain⟨j,i⟩:=N_ (λw:Nat×ab=>behind all all.size k w.1) (λw=>(o,α,p.1,w.2)) g m;refine⟨max n1 (max n2 j),?_⟩;rw[tV (nr n1 _ aa) h];simp only;rw[μ (i _ aa)];exact yg (nr n2 _ aa) l _ _ _ _ _ _ c
    ·cases a
   |wr=>
    simp only[hk] at a⊢;split at a
    ·rename_i m;obtain⟨n2,c⟩:=EJ l _ _ _ _ _ _ a;obtain⟨j,i⟩:=N_ (λq:Nat×Oper×az×AV=>behind all all.size k q.1) (λq=>(q.2.1,q.2.2.1,q.2.2.2,p.2)) d m;refine⟨max n1 (max n2 j),?_⟩;rw[tV (nr n1 _ aa) h];simp only;rw[μ (i _ aa)];exact yg (nr n2 _ aa) l _ _ _ _ _ _ c
    ·cases a
  |false=>simp[c_] at e⊢;exact EJ l _ _ _ _ _ _ e
def Na(g)(n)(α)(H):gZ g (n+1) α H=an (g α H) λr=>andThen r (gZ g n):=rfl
def wD:∀x α H r,aN E (run E) aL x α H=some r->∃n,aN E (eL E n) (λg=>gZ g n) x α H=some r
 | .skip,_,_,_,a=>⟨0,a⟩
 | .region id ops d,α,H,r,a=>by
  simp[aN] at a⊢;obtain⟨p,c,b⟩:=iH a;unfold c_ at c⊢;split at c
  ·rename_i i;split at c
   ·rename_i j;exact⟨0,by rw[μ i,μ j,c];exact b⟩
   rename_i j;obtain⟨n,e⟩:=EJ _ _ _ _ _ _ _ c;exact⟨n,by rw[μ i,κ j,e];exact b⟩
  ·rename_i i;obtain⟨n,e⟩:=N9 _ _ _ _ c;exact⟨n,by rw[κ i,e];exact b⟩
 | .seq x y,α,H,r,a=>by
  simp[aN] at a⊢;obtain⟨p,c,b⟩:=iH a;obtain⟨n1,f⟩:=wD x _ _ _ c;obtain⟨ex,l,H1⟩:=p
  cases ex with
  |normal=>obtain⟨n2,o⟩:=wD y _ _ _ b;refine⟨max n1 n2,?_⟩;rw[pO (nr n1 _ aa) (zK n1 (max n1 n2) aa) x _ _ _ f];exact pO (nr n2 _ aa) (zK n2 (max n1 n2) aa) y _ _ _ o
  |exit id=>exact⟨n1,by rw[f];exact b⟩
  |ret=>exact⟨n1,by rw[f];exact b⟩
 | .cond cd x y,α,H,r,a=>by
  simp[aN,C9] at a⊢;split at a
  ·rename_i v hv
   cases v with
   |true=>simp[c_] at a⊢;exact wD x _ _ _ a
   |false=>simp[c_] at a⊢;exact wD y _ _ _ a
  ·cases a
 | .block id x,α,H,r,a=>by simp[aN] at a⊢;obtain⟨p,c,b⟩:=iH a;obtain⟨n,e⟩:=wD x _ _ _ c;exact⟨n,by rw[e];exact b⟩
 | .loop x,α,H,r,a=>by
  simp[aN] at a⊢;obtain⟨k,q⟩:=EH.1 a
  have:∀k α H,gZ (aN E (run E) aL x) k α H=some r->∃n,∀m,n<=m->gZ (aN E (eL E m) (λg=>gZ g m) x) m α H=some r:=by
   intro k
   induction k with
   |zero=>intro α H h;simp[gZ] at h
   |succ k ih=>
    intro α H h;simp[gZ] at h;obtain⟨p,c,b⟩:=iH h;obtain⟨n1,f⟩:=wD x _ _ _ c;have up:∀m,n1<=m->aN E (eL E m) (λg=>gZ g m) x α H=some p:=λm hm=>pO (nr n1 m hm) (zK n1 m hm) x _ _ _ f;obtain⟨ex,l,H1⟩:=p
    cases ex with
    |normal=>
     obtain⟨n2,o⟩:=ih l H1 b;refine⟨max n1 (n2+1),λm hm=> ?_⟩
     cases m with
     |zero=>omega
     |succ m=>rw[Na,up (m+1) aa];show gZ _ m l H1=some r;refine yc ?_ m m (ν _) _ _ _ (o m aa);exact pO (nr m (m+1) aa) (zK m (m+1) aa) x
    |exit id=>
     refine⟨max n1 1,λm hm=> ?_⟩
     cases m with
     |zero=>omega
     |succ m=>rw[Na,up (m+1) aa];exact b
    |ret=>
     refine⟨max n1 1,λm hm=> ?_⟩
     cases m with
     |zero=>omega
     |succ m=>rw[Na,up (m+1) aa];exact b
  obtain⟨n,e⟩:=this k α H q;exact⟨n,e n (ν _)⟩
 | .exit id,_,_,_,a=>⟨0,a⟩
 | .ret,_,_,_,a=>⟨0,a⟩
 | .rangeFunc _ _ _ _,_,_,_,a=>by simp[aN] at a
 | .scope _,_,_,_,a=>by simp[aN] at a
 | .label _,_,_,_,a=>by simp[aN] at a
 | .goto _,_,_,_,a=>by simp[aN] at a
 | .refuse _,_,_,_,a=>by simp[aN] at a
def run_eq{f}(d:E.G f=true)(b:E.df f=false)(args)(H:ab):run E f args H=tg E (run E) aL f args H:=by
 apply Option.ext;intro r;rw[me];constructor
 ·rintro⟨n,a⟩
  cases n with
  |zero=>simp[eL] at a
  |succ n=>simp[eL,d,b] at a;have k:px (eL E n) (run E):=λf args H r h=>me.2 ⟨n,h⟩;have j:D1 (λg=>gZ g n) aL:=λg g' hg α H r h=>EH.2 ⟨n,yc hg n n (ν _) _ _ _ h⟩;exact Vw k j a
 ·intro h;unfold tg at h
  cases h1:E.P.funcs[f]? with
  |none=>simp[h1] at h
  |some fn=>
   cases h2:fn.body with
   |none=>simp[h1,h2] at h
   |some c=>
    simp only[h1,h2] at h;split at h
    ·rename_i a;obtain⟨p,e,l⟩:=iH h;obtain⟨n,i⟩:=wD c _ _ _ e;refine⟨n+1,?_⟩;simp[eL,d,b,tg,h1,h2,μ a,i,an];exact l
    ·cases h
def wK{f}(a:E.G f=false)(args)(H):run E f args H=E.ext f args H:=by
 apply Option.ext;intro r;rw[me];constructor
 ·rintro⟨n,b⟩
  cases n with
  |zero=>simp[eL] at b
  |succ n=>simpa[eL,a] using b
 ·intro h;exact⟨1,by simpa[eL,a] using h⟩
def Cr{f}{fn:Func}{c}(e:E.G f=true)(a:E.df f=false)(d:E.P.funcs[f]? =some fn)(b:fn.body=some c){args:List AV}(g:args.length<=fn.ntmps)(H):
  run E f args H=an (aN E (run E) aL c (jq args) H) (finish E.P fn.results.toList):=by
 rw[run_eq e a];simp[tg,d,b,μ g]
end
section
variable {E:Env} {call:cu} {loop:(az->ab->Option ef)->az->ab->Option ef} {α:az} {H:ab} {ρ:Operand->AV}
@[congr] theorem aDW {A B:Type} {x x':Option A} {f:A->Option B} (h:x=x'):an x f=an x' f:=by rw[h]
@[congr] theorem aDX {A:Type} {c a:Bool} {x y:A} (h:c=a):c_ c x y=c_ a x y:=by rw[h]
def PI{A B:Type}(a:A)(f:A->Option B):an (some a) f=f a:=(rfl)
def QH{A:Type}(x y:A):c_ true x y=x:=(rfl)
def QI{A:Type}(x y:A):c_ false x y=y:=(rfl)
def alM{A B C:Type}(x)(f:A->Option B)(g:B->Option C):an (an x f) g=an x λa=>an (f a) g:=by cases x<;>rfl
def alN:aN E call loop .skip α H=some (.normal,α,H):=(rfl)
def ahn(id)(l:List Oper):aN E call loop (.region id l.toArray false) α H=an (gv E call l.toArray l α H) λr=>some (.normal,r.1,r.2):=(rfl)
def afE(id)(l:List Oper)(a:E.dyn id=false):aN E call loop (.region id l.toArray true) α H=an (gv E call l.toArray l α H) λr=>some (.normal,r.1,r.2):=by simp[aN,a,c_]
def nG(id)(l:List Oper)(a:E.dyn id=true)(b:E.any l.toArray=false):aN E call loop (.region id l.toArray true) α H=an (eY E call l.toArray 0 l [] [] α H) λr=>some (.normal,r.1,r.2):=by simp[aN,a,b,c_]
def vv(a b):aN E call loop (.seq a b) α H=an (aN E call loop a α H) λr=>andThen r (aN E call loop b):=(rfl)
def alO(c)(a b):aN E call loop (.cond c a b) α H=C9 α c (aN E call loop a α H) (aN E call loop b α H):=(rfl)
def N'(id)(c):aN E call loop (.block id c) α H=an (aN E call loop c α H) λr=>some (t_ id r):=(rfl)
def alP(id):aN E call loop (.exit id) α H=some (.exit id,α,H):=(rfl)
def arv:aN E call loop .ret α H=some (.ret,α,H):=(rfl)
def UD(id)(l:List Oper)(b)(a:E.dyn id=true)(c:E.any l.toArray=false):aN E call loop (.seq (.region id l.toArray true) b) α H=an (eY E call l.toArray 0 l [] [] α H) λr=>aN E call loop b r.1 r.2:=by rw[vv,nG _ _ a c,alM];congr 1
def U4(f):andThen (.normal,α,H) f=f α H:=(rfl)
def Wa(id)(f):andThen (.exit id,α,H) f=some (.exit id,α,H):=(rfl)
def Xf(f):andThen (.ret,α,H) f=some (.ret,α,H):=(rfl)
def aeS(id):t_ id (.normal,α,H)=(.normal,α,H):=(rfl)
def afF(id):t_ id (.ret,α,H)=(.ret,α,H):=(rfl)
def ae9(id):t_ id (.exit id,α,H)=(.normal,α,H):=by simp[t_]
def JZ(v:AV)(x y:Option ef):Option ef:=
 match v with
 | .bool c=>c_ c x y
 |_=>none
def Xg(c:Operand)(x y:Option ef):C9 α c x y=JZ (ev α c) x y:=(rfl)
@[congr] theorem aDR {v a:AV} {x y:Option ef} (h:v=a):JZ v x y=JZ a x y:=by rw[h]
def Nb(c:Bool)(x y:Option ef):JZ (.bool c) x y=c_ c x y:=(rfl)
def arw(all:Array Oper):gv E call all [] α H=some (α,H):=(rfl)
def alQ(all:Array Oper)(dst)(op)(ty)(pos)(after)(rest):
  gv E call all (⟨dst,op,ty,pos,after,none⟩::rest) α H=an (bh E call op (ev α) H) λr=>gv E call all rest (put α dst r.1) r.2:=(rfl)
def BI(kd:Kd)(E:Env)(call:cu)(all:Array Oper)(k:Nat)(o:Oper)(rest:List Oper)(a:List (Nat×Oper×az×AV))(b:List (Nat×ab))(α:az)(H:ab)(r:AV×ab):Option (az×ab):=
 match kd with
 | .ins=>eY E call all (k+1) rest a b (put α o.dst r.1) r.2
 | .rd=>c_ (b.all λw=>behind all all.size k w.1||reads E call o α r.1 w.2) (eY E call all (k+1) rest ((k,o,α,r.1)::a) b (put α o.dst r.1) r.2) none
 | .wr=>c_ (a.all λq=>behind all all.size k q.1||reads E call q.2.1 q.2.2.1 q.2.2.2 r.2) (eY E call all (k+1) rest a ((k,H)::b) (put α o.dst r.1) r.2) none
@[congr] theorem aDY {kd a:Kd} {all:Array Oper} {k:Nat} {o:Oper} {rest:List Oper} {b:List (Nat×Oper×az×AV)} {c:List (Nat×ab)} {r:AV×ab} (h:kd=a):BI kd E call all k o rest b c α H r=BI a E call all k o rest b c α H r:=by rw[h]
def alR(all:Array Oper)(k:Nat)(o:Oper)(rest:List Oper)(a:List (Nat×Oper×az×AV))(b:List (Nat×ab))(r:AV×ab):BI .ins E call all k o rest a b α H r=eY E call all (k+1) rest a b (put α o.dst r.1) r.2:=(rfl)
def arx(all:Array Oper)(k:Nat)(o:Oper)(rest:List Oper)(b:List (Nat×Oper×az×AV))(a:List (Nat×ab))(r:AV×ab):BI .rd E call all k o rest b a α H r=c_ (a.all λw=>behind all all.size k w.1||reads E call o α r.1 w.2) (eY E call all (k+1) rest ((k,o,α,r.1)::b) a (put α o.dst r.1) r.2) none:=(rfl)
def ary(all:Array Oper)(k:Nat)(o:Oper)(rest:List Oper)(a:List (Nat×Oper×az×AV))(b:List (Nat×ab))(r:AV×ab):BI .wr E call all k o rest a b α H r=c_ (a.all λq=>behind all all.size k q.1||reads E call q.2.1 q.2.2.1 q.2.2.2 r.2) (eY E call all (k+1) rest a ((k,H)::b) (put α o.dst r.1) r.2) none:=(rfl)
def arz(all)(k)(rs)(ws):eY E call all k [] rs ws α H=some (α,H):=(rfl)
def alS(all)(k)(dst:Option Tmp)(op:Op)(ty:TypeId)(pos:String)(after:Array Edge)(rest:List Oper)(a:List (Nat×Oper×az×AV))(b:List (Nat×ab)):
  eY E call all k (⟨dst,op,ty,pos,after,none⟩::rest) a b α H=an (bh E call op (ev α) H) λr=>BI (bT E op) E call all k ⟨dst,op,ty,pos,after,none⟩ rest a b α H r:=by
 simp[eY,iI,an,c_];rfl
def alT(t)(x):bT E (.load t x)=.rd:=(rfl)
def aiw(t):bT E (.alloc t)=.wr:=(rfl)
def aix(t)(x y):bT E (.store t x y)=.wr:=(rfl)
def afa(t)(x)(f):bT E (.fieldAddr t x f)=.ins:=(rfl)
def alU(x):bT E (.move x)=.ins:=(rfl)
def aho(x):bT E (.assign x)=.ins:=(rfl)
def aiy(t)(l):bT E (.build t l)=.ins:=(rfl)
def FL(r:Option (AV×ab))(v:AV):Bool:=match r with|some p=>dt p.1 v|none=>false
def EC(u v:AV):FL (some (u,H)) v=dt u v:=(rfl)
@[congr] theorem aDS {r a:Option (AV×ab)} {v:AV} (h:r=a):FL r v=FL a v:=by rw[h]
def EU(o:Oper)(v:AV):reads E call o α v H=FL (bh E call o.op (ev α) H) v:=by unfold reads FL;cases bh E call o.op (ev α) H<;>rfl
def sX(k)(a):dt (.int k a) (.int k a)=true:=by simp[dt]
def Fj(a):dt (.str a) (.str a)=true:=by simp[dt]
def PJ(xs ys):dt (.agg xs) (.agg ys)=il xs ys:=by simp[dt]
def rK(x y)(xs ys):il (x::xs) (y::ys)=(dt x y&&il xs ys):=by simp[il]
def PK:il [] []=true:=by simp[il]
attribute [go_sem] sX Fj PJ rK PK
attribute [go_sem ↓] arz alS alT aiw aix afa alU aho aiy
attribute [go_sem] alR arx ary EU EC afE nG UD aEB aFg aF0 Bool.and_true Bool.and_self
def wL(b:Bool)(v:AV):Option Bool:=
 match v with
 | .bool c=>some (c==b)
 | .val (.tuple _)=>some false
 |_=>none
def Vx:wL true (.bool true)=some true:=(rfl)
def Vy:wL true (.bool false)=some false:=(rfl)
def Vz:wL false (.bool true)=some false:=(rfl)
def VA:wL false (.bool false)=some true:=(rfl)
def UG(b:Bool):wL b gz=some false:=(rfl)
def CL(all:Array Oper)(j:Nat):Option Tmp:=(all[j]?).bind (·.dst)
def A3(b:Bool)(α:az)(d:Option Tmp):Option Bool:=
 match d with
 |some d=>wL b (α d)
 |none=>none
def agq(b:Bool)(d:Tmp):A3 b α (some d)=wL b (α d):=(rfl)
@[congr] theorem aDT {b:Bool} {d a:Option Tmp} (h:d=a):A3 b α d=A3 b α a:=by rw[h]
@[congr] theorem aDP {b:Bool} {v a:AV} (h:v=a):wL b v=wL b a:=by rw[h]
def VB(all)(j:Nat)(b:Bool):iI all (some (j,b)) α=A3 b α (CL all j):=by
 unfold iI A3 CL
 cases h:(all[j]?).bind (·.dst) with
 |none=>simp[h]
 |some d=>simp[h];rfl
def aiz(all)(dst)(op)(ty)(pos)(after)(rest)(j:Nat)(b:Bool):
  gv E call all (⟨dst,op,ty,pos,after,some (j,b)⟩::rest) α H=an (A3 b α (CL all j)) λc=>
   c_ c (an (bh E call op (ev α) H) λr=>gv E call all rest (put α dst r.1) r.2) (gv E call all rest (put α dst gz) H):=by
 rw[<-VB];rfl
def yY:List Oper->Nat->Option Tmp
 |[],_=>none
 |o::_,0=>o.dst
 |_::r,n+1=>yY r n
def afG(l:List Oper)(j:Nat):CL l.toArray j=yY l j:=by
 unfold CL
 induction l generalizing j with
 |nil=>simp[yY]
 |cons o r ih=>cases j with
  |zero=>simp[yY]
  |succ n=>simpa[yY] using ih n
def agr(o:Oper)(r):yY (o::r) 0=o.dst:=(rfl)
def ags(o)(r)(n):yY (o::r) (n+1)=yY r n:=(rfl)
def YU(cs):eQ (.agg cs) H=some (.ptr H.next 0,H.push (.cells none cs)):=by simp[eQ,AV.width,AV.cells]
def alV(k)(n):eQ (.int k n) H=some (.ptr H.next 0,H.push (.cells none [.int k n])):=by simp[eQ,AV.width,AV.cells]
def Wb(n)(l)(x):ab.push ⟨n,l⟩ x=⟨n+1,(n,x)::l⟩:=(rfl)
def heap_set(n)(l)(i)(x):ab.set ⟨n,l⟩ i x=⟨n,aH l i x⟩:=(rfl)
def eF(l:List (Nat×bB))(id:Nat):Option (List AV):=match cg l id with|some (.cells _ cs)=>some cs|some (.row _ _ _ cs)=>some cs|_=>none
def Da(o:Option bB)(cs:List AV):bB:=match o with|some (.row n et s _)=>.row n et s cs|some (.cells te _)=>.cells te cs|_=>.cells none cs
def afH(te:Option TypeId)(cs ds:List AV):Da (some (.cells te cs)) ds=.cells te ds:=(rfl)
def bo(k)(x)(r)(id):cg ((k,x)::r) id=if k=id then some x else cg r id:=(rfl)
def HC(k)(te)(cs)(r)(id):eF ((k,.cells te cs)::r) id=if k=id then some cs else eF r id:=by by_cases h:k=id<;>simp[eF,cg,h]
def Nc(k n)(et)(r)(id):eF ((k,.bQ n et)::r) id=if k=id then none else eF r id:=by by_cases h:k=id<;>simp[eF,cg,h]
def tW(k)(x y)(r)(id):aH ((k,x)::r) id y=if k=id then(k,y)::r else(k,x)::aH r id y:=(rfl)
def Xh(P)(t)(n)(l)(id off):qK P ⟨n,l⟩ t (.ptr id off)=if id<n then an (eF l id) λcs=>iP P t cs off else none:=by
 by_cases h:id<n
 ·simp[qK,ab.get,eF,h]
  cases cg l id with
  |none=>rfl
  |some o=>cases o<;>rfl
 ·simp[qK,ab.get,h]
def ahp(P)(t)(cs):qK P H t (.rptr cs)=iP P t cs 0:=(rfl)
def kE{P}{t}(h:cv P t=some false)(cs)(off):iP P t cs off=cs[off]? :=by simp[iP,h]
def nL{P}{t}{n}(h:cv P t=some true)(a:bX P t=some n)(cs:List AV)(off):iP P t cs off=if off+n<=cs.length then some (.agg ((cs.drop off).take n)) else none:=by simp[iP,h,a]
def cX{P}{s}{fs}(h:gY P s=some fs)(f)(id o){off}{a}{n}(b:fs[f]? =some (off,a))(h3:bX P a=some (n+1)):
  bV P s f (.ptr id o)=some (.ptr id (o+off)):=by simp[bV,h,b,h3]
def EZ{P}{s}{fs}(h:gY P s=some fs)(f)(cs:List AV){off}{a}{n}(b:fs[f]? =some (off,a))(h3:bX P a=some (n+1)):
  bV P s f (.rptr cs)=if off<=cs.length then some (.rptr (cs.drop off)) else none:=by simp[bV,h,b,h3]
def HQ(P)(t)(n)(l:List (Nat×bB))(id off:Nat)(x:AV):
  ug P t (.ptr id off) x ⟨n,l⟩=if id<n then an (eF l id) λcs=>if bX P t=x.width/\x.width≠none/\off+x.cells.length<=cs.length/\eo x.cells=true then some (gz,⟨n,aH l id (Da (cg l id) (eg cs off x.cells))⟩) else none else none:=by
 by_cases h:id<n
 ·simp[ug,ab.get,eF,ab.set,h]
  cases cg l id with
  |none=>rfl
  |some o=>cases o<;>rfl
 ·simp[ug,ab.get,h]
def aa0(t):ev α (.tmp t)=α t:=(rfl)
def Xi(v):ev α (.const v)=mX v:=(rfl)
def alW(f):ev α (.func f)=.fn (.func f) [] []:=(rfl)
def alX(k)(n):mX (.int k n)=.int k n:=(rfl)
def aiA(b):mX (.bool b)=.bool b:=(rfl)
def alY(l:List UInt8):mX (.string ⟨l.toArray⟩)=.str l:=by simp[mX,ix]
def alZ:mX (.slice none 0 0)=.vec .nil []:=(rfl)
def Xj(d)(v)(i):put α (some d) v i=if i=d then v else α i:=(rfl)
def aiB(v):put α none v=α:=(rfl)
def al0(args)(i):jq args i=(args[i]?).getD gz:=(rfl)
def al1(x):bh E call (.move x) ρ H=some (ρ x,H):=(rfl)
def ahq(x):bh E call (.assign x) ρ H=some (ρ x,H):=(rfl)
def al2(c a b):bh E call (.pick c a b) ρ H=an (C6 (ρ a) (ρ b) (ρ c)) λv=>some (v,H):=(rfl)
def al3(t)(a):bh E call (.load t a) ρ H=an (qK E.P H t (ρ a)) λv=>some (v,H):=(rfl)
def afb(s)(x)(f):bh E call (.fieldAddr s x f) ρ H=an (bV E.P s f (ρ x)) λv=>some (v,H):=(rfl)
def afc(t)(x i):bh E call (.indexAddr t x i) ρ H=an (dW E.P t (ρ x) (ρ i)) λv=>some (v,H):=(rfl)
def aiC(t)(x i):bh E call (.index t x i) ρ H=an (mI E.P t (ρ x) (ρ i)) λv=>some (v,H):=(rfl)
def aiD(op)(t t')(x y):bh E call (.binOp op t x y t') ρ H=an (nS E.P op t (yo x||yo y) (ρ x) (ρ y)) λv=>some (v,H):=(rfl)
def al4(op:UnOp)(t)(x):bh E call (.unOp op t x) ρ H=an (xF op (ρ x)) λv=>some (v,H):=(rfl)
def agt(s d)(x):bh E call (.convert s d x) ρ H=an (rR E.P s d (ρ x)) λv=>some (v,H):=(rfl)
def agu(x)(i):bh E call (.extract x i) ρ H=an (ij i (ρ x)) λv=>some (v,H):=(rfl)
def aiE(t)(l:List (Nat×Operand)):bh E call (.build t l.toArray) ρ H=an (sU E.P t (l.map λp=>(p.1,ρ p.2))) λv=>some (v,H):=by simp[bh,lq]
def aiF(t)(x)(lo hi:Option Operand):bh E call (.slice t x lo hi none) ρ H=an (kg E.P t (lo.map ρ) (hi.map ρ) (ρ x)) λv=>some (v,H):=(rfl)
def afI(f:Fn)(first cap:List Operand):bh E call (.makeFunc f first.toArray cap.toArray) ρ H=some (.fn f (first.map ρ) (cap.map ρ),H):=by simp[bh,lq,an]
def afJ(x):bh E call (.nilCheck x) ρ H=an (Ca (ρ x)) λv=>some (v,H):=(rfl)
def aiG(t):bh E call (.alloc t) ρ H=sW E.P t H:=(rfl)
def arA(t)(x):bh E call (.box t x) ρ H=eQ (ρ x) H:=(rfl)
def aiH(t)(a x):bh E call (.store t a x) ρ H=ug E.P t (ρ a) (ρ x) H:=(rfl)
def aeW(t)(n)(l:List (Nat×Operand)):bh E call (.buildSlice t n l.toArray) ρ H=dZ E.P t n (l.map λp=>(p.1,ρ p.2)) H:=by simp[bh]
def al5(f)(l:List Operand)(d_):bh E call (.call ⟨.value f,l.toArray,d_⟩) ρ H=dD E call (ρ f) (l.map ρ) H:=by simp[bh,tX]
def ahr(l:List Operand)(d_:List TypeId):bh E call (.call ⟨.builtin .append,l.toArray,d_.toArray⟩) ρ H=cG E.fq E.P d_ (l.map ρ) H:=by simp[bh,tX]
def arB(l:List Operand)(d_):bh E call (.call ⟨.builtin .len,l.toArray,d_⟩) ρ H=td E.P d_ (l.map ρ) H:=by simp[bh,tX]
def arC(P)(d_)(l:List UInt8)(H):td P d_ [.str l] H=an (gB P d_ [.str l]) λv=>some (v,H):=(rfl)
def arD(P)(d_)(o)(l:List AV)(H):td P d_ [.vec o l] H=an (gB P d_ [.vec o l]) λv=>some (v,H):=(rfl)
def aw9(P)(d_)(a b c d)(H):td P d_ [.sl a b c d] H=an (gB P d_ [.sl a b c d]) λv=>some (v,H):=(rfl)
attribute [go_sem ↓] arC arD aw9
def arE(l:List Operand)(d_):bh E call (.call ⟨.builtin .max,l.toArray,d_⟩) ρ H=an (Dr (l.map ρ)) λv=>some (v,H):=by simp[bh,tX,lq]
noncomputable abbrev bu(E:Env)(f:FuncId):=dD E (run E) (.fn (.func f) [] [])
noncomputable abbrev aT(E:Env):=aN E (run E) aL
def tS{f}(h:E.cl f=true)(args):dD E call (.fn (.func f) [] []) args H=an (aK E.P call f args) λv=>some (v,H):=by simp[dD,target,h]
def qz{f}(h:E.cl f=false)(a:E.io f=false)(args):dD E call (.fn (.func f) [] []) args H=call f args H:=by simp[dD,target,h,a,sV]
def nP{P t z}(h:dz P t=some z)(H:ab):sW P t H=some (.ptr H.next 0,H.push (.cells (some t) z)):=by simp[sW,h]
def kR{P t z}{pl:List (Nat×Nat)}(h:dz P t=some z)(a:jl P t=some pl)(l):sU P t l=an (aQ (λi=>pl[i]?) z l) λcs=>some (.agg cs):=by simp[sU,h,a];cases aQ _ _ l<;>rfl
def nM{P t et}(h:fk P t=some et)(o)(l:List AV):gB P #[t] [.vec o l]=some (.i l.length):=by simp[gB,h]
def lx(E:Env)(P f)(h:E.cl f=true)(a:E.P=P)(call args H):dD E call (.fn (.func f) [] []) args H=an (aK P call f args) λv=>some (v,H):=by simp[dD,target,h,a]
def xc(E:Env)(f)(h:E.cl f=false)(a:E.io f=false)(call args H):dD E call (.fn (.func f) [] []) args H=call f args H:=qz h a args
def gI(E:Env)(f)(h:E.cl f=false)(a:E.io f=false)(args H):dD E (run E) (.fn (.func f) [] []) args H=run E f args H:=qz h a args
def Xk{f}(h:E.cl f=false)(a:E.io f=true)(first args cap):dD E call (.fn (.func f) first cap) args H=yJ call f (first++args++cap) H:=by simp[dD,target,h,a,sV]
def al6(a b):C6 a b (.bool true)=some a:=(rfl)
def al7(a b):C6 a b (.bool false)=some b:=(rfl)
def arF(P)(t)(k:IntKind)(a b):fH P .add t (.int k a) (.int k b)=some (.int k (k.wrap (a+b))):=by simp[fH,pQ,rM]
def arG(P)(t)(k:IntKind)(a b):fH P .sub t (.int k a) (.int k b)=some (.int k (k.wrap (a-b))):=by simp[fH,pQ,rM]
def arH(P)(t)(k:IntKind)(a b):fH P .mul t (.int k a) (.int k b)=some (.int k (k.wrap (a*b))):=by simp[fH,pQ,rM]
def arI(P)(t)(k)(a b):fH P .eql t (.int k a) (.int k b)=some (.bool (a==b)):=by simp[fH,pQ,rM]
def arJ(P)(t)(k)(a b):fH P .neq t (.int k a) (.int k b)=some (.bool (a != b)):=by simp[fH,pQ,rM]
def arK(P)(t)(k)(a b):fH P .lss t (.int k a) (.int k b)=some (.bool (decide (a<b))):=by simp[fH,pQ,rM]
def arL(P)(t)(k)(a b):fH P .leq t (.int k a) (.int k b)=some (.bool (decide (a<=b))):=by simp[fH,pQ,rM]
def arM(P)(t)(k)(a b):fH P .gtr t (.int k a) (.int k b)=some (.bool (decide (a>b))):=by simp[fH,pQ,rM]
def arN(P)(t)(k)(a b):fH P .geq t (.int k a) (.int k b)=some (.bool (decide (a≥b))):=by simp[fH,pQ,rM]
def arO(P)(t)(k:IntKind)(a b:Int):fH P .quo t (.int k a) (.int k b)=if b=0 then none else some (.int k (k.wrap (a.tdiv b))):=by simp[fH,pQ,rM]
def Ax{P}{op}{t}{c}{x y}(h:EY x y=false):nS P op t c x y=fH P op t x y:=by simp[nS,h]
def arP(P)(op)(t)(c)(k)(a)(y):nS P op t c (.int k a) y=fH P op t (.int k a) y:=Ax rfl
def arQ(P)(op)(t)(c)(a)(y):nS P op t c (.str a) y=fH P op t (.str a) y:=Ax rfl
def arR(P)(op)(t)(c)(o)(a)(y):nS P op t c (.vec o a) y=fH P op t (.vec o a) y:=Ax rfl
def PL(P)(op)(t)(c)(a b)(y):nS P op t c (.ptr a b) y=fH P op t (.ptr a b) y:=Ax rfl
def al8(P)(op)(t)(c)(a)(y):nS P op t c (.rptr a) y=fH P op t (.rptr a) y:=Ax rfl
attribute [go_sem ↓] arP arQ arR PL al8
def aiI(P)(op)(t)(a b):fH P op t (.str a) (.str b)=jM op a b:=(rfl)
def YV(P)(rs):finish P rs (.ret,α,H)=an (kL P α H rs) λa=>some (qG a,H):=(rfl)
def agv(P)(rs):finish P rs (.normal,α,H)=an (kL P α H rs) λa=>some (qG a,H):=(rfl)
def YW(P):kL P α H []=some []:=(rfl)
def al9(P)(t)(r):kL P α H (.tmp t::r)=an (kL P α H r) λa=>some (α t::a):=(rfl)
def YX(P:Program)(H:ab)(t:TypeId)(v:AV):Option AV:=match v with| .ptr id off=>qK P H t (.ptr id off)|_=>none
def U5(P)(t)(id off:Nat):YX P H t (.ptr id off)=qK P H t (.ptr id off):=(rfl)
def Xl(P)(a)(t)(r:List ResultVar):kL P α H (.cell a t::r)=an (YX P H t (α a)) λv=>an (kL P α H r) λb=>some (v::b):=(rfl)
def VC(v):qG [v]=v:=(rfl)
def agw(v v2):qG [v,v2]=.tup [v,v2]:=(rfl)
def afd(v v2 v3):qG [v,v2,v3]=.tup [v,v2,v3]:=(rfl)
def pU(r:Option (AV×ab)):Option AV:=match r with|some p=>some p.1|none=>none
def agx(v:AV):pU (some (v,H))=some v:=(rfl)
@[congr] theorem aDU {r a:Option (AV×ab)} (h:r=a):pU r=pU a:=by rw[h]
def HR{f}{fn:Func}{c}{args bE:List AV}{v b:AV}(l:E.G f=true)(g:E.df f=false)(j:E.P.funcs[f]? =some fn)(h:fn.body=some c)(m:args.length<=fn.ntmps)(d:args.map AV.erase=bE)
  (e:AV.aq.go bE=true) (a:pU (an (aN E (run E) aL c (jq bE) .empty) (finish E.P fn.results.toList))=some v) (i:v.erase=b) (k:b.aq=true):
  aK E.P (run E) f args=some b:=by
 unfold aK;rw[d,μ e,Cr l g j h (by rw[<-d];simpa using m)]
 cases hq:an (aN E (run E) aL c (jq bE) .empty) (finish E.P fn.results.toList) with
 |none=>rw[hq] at a;cases a
 |some p=>obtain⟨u,H'⟩:=p;rw[hq] at a;simp[pU] at a;subst a;simp only;rw[i,μ k]
end
def sY(cs:List AV):(AV.agg cs).erase=.agg (cs.map AV.bare):=(rfl)
def PM(k)(n):(AV.int k n).erase=.int k n:=(rfl)
def ama(b):(AV.bool b).erase=.bool b:=(rfl)
def aa1(l):(AV.str l).erase=.str l:=(rfl)
def PN(o:Own)(l):(AV.vec o l).erase=.vec o.bare l:=(rfl)
def sZ(k)(n):(AV.int k n).bare=.int k n:=(rfl)
def IG(b):(AV.bool b).bare=.bool b:=(rfl)
def CN(l):(AV.str l).bare=.str l:=(rfl)
def PO(o:Own)(l):(AV.vec o l).bare=.vec o.bare l:=(rfl)
def axa(i:Decidable True): @decide True i=true:=ah
def axb(i:Decidable False): @decide False i=false:=ah
attribute [go_sem] afH bo
attribute [go_sem] aFJ Option.map_none ahp axa axb sY PM ama aa1 PN sZ IG CN PO
attribute [go_sem ↓] arv alN alO N' alP vv ahn arw alQ aiz agq al1 ahq al2 al3 afb afc aiC aiD al4 agt agu aiE aiF afI afJ aiG arA aiH aeW al5 ahr arB arE
attribute [go_sem ↓] PI QH QI aa0 Xi Xj Vx Vy Vz VA UG Nb U4 Wa Xf
attribute [go_sem] PI QH QI Vx Vy Vz VA UG aa0 Xi alW alX aiA alY alZ Xj aiB al0 U4 Wa Xf aeS afF ae9 Xg Nb afG agr ags YU alV ab.empty Wb heap_set HC Nc tW Xh arF arG arH arI arJ arK arL arM arN arO aiI al6 al7 YV agv YW al9 U5 Xl VC agw afd agx
attribute [go_sem] aFi aEX aE1 aEv aFy
def aF(r:Option ef)(P:Ex->az->ab->Prop):Prop:=match r with|some (e,α,H)=>P e α H|none=>False
def aiJ(e)(α)(H)(P:Ex->az->ab->Prop):aF (some (e,α,H)) P=P e α H:=(rfl)
@[congr] theorem aDZ {r a:Option ef} {P:Ex->az->ab->Prop} (h:r=a):aF r P=aF a P:=by rw[h]
def ke{r}{P:Ex->az->ab->Prop}(h:aF r P):∃e α H,r=some (e,α,H)/\P e α H:=by
 unfold aF at h;split at h
 ·exact⟨_,_,_,rfl,h⟩
 ·exact h.elim
def aW{r}{P Q:Ex->az->ab->Prop}(h:aF r P)(hi:∀e α H,P e α H->Q e α H):aF r Q:=by obtain⟨e,α,H,rfl,a⟩:=ke h;exact hi _ _ _ a
def OU{g}(I:Nat->az->ab->Prop)(N:Nat)(P:Ex->az->ab->Prop)
  (f:∀i α H,i<N->I i α H->aF (g α H) λe a H'=>e=.normal/\I (i+1) a H')
  (d:∀α H,I N α H->aF (g α H) λe a H'=>e≠.normal/\P e a H'):
  ∀k i α H,i+k=N->I i α H->aF (aL g α H) P
 |0,i,α,H,l,h=>by
  have:i=N:=aa;subst this;obtain⟨e,a,H',c,b,h3⟩:=ke (d α H h);rw[aJ,c]
  cases e with
  |normal=>exact(b rfl).elim
  |exit j=>exact h3
  |ret=>exact h3
 |k+1,i,α,H,l,h=>by obtain⟨e,a,H',c,b,h3⟩:=ke (f i α H aa h);subst b;rw[aJ,c];exact OU I N P f d k (i+1) a H' aa h3
def gu{E}{call}{c}{α}{H}:aN E call aL (.loop c) α H=aL (aN E call aL c) α H:=(rfl)
def Oa{E}{call}{loop}(a b)(α)(H)(P:Ex->az->ab->Prop)
  (h:aF (aN E call loop a α H) λe c H'=>e=.normal/\aF (aN E call loop b c H') P):aF (aN E call loop (.seq a b) α H) P:=by
 obtain⟨e,c,H',d,f,h3⟩:=ke h;subst f;rw[vv,d];exact h3
def arS{E}{c}{α}{H}{call}{loop}{fin}{v:AV}
  (h:aF (aN E call loop c α H) λe a H'=>pU (fin (e,a,H'))=some v):pU (an (aN E call loop c α H) fin)=some v:=by
 obtain⟨e,a,H',b,d⟩:=ke h;rw[b];exact d
attribute [go_sem] aiJ
end Go.Ab
