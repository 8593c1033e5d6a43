/- LintCalls: part 4 of its proof. -/
import Derived.Test.YtmehamiifalmaaaGreatDoorG2
set_option linter.all false
namespace Go
noncomputable def Code.l:Code->Code| .seq a _=>a|_=>.skip
noncomputable def Code.r:Code->Code| .seq _ b=>b|_=>.skip
noncomputable def Code.b:Code->Code| .block _ b=>b| .loop b=>b|_=>.skip
noncomputable def Code.t:Code->Code| .cond _ b _=>b|_=>.skip
noncomputable def Code.e:Code->Code| .cond _ _ b=>b|_=>.skip
noncomputable def Code.o:Code->List Oper| .region _ o _=>o.toList|_=>[]
noncomputable def Func.c(f:Func):Code:=match f.body with|some c=>c|_=>.skip
end Go
namespace Go.Ab
open Go Go.RowKit
section
variable {P:Program} {B:Nat->Prop} {W0:World} {H H':ab} {σ aR:St} {w w':World} {n:Nat} {a:Act} {α:az} {E:Env} {call:ck} {ops:Array Oper} {ds:List Deferred}
def Ex.Iu:Ex->Exit
 | .normal=>.normal
 | .exit id=>.exit id
 | .ret=>.ret
def nF(E:Env)(n:Nat):Code->Bool
 | .region id ops e=>ops.all (λo=>match o.dst with|some d=>decide (d<n)|none=>true)&&(!e||(if E.dyn id=true then(E.any ops||AY E ops||(List.range ops.size).any (pY E ops)) else Fx E ops 0 ops.toList))
 | .seq a b=>nF E n a&&nF E n b
 | .cond _ a b=>nF E n a&&nF E n b
 | .block _ c=>nF E n c
 | .loop c=>nF E n c
 |_=>true
def pA(c a:ck):Prop:=∀f args H r,c f args H=some r->a f args H=some r
def Dn(g a:az->ab->Option dZ):Prop:=∀α H r,g α H=some r->a α H=some r
def Dp(l b:(az->ab->Option dZ)->az->ab->Option dZ):Prop:=∀g a,Dn g a->Dn (l g) (b a)
def iR{α β:Type}{x}{f:α->Option β}{r:β}(h:an x f=some r):∃a,x=some a/\f a=some r:=by
 cases x with
 |none=>simp[an] at h
 |some a=>exact⟨a,rfl,h⟩
def UC{P}{c b:ck}(h:pA c b){f}{args}{v}(a:aI P c f args=some v):aI P b f args=some v:=by
 unfold aI at*
 split at a
 ·rename_i d;rw[ν d]
  cases hc:c f (args.map AV.erase) .empty with
  |none=>simp[hc] at a
  |some p=>rw[h _ _ _ _ hc];simpa[hc] using a
 ·cases a
def afH{c b:ck}(h:pA c b){f}{args}{te}{cs}{r}(a:oD c f args te cs=some r):oD b f args te cs=some r:=by
 unfold oD at*
 cases hc:c f args {next:=1,jx:=[(0,.cells te cs)]} with
 |none=>simp[hc] at a
 |some p=>rw[h _ _ _ _ hc];simpa[hc] using a
def aeU{c b:ck}(h:pA c b){f}{args}{tb te}{cs}{r}(a:oA c f args tb te cs=some r):oA b f args tb te cs=some r:=by
 unfold oA at*
 cases hc:c f args {next:=2,jx:=[(1,.cells tb [.ptr 0 0]),(0,.cells te cs)]} with
 |none=>simp[hc] at a
 |some p=>rw[h _ _ _ _ hc];simpa[hc] using a
def MV{c}{f}{args as:List AV}{H:ab}{id}{te}{cs:List AV}{x}(g:gN 0 (args.map AV.erase)=some (id,as))(a:(gN 1 (args.map AV.erase)).isSome=true)
  (d:H.get id=some (.cells te cs)) (hb:∀b,cs≠[.ptr b 0]) (h:AV.aq.go (cs.map AV.bare)=true) (e:oD c f as te (cs.map AV.bare)=some x):yk c f args H=some (x.1,H.set id (.cells x.2.1 x.2.2)):=by
 obtain⟨⟨gg,FW⟩,a⟩:=Option.isSome_iff_exists.1 a;unfold yk;rw[g,a];simp only[d];rw[ν h,e];rfl
def Mt{c}{f}{args as:List AV}{H:ab}{id a}{tb te}{cs:List AV}{x}(j:(gN 0 (args.map AV.erase)).map (·.1)=some id)(h:gN 1 (args.map AV.erase)=some (id,as))
  (e:H.get id=some (.cells tb [.ptr a 0])) (k:H.get a=some (.cells te cs)) (d:a≠id) (g:AV.aq.go (cs.map AV.bare)=true) (i:oA c f as tb te (cs.map AV.bare)=some x):
  yk c f args H=some (x.1,(H.set a (.cells x.2.2.1 x.2.2.2)).set id (.cells x.2.1 [.ptr a 0])):=by
 obtain⟨⟨gg,as0⟩,b,rfl⟩:=aDy.1 j;unfold yk;rw[b,h];simp only[e,k];rw[ν ⟨d,g⟩,i];rfl
def aeV{io}{c j:ck}(h:pA c j):pA (rf io c) (rf io j):=by
 intro f args H r e
 unfold rf at*
 split at e
 ·rename_i a;rw[ν a];rcases Mr e with⟨id,as,te,cs,x,g,l,b,hb,i,d,rfl⟩|⟨id,pid,as,tb,te,cs,x,n,g,b,i,d,m,k,rfl⟩
  ·exact MV g l b hb i (afH h d)
  ·exact Mt n g b i d m (aeU h k)
 ·rename_i a;rw[κ a];exact h _ _ _ _ e
def ti{c d:ck}(h:pA c d){op}{ρ}{r}(a:bz E c op ρ H=some r):bz E d op ρ H=some r:=by
 cases op<;>simp[bz] at a⊢<;>(try exact a)
 case call cl=>
  unfold tq at*
  cases hf:cl.callee with
  |value f=>
   simp[hf] at a⊢
   unfold dX at*
   cases ht:target (ρ f) with
   |none=>simp[ht] at a
   |some p=>
    obtain⟨g,first,cap⟩:=p
    simp[ht] at a⊢;by_cases e:E.cl g=true
    ·rw[ν e] at a⊢;obtain⟨v,j,i⟩:=iR a;simp only[UC h j,an];exact i
    ·rw[κ e] at a⊢;exact aeV h _ _ _ _ a
  |builtin b=>simp[hf] at a⊢;cases b<;>exact a
  |invoke q m=>simp[hf] at a⊢;exact a
def UD{Q b}(h:∀α H,Q α H->b α H):∀fuel listed α H,tH E call ops Q fuel listed α H->tH E call ops b fuel listed α H
 |0,_,_,_,a=>⟨a.1,h _ _ a.2⟩
 |fuel+1,_,_,_,a=>⟨λe=>h _ _ (a.1 e),λi hi=>U8 (UD h fuel _) (a.2 i hi)⟩
def VN:∀a b,Ch a b=true->a=b
 |[],b,h=>by cases b with|nil=>rfl|cons=>simp[Ch] at h
 |(x,y,n)::r,b,h=>by
  cases b with
  |nil=>simp[Ch] at h
  |cons z l=>simp[Ch] at h;rw[zI _ _ h.1.1.1,zI _ _ h.1.1.2,h.1.2,VN r l h.2]
def afI:∀a b,xY a b=true->a=b
 | .cells t cs,b,h=>by cases b<;>simp[xY] at h;rw[h.1,wk _ _ h.2]
 | .bB n t,b,h=>by cases b<;>simp[xY] at h;rw[h.1,h.2]
 | .mf n t,b,h=>by cases b<;>simp[xY] at h;rw[h.1,h.2]
 | .row n t s cs,b,h=>by cases b<;>simp[xY] at h;rw[h.1.1.1,h.1.1.2,h.1.2,wk _ _ h.2]
 | .map es c,b,h=>by cases b<;>simp[xY] at h;rw[VN _ _ h.1,h.2]
def VO:∀a b,Ci a b=true->a=b
 |[],b,h=>by cases b with|nil=>rfl|cons=>simp[Ci] at h
 |(i,x)::r,b,h=>by
  cases b with
  |nil=>simp[Ci] at h
  |cons y l=>simp[Ci] at h;rw[h.1.1,afI _ _ h.1.2,VO r l h.2]
def aam(call:ck):∀f args H r,EP f args H=some r->call f args H=some r:=λf args H r h=>by simp[EP] at h
def Yl{α}{dst}{d}(h:dst≠some d)(v):Ab.put α dst v d=α d:=by
 cases dst with
 |none=>rfl
 |some e=>exact κ λa=>h (by rw[a])
def D8{yN}{dJ:az}:∀fuel listed α H,CV E ops yN fuel listed α H=true->(∀d,(∀o∈ops.toList,o.dst≠some d)->α d=dJ d)->
  tH E call ops (λk n=>yN k n=true/\∀d,(∀o∈ops.toList,o.dst≠some d)->k d=dJ d) fuel listed α H
 |0,listed,α,H,h,e=>by simp[CV,aFo] at h;exact⟨h.1,h.2,e⟩
 |fuel+1,listed,α,H,h,e=>by
  have bU:∀(i:Nat) (o:Oper) (v:AV),ops[i]? =some o->∀d,(∀o∈ops.toList,o.dst≠some d)->put α o.dst v d=dJ d:=by intro i o v a d g;have m:o.dst≠some d:=g o (by simpa using aEf a);rw[<-e d g];exact Yl m v
  simp[CV] at h;split at h
  ·rename_i i hi;have l:=aD3 hi;have j:=List.find?_some hi;split at h
   ·rename_i o a;split at h
    ·rename_i c;split at h
     ·rename_i v H' f;exact GO a fuel listed α H H' (GV a j) l (.inl ⟨c,ti (aam call) f⟩) (D8 fuel _ _ _ h (bU i o v a))
     ·cases h
    ·rename_i c;exact GO a fuel listed α H H (GV a j) l (.inr ⟨c,rfl,rfl⟩) (D8 fuel _ _ _ h (bU i o hM a))
    ·cases h
   ·cases h
  simp[aDn] at h;refine⟨λp=>⟨?_,e⟩,λi hi=> ?_⟩
  ·have:=h.1;simpa[p] using this
  have b:=h.2 i hi;unfold mN;split at b
  ·rename_i o a;simp only[a];split at b
   ·rename_i c;simp only[c];split at b
    ·rename_i v H' f;exact⟨v,H',ti (aam call) f,D8 fuel _ _ _ b (bU i o v a)⟩
    ·cases b
   ·rename_i c;simp only[c];exact D8 fuel _ _ _ b (bU i o hM a)
   ·cases b
  ·cases b
def N2(c){all}:∀l α H r,iS E c all l α H=some r->∀d,(∀o∈l,o.dst≠some d)->r.1 d=α d
 |[],α,H,r,h,d,a=>by simp[iS] at h;rw[<-h]
 |o::l,α,H,r,h,d,a=>by
  simp[iS] at h;have f:o.dst≠some d:=a o (as1 ..);have off:∀v,put α o.dst v d=α d:=Yl f;have e:∀o∈l,o.dst≠some d:=λo g=>a o (Η _ g)
  cases hw:jG all o.guard α with
  |none=>simp[hw,an] at h
  |some b=>
   simp[hw,an] at h
   cases b with
   |true=>
    simp[cY] at h
    cases hs:bz E c o.op (ev α) H with
    |none=>simp[hs] at h
    |some p=>simp[hs] at h;rw[N2 c l _ _ _ h d e,off]
   |false=>simp[cY] at h;rw[N2 c l _ _ _ h d e,off]
def ahQ{g:az}(h:BU E ops α H=some (g,H')):tH E call ops (λe c=>e=g/\c=H') ops.size (Array.replicate ops.size false) α H:=by
 unfold BU at h;split at h
 ·rename_i r m;unfold cY at h;split at h
  ·rename_i hb;cases h;refine UD (λe c l=> ?_) _ _ _ _ (D8 (dJ:=α) ops.size _ α H hb λ_ _=>rfl);obtain⟨a,p⟩:=l;simp only[Yc,ap2,aDn,aDs] at a;refine⟨funext λd=> ?_,?_⟩
   ·by_cases b:∀o∈ops.toList,o.dst≠some d
    ·rw[p d b];exact((N2 EP ops.toList α H _ m) d b).symm
    ·have⟨o,k⟩:=Classical.not_forall.1 b;have⟨n,j⟩:=Classical.not_imp.1 k;have:=a.1.1 o n;rw[Classical.not_not.1 j] at this;exact zI _ _ this
   ·have i:=a.1.2;have f:=VO _ _ a.2;cases c;cases H';simp only at i f;rw[i,f]
  ·cases h
 ·cases h
def aex(x:dN E.P call)(hm:E.P.follows .mixedOrders=true){id}{b}{q}{Q}(r:nF E n (.region id ops b)=true)(t:aW E.P B W0 H σ w)(s:jA σ n ds a α)
  (h:cY (b&&E.dyn id) (cY (E.any ops) (BU E ops α H) (eP E call ops 0 ops.toList [] [] α H)) (iS E call ops ops.toList α H)=some (q,H')) (l:∀a' w',vl E.P B W0 σ n ds q H' a' w'->Q .normal a' w'):(Code.region id ops b).wp E.P Q a w:=by
 simp only[nF,ap2] at r;have g:∀o∈ops.toList,∀d,o.dst=some d->d<n:=by intro o c d K;have:=aDW.1 r.1 o (by simpa using c);simpa[K] using this
 cases b with
 |false=>simp[cY] at h;exact wp_region_list (MU x ops.toList α H σ a w h t s g l)
 |true=>
  by_cases D:E.dyn id=true
  ·refine wp_region_any hm ?_;simp[D,cY] at h;by_cases z:E.any ops=true
   ·rw[ν z] at h;refine G2 x (λi o c=>g o (by simpa using aEf c)) _ _ α H σ a _ (ahQ (call:=call) h) t.drew s ?_;rintro f e a2 v j u k p ⟨rfl,rfl⟩;exact l a2 v ⟨j,u,k,p⟩
   rw[κ z] at h
   have C:AY E ops=true\/∃i0,pY E ops i0=true:=by
    have:=r.2;simp[D,Bool.eq_false_iff.2 z,aFK] at this;rcases this with h|⟨i,_,h⟩
    ·exact .inl h
    ·exact .inr ⟨i,h⟩
   rcases C with m|⟨i0,m⟩
   rotate_left
   ·exact ahP x m (λi o c=>g o (by simpa using aEf c)) h t.drew s λG a' w' I F J=>l a' w' ⟨G,I,F,J⟩
   have y:=ak2 (call:=call) (ops:=ops) (Q:=λf e=>f=q/\e=H') m h ⟨rfl,rfl⟩;refine G2 x (λi o c=>g o (by simpa using aEf c)) _ _ α H σ a _ y t.drew s ?_;rintro f e a2 v j u k p ⟨rfl,rfl⟩;exact l a2 v ⟨j,u,k,p⟩
  ·refine wp_region_any hm ?_;have A:E.dyn id=false:=by simpa using D
   simp[A,cY] at h r;have m:HJ E ops=true:=aed (by simpa using r.2);have y:=Ms (call:=call) (ops:=ops) (Q:=λf e=>f=q/\e=H') ops.toList 0 (Array.replicate ops.size false) α H q H' ai (by simpa[HJ] using m) h ⟨rfl,rfl⟩;rw[aDv] at y;refine G2 x (λi o c=>g o (by simpa using aEf c)) _ _ α H σ a _ y t.drew s ?_;rintro f e a2 v j u k p ⟨rfl,rfl⟩;exact l a2 v ⟨j,u,k,p⟩
def Cj(loop:(az->ab->Option dZ)->az->ab->Option dZ):Prop:=∀g α H r,loop g α H=some r->∃k,h_ g k α H=some r
def UE{c:Code}{Q d}(h:∀e a w,Q e a w->d e a w):∀k a w,Code.rounds P c Q k a w->Code.rounds P c d k a w
 |0,_,_,b=>b
 |k+1,a,w,b=>by
  rw[aFu] at b⊢;refine aFs b ?_;intro e a' w' f
  cases e with
  |normal=>exact UE h k a' w' f
  |_=>exact h _ _ _ f
def uI(C:dN E.P call)(hm:E.P.follows .mixedOrders=true){loop:(az->ab->Option dZ)->az->ab->Option dZ}(u:Cj loop):∀c α H σ a w ex g H',
  nF E n c=true->aP E call loop c α H=some (ex,g,H')->aW E.P B W0 H σ w->jA σ n ds a α->
  c.wp E.P (λe a' w'=>e=ex.Iu/\vl E.P B W0 σ n ds g H' a' w') a w
 | .skip,α,H,σ,a,w,ex,g,H',_,h,d,b=>by simp[aP] at h;obtain⟨rfl,rfl,rfl⟩:=h;exact wp_skip ⟨rfl,σ,Ext.refl _ _,d,b⟩
 | .region id ops D,α,H,σ,a,w,ex,g,H',f,h,d,b=>by
  simp[aP] at h
  cases he:cY (D&&E.dyn id) (cY (E.any ops) (BU E ops α H) (eP E call ops 0 ops.toList [] [] α H)) (iS E call ops ops.toList α H) with
  |none=>simp[he,an] at h
  |some p=>obtain⟨o,q⟩:=p;simp[he,an] at h;obtain⟨rfl,rfl,rfl⟩:=h;exact aex C hm f d b he λa' w' l=>⟨rfl,l⟩
 | .seq x y,α,H,σ,a,w,ex,g,H',f,h,d,b=>by
  simp[nF] at f;simp[aP] at h
  cases hx:aP E call loop x α H with
  |none=>simp[hx,an] at h
  |some r=>
   obtain⟨m,o,q⟩:=r;simp[hx,an] at h;have ih:=uI C hm u x α H σ a w m o q f.1 hx d b;refine wp_seq (aFs ih ?_);rintro e a1 w1 ⟨rfl,t,z,s,A⟩
   cases m with
   |normal=>simp[andThen] at h;refine aFs (uI C hm u y o q t a1 w1 ex g H' f.2 h s A) ?_;rintro e a2 J ⟨rfl,l⟩;exact⟨rfl,l.trans z⟩
   |exit id=>simp[andThen] at h;obtain⟨rfl,rfl,rfl⟩:=h;exact⟨rfl,t,z,s,A⟩
   |ret=>simp[andThen] at h;obtain⟨rfl,rfl,rfl⟩:=h;exact⟨rfl,t,z,s,A⟩
 | .cond c x y,α,H,σ,a,w,ex,g,H',f,h,d,b=>by
  simp[nF] at f;simp[aP,CE] at h;split at h
  ·rename_i v I;have F:=b.eval c;rw[I] at F;simp[ah] at F;refine wp_cond F ?_
   cases v with
   |true=>exact uI C hm u x α H σ a w ex g H' f.1 (by simpa[cY] using h) d b
   |false=>exact uI C hm u y α H σ a w ex g H' f.2 (by simpa[cY] using h) d b
  ·cases h
 | .block id c,α,H,σ,a,w,ex,g,H',f,h,d,b=>by
  simp[nF] at f;simp[aP] at h
  cases hx:aP E call loop c α H with
  |none=>simp[hx,an] at h
  |some r=>
   obtain⟨m,o,q⟩:=r;simp[hx,an] at h;refine wp_block (aFs (uI C hm u c α H σ a w m o q f hx d b) ?_);rintro e a1 w1 ⟨rfl,l⟩
   cases m with
   |normal=>simp[tw] at h;obtain⟨rfl,rfl,rfl⟩:=h;exact⟨rfl,l⟩
   |exit j=>
    simp[tw] at h;simp[Ex.Iu,Exit.inBlock];by_cases G:j=id
    ·rw[ν G] at h⊢;simp at h;obtain⟨rfl,rfl,rfl⟩:=h;exact⟨rfl,l⟩
    ·rw[κ G] at h⊢;simp at h;obtain⟨rfl,rfl,rfl⟩:=h;exact⟨rfl,l⟩
   |ret=>simp[tw] at h;obtain⟨rfl,rfl,rfl⟩:=h;exact⟨rfl,l⟩
 | .loop c,α,H,σ,a,w,ex,g,H',f,h,d,b=>by
  simp[nF] at f;simp[aP] at h;obtain⟨k,i⟩:=u _ _ _ _ h;refine wp_loop_rounds k ?_;clear h
  induction k generalizing α H σ a w with
  |zero=>simp[h_] at i
  |succ k ih=>
   simp[h_] at i;rw[aFu]
   cases hx:aP E call loop c α H with
   |none=>simp[hx,an] at i
   |some r=>
    obtain⟨m,o,q⟩:=r;simp[hx,an] at i;refine aFs (uI C hm u c α H σ a w m o q f hx d b) ?_;rintro e a1 w1 ⟨rfl,t,z,s,A⟩
    cases m with
    |normal=>simp[andThen] at i;have:=ih o q t a1 w1 s A i;simp[Ex.Iu,Exit.then];refine UE ?_ k a1 w1 this;rintro e a2 J ⟨rfl,l⟩;exact⟨rfl,l.trans z⟩
    |exit id=>simp[andThen] at i;obtain⟨rfl,rfl,rfl⟩:=i;exact⟨rfl,t,z,s,A⟩
    |ret=>simp[andThen] at i;obtain⟨rfl,rfl,rfl⟩:=i;exact⟨rfl,t,z,s,A⟩
 | .exit id,α,H,σ,a,w,ex,g,H',_,h,d,b=>by simp[aP] at h;obtain⟨rfl,rfl,rfl⟩:=h;exact wp_exit ⟨rfl,σ,Ext.refl _ _,d,b⟩
 | .ret,α,H,σ,a,w,ex,g,H',_,h,d,b=>by simp[aP] at h;obtain⟨rfl,rfl,rfl⟩:=h;exact wp_ret ⟨rfl,σ,Ext.refl _ _,d,b⟩
 | .rangeFunc _ _ _ _,_,_,_,_,_,_,_,_,_,h,_,_=>by simp[aP] at h
 | .scope _,_,_,_,_,_,_,_,_,_,h,_,_=>by simp[aP] at h
 | .label _,_,_,_,_,_,_,_,_,_,h,_,_=>by simp[aP] at h
 | .goto _,_,_,_,_,_,_,_,_,_,h,_,_=>by simp[aP] at h
 | .refuse _,_,_,_,_,_,_,_,_,_,h,_,_=>by simp[aP] at h
def afJ{c}{o d:Oper}(h:Aw c=some (o,d)):∃id ops t f first cap cl,c=.region id ops false/\ops.toList=[o,d]/\o.op=.makeFunc f first cap/\o.dst=some t/\o.guard=none/\d.op=.defer cl/\d.guard=none/\d.dst=none/\cl.callee=.value (.tmp t)/\cl.args.toList=[]:=by
 unfold Aw at h;split at h
 ·rename_i id ops draw;split at h
  ·rename_i o1 d1 m;split at h
   ·rename_i f first cap t cl b n g k a j
    split at h
    ·rename_i t' e;split at h
     ·rename_i l;obtain⟨rfl,i⟩:=l;cases h;exact⟨id,ops,t,f,first,cap,cl,rfl,m,b,n,g,k,a,j,e,by simpa using i⟩
     ·cases h
    ·cases h
   ·cases h
  ·cases h
 ·cases h
def Iv(P:Program)(σ:St)(d:Deferred)(v:AV):Prop:=∃u,ah σ v u/\∀w,(Deferred.ofValue u #[]).run P w=.ok d w
def Iv.mono{aR}{d:Deferred}{v}(a:σ.le aR)(h:Iv P σ d v):Iv P aR d v:=by obtain⟨u,r,e⟩:=h;exact⟨u,r.mono a,e⟩
def agL(J:dN E.P call)(hm:E.P.follows .mixedOrders=true){loop:(az->ab->Option dZ)->az->ab->Option dZ}(S:Cj loop):∀c α H σ a w ex g H' v,
  nF E n c=true->iB E call loop c α H=some ((ex,g,H'),v)->aW E.P B W0 H σ w->jA σ n [] a α->
  c.wp E.P (λe a' w'=>e=ex.Iu/\∃aR d,Ext B σ aR/\aW E.P B W0 H' aR w'/\jA aR n [d] a' g/\Iv E.P aR d v) a w:=by
 intro c
 induction c with
 |seq x y _ F=>
  intro α H σ a w ex g H' v i h T s;simp[nF] at i;simp[iB] at h;split at h
  ·rename_i o L Rr;obtain⟨id,ops,t,f,first,cap,cl,rfl,D,e1,R,e3,U,W,e6,Y,e8⟩:=afJ Rr
   cases dg:bz E call o.op (ev α) H with
   |none=>simp[dg,an] at h
   |some r=>
    obtain⟨I,j⟩:=r;simp[dg,an] at h
    cases hx:aP E call loop y (put α o.dst I) j with
    |none=>simp[hx] at h
    |some q=>
     simp[hx] at h;obtain⟨rfl,rfl⟩:=h;have O:∀o∈ops.toList,∀d,o.dst=some d->d<n:=by intro o ho d mh;have:=i.1;simp only[nF,ap2] at this;have:=aDW.1 this.1 o (by simpa using ho);simpa[mh] using this
     refine wp_seq (wp_region_list ?_);rw[D];have w1:Region.wanted o (yielded ops a.tmps)=true:=by simp[Region.wanted,e3]
     simp only[wpList,w1,aDp];refine .inl (BE (DX T J o (ev α) a.eval (λx _=>s.eval x) dg) ?_);rintro u w' ⟨l,z,V,p⟩;have k:=(s.mono z.le).put (O o (by rw[D];simp)) p;have M:Region.wanted L (yielded ops (a.put o.dst u).tmps)=true:=by simp[Region.wanted,W]
     simp only[M,aDp]
     have A:(a.put o.dst u).eval (.tmp t)=u:=by
      have G:t<n:=O o (by rw[D];simp) t R;have:t<a.tmps.size:=by rw[s.size];exact G
      simp[Act.eval,Act.put,R,this]
     obtain⟨us,b,hu⟩:∃us b:List Value,u=.func f us.toArray b.toArray:=by
      have:I=.fn f (first.toList.map (ev α)) (cap.toList.map (ev α)):=by rw[e1] at dg;simp only[bz,lF,an,Ζ,aDS] at dg;exact dg.1.symm
      subst this;simp only[ah] at p;obtain⟨us,b,e,_⟩:=p;exact⟨us,b,e⟩
     subst hu
     have bE:(execOp (a.put o.dst (.func f us.toArray b.toArray)).eval L).run E.P w'=.ok (.defer {target:=.fn f b.toArray,args:=us.toArray++#[]}) w':=by
      obtain⟨dst,op,ty,pos,after,guard⟩:=L;simp only at U;subst U;have ha:cl.args.map (a.put o.dst (.func f us.toArray b.toArray)).eval=#[]:=by apply aE7;simp[e8]
      simp only[execOp,resolve,Y,ha,A,Deferred.ofValue,Τ,atG,Γ]
     refine .inl ?_;unfold Oper.wp;rw[bE,Oper.upon_defer];simp only[e6,Act.put,Exit.then]
     have bq:jA l n [{target:=.fn f b.toArray,args:=us.toArray++#[]}] {(a.put o.dst (.func f us.toArray b.toArray)) with defers:={target:=.fn f b.toArray,args:=us.toArray++#[]}::(a.put o.dst (.func f us.toArray b.toArray)).defers} (put α o.dst I):=
      ⟨k.size,k.oT,by rw[k.defers]⟩
     refine aFs (uI (ds:=[{target:=.fn f b.toArray,args:=us.toArray++#[]}]) J hm S y _ j l _ w' ex g H' i.2 hx V bq) ?_;rintro e a2 M ⟨rfl,C,m,N,K⟩;refine⟨rfl,C,_,z.trans m,N,K,_,p.mono m.le,λw=> ?_⟩;simp[Deferred.ofValue]
  ·cases hx:aP E call loop x α H with
   |none=>simp[hx,an] at h
   |some r=>
    obtain⟨X,Q,j⟩:=r;simp[hx,an] at h
    cases X with
    |normal=>simp only at h;refine wp_seq (aFs (uI J hm S x α H σ a w .normal Q j i.1 hx T s) ?_);rintro e a1 w1 ⟨rfl,l,z,Z,k⟩;refine aFs (F Q j l a1 w1 ex g H' v i.2 h Z k) ?_;rintro e a2 M ⟨rfl,C,d,m,N,K,q4⟩;exact⟨rfl,C,d,z.trans m,N,K,q4⟩
    |exit id=>simp at h
    |ret=>simp at h
 |_=>intro α H σ a w ex g H' v i h;simp[iB] at h
end
section
variable {P:Program} {B:Nat->Prop} {W0:World} {H H':ab} {σ aR:St} {w w':World} {n:Nat} {a:Act} {α:az} {E:Env} {call:ck} {ds:List Deferred}
def Ja(a:Act):ResultVar->Sem Value
 | .tmp t=>pure (a.tmps.getD t undef)
 | .cell x t=>do loadVar t (<-asAddr (a.tmps.getD x undef))
def Mu(fn:Func)(a:Act):results fn a.tmps=(do let b <-fn.results.mapM (Ja a);pure (if h:b.size=1 then b[0] else .tuple b)):=by unfold results;congr 1
def DZ(m:aW P B W0 H σ w)(g:jA σ n ds a α):∀c f,kT P α H c=some f->
  ∃us:List Value,(c.mapM (Ja a):Sem (List Value)).run P w=.ok us w/\aw σ f us
 |[],f,h=>by simp[kT] at h;subst h;exact⟨[],ai,by simp[aw]⟩
 | .tmp t::c,f,h=>by
  simp[kT] at h
  cases hv:kT P α H c with
  |none=>simp[hv,an] at h
  |some k=>simp[hv,an] at h;subst h;obtain⟨us,j,i⟩:=DZ m g c k hv;refine⟨a.tmps.getD t undef::us,?_,aw.eC.2 ⟨_,_,rfl,g.oT t,i⟩⟩;simp[List.mapM_cons,Ja,Τ,atG,Γ,j]
 | .cell x t::c,f,h=>by
  simp[kT] at h;have o:=g.oT x
  cases hp:α x with
  |ptr id off=>
   simp[hp] at h o
   cases hl:kH P H t (.ptr id off) with
   |none=>simp[hl,an] at h
   |some v=>
    simp[hl,an] at h
    cases hv:kT P α H c with
    |none=>simp[hv] at h
    |some k=>
     simp[hv] at h;subst h;obtain⟨us,j,i⟩:=DZ m g c k hv;obtain⟨u,d,q⟩:=VG m o hl;have p:=o;simp[ah] at p;obtain⟨b,hb,e⟩:=p;rw[e] at d
     have l:(loadVar t ⟨b,off,none⟩).run P w=.ok u w:=by
      simp[Instr.loadAt,Instr.sureAddr,Τ,atG,Γ] at d
      cases Dq:(loadVar t ⟨b,off,none⟩).run P w with
      |ok u' w'=>rw[Dq] at d;simp[Γ,Result.ok.injEq,Next.value.injEq] at d;obtain⟨rfl,rfl⟩:=d;rfl
      |halt x' w'=>rw[Dq] at d;simp at d
     refine⟨u::us,?_,aw.eC.2 ⟨_,_,rfl,q,i⟩⟩;simp[List.mapM_cons,Ja,Τ,atG,Γ,e,asAddr,l,j]
  |_=>simp[hp,an] at h
def Mv{a}{us:List Value}(h:aw σ a us):ah σ (qz a) (if h:us.toArray.size=1 then us.toArray[0] else .tuple us.toArray):=by
 cases a with
 |nil=>rw[aw.pO] at h;subst h;simp[qz,ah,aw]
 |cons v a=>
  cases a with
  |nil=>rw[aw.eC] at h;obtain⟨u,dW,rfl,r,q⟩:=h;rw[aw.pO] at q;subst q;simpa[qz] using r
  |cons v2 a=>have b:=h.length;rw[dif_neg (by simp;simp at b;omega)];simp only[qz,ah];exact⟨us,rfl,h⟩
structure ia(E:Env):Prop where
 mixed:E.P.follows .mixedOrders=true
 pZ:∀f,E.G f=true->∃fn c,E.P.funcs[f]? =some fn/\fn.body=some c/\(fn.name== "runtime.NumGoroutine")=false/\nF E fn.ntmps c=true
 ext:dN E.P E.ext
def Nk{args:List AV}{us:List Value}(h:aw σ args us)(hn:args.length<=n):jA σ n [] {tmps:=us.toArray++Array.replicate (n-us.toArray.size) undef,defers:=[]} (jy args):=by
 have hl:=h.length;refine⟨aX,λi=> ?_,rfl⟩;simp only[jy];by_cases hi:i<args.length
 ·have b:args[i]? =some args[i]:=Φ hi;obtain⟨u,d,c⟩:=h.get b;rw[b];have:(us.toArray++Array.replicate (n-us.toArray.size) undef)[i]? =some u:=by rw[aDQ aX];simpa using d
  simp only[aET,this];simpa using c
 ·rw[aDq aa]
  have:((us.toArray++Array.replicate (n-us.toArray.size) undef)[i]?).getD undef=undef:=by
   rw[Array.getElem?_append_right aX]
   cases hq:(Array.replicate (n-us.toArray.size) undef)[i-us.toArray.size]? with
   |none=>rfl
   |some q=>have:=Δ.1 hq;obtain⟨h1,a⟩:=this;simp at a;simp[<-a]
  simp only[aET,this];exact D3
def aeW(p:ia E){f}(C:E.G f=true)(I:dN E.P call){loop:(az->ab->Option dZ)->az->ab->Option dZ}(x:Cj loop){args}{v}
  (h:sH E call loop f args H=some (v,H')):kG E.P f/\Is E.P f args H v H':=by
 obtain⟨fn,c,l,i,z,s⟩:=p.pZ f C;refine⟨⟨fn,l,z,by simp[i]⟩,?_⟩;simp only[sH,l,i] at h;split at h
 ·rename_i D;intro B W0 σ w us A y
  cases hx:aP E call loop c (jy args) H with
  |none=>simp[hx,an] at h
  |some r=>
   obtain⟨ex,d,g⟩:=r;simp[hx,an] at h;refine calls_of_wp l i (aFs (uI I p.mixed x c (jy args) H σ _ w ex d g s hx A (Nk y D)) ?_);rintro e a1 w1 ⟨rfl,k,q,j,n⟩;have fin:∀{b:List AV},kT E.P d g fn.results.toList=some b->∃u,(results fn a1.tmps).run E.P w1=.ok u w1/\ah k (qz b) u:=by intro b a;obtain⟨SF,F,t⟩:=DZ j n _ _ a;refine⟨_,?_,Mv t⟩;rw[Mu];simp[aE0,Τ,Sem.run_map,F,Γ,atG]
   cases ex with
   |exit id=>simp[finish] at h
   |normal=>
    simp[finish] at h
    cases a:kT E.P d g fn.results.toList with
    |none=>simp[a,an] at h
    |some b=>simp[a,an] at h;obtain⟨rfl,rfl⟩:=h;obtain⟨u,m,o⟩:=fin a;exact⟨n.defers,u,m,u,rfl,k,q,j,o⟩
   |ret=>
    simp[finish] at h
    cases a:kT E.P d g fn.results.toList with
    |none=>simp[a,an] at h
    |some b=>simp[a,an] at h;obtain⟨rfl,rfl⟩:=h;obtain⟨u,m,o⟩:=fin a;exact⟨n.defers,u,m,u,rfl,k,q,j,o⟩
 ·cases h
def N3(P:Program)(f:FuncId)(args:List AV)(H:ab)(v:AV)(H':ab):Prop:=
 ∀B W0 σ w us,aW P B W0 H σ w->aw σ args us->CallsD P f us.toArray .returning w (λe a w'=>a=.returning/\∃u,e=.returned u/\kJ P B W0 σ v H' u w')
def aey(p:ia E){f}(C:E.G f=true)(I:dN E.P call){loop:(az->ab->Option dZ)->az->ab->Option dZ}(x:Cj loop){args}{v}
  (h:sH E call loop f args H=some (v,H')):kG E.P f/\N3 E.P f args H v H':=by
 obtain⟨fn,c,l,i,z,s⟩:=p.pZ f C;refine⟨⟨fn,l,z,by simp[i]⟩,?_⟩;simp only[sH,l,i] at h;split at h
 ·rename_i D;intro B W0 σ w us A y
  cases hx:aP E call loop c (jy args) H with
  |none=>simp[hx,an] at h
  |some r=>
   obtain⟨ex,d,g⟩:=r;simp[hx,an] at h;refine callsD_of_wp (R:=λe w'=>∃u,e=.returned u/\kJ E.P B W0 σ v H' u w') l i (aFs (uI I p.mixed x c (jy args) H σ _ w ex d g s hx A (Nk y D)) ?_);rintro e a1 w1 ⟨rfl,k,q,j,n⟩;have fin:∀{b:List AV},kT E.P d g fn.results.toList=some b->∃u,(results fn a1.tmps).run E.P w1=.ok u w1/\ah k (qz b) u:=by intro b a;obtain⟨SF,F,t⟩:=DZ j n _ _ a;refine⟨_,?_,Mv t⟩;rw[Mu];simp[aE0,Τ,Sem.run_map,F,Γ,atG]
   cases ex with
   |exit id=>simp[finish] at h
   |normal=>
    simp[finish] at h
    cases a:kT E.P d g fn.results.toList with
    |none=>simp[a,an] at h
    |some b=>simp[a,an] at h;obtain⟨rfl,rfl⟩:=h;obtain⟨u,m,o⟩:=fin a;exact⟨n.defers,u,m,u,rfl,k,q,j,o⟩
   |ret=>
    simp[finish] at h
    cases a:kT E.P d g fn.results.toList with
    |none=>simp[a,an] at h
    |some b=>simp[a,an] at h;obtain⟨rfl,rfl⟩:=h;obtain⟨u,m,o⟩:=fin a;exact⟨n.defers,u,m,u,rfl,k,q,j,o⟩
 ·cases h
def aez(x:ia E){f}(S:E.G f=true)(X:dN E.P call)(o:∀g args H v H',E.G g=true->E.df g=false->call g args H=some (v,H')->kG E.P g/\N3 E.P g args H v H')
  {loop:(az->ab->Option dZ)->az->ab->Option dZ} (M:Cj loop) {args} {v}
  (h:Ag E call loop f args H=some (v,H')):kG E.P f/\Is E.P f args H v H':=by
 obtain⟨fn,c,m,k,O,K⟩:=x.pZ f S;refine⟨⟨fn,m,O,by simp[k]⟩,?_⟩;simp only[Ag,m,k] at h;split at h
 ·rename_i T;intro B W0 σ w us R N
  cases hx:iB E call loop c (jy args) H with
  |none=>simp[hx,an] at h
  |some r=>
   obtain⟨⟨ex,l,n⟩,j⟩:=r;simp[hx,an] at h;refine calls_of_wp_defers m k (aFs (agL X x.mixed M c (jy args) H σ _ w ex l n j K hx R (Nk N T)) ?_);rintro e a1 w1 ⟨rfl,J,d,Q,I,y,u0,s,C⟩
   have body:∀{g:FuncId} {first cap:List AV},target j=some (g,first,cap)->(if E.G g=true/\E.df g=false then an (call g (first++cap) n) λq=>finish E.P fn.results.toList (.ret,l,q.2) else none)=some (v,H')->
     Leaves E.P fn a1.tmps (λe w'=>∃u,e=.returned u/\kJ E.P B W0 σ v H' u w') a1.defers .returning w1:=by
    intro g first cap a h
    split at h
    ·rename_i hg
     cases hq:call g (first++cap) n with
     |none=>simp[hq,an] at h
     |some q=>
      obtain⟨vq,V⟩:=q;simp[hq,an] at h;obtain⟨b,i,rfl,F,U⟩:=Uy a s;have z:=C w1;simp[Deferred.ofValue,atG,Result.ok.injEq] at z;subst z;obtain⟨k1,k2⟩:=o g _ _ _ _ hg.1 hg.2 hq;rw[y.defers];refine leaves_cons (f:=g) (args:=(b++i).toArray) ai ?_ ?_
      ·simp only[invoke,Um k1];congr 2;apply aE7;simp
      ·refine(k2 B W0 J w1 (b++i) I (F.append U)).mono ?_;rintro e u' w2 ⟨rfl,u,rfl,D,t,A,q3⟩;simp[settle];simp[finish] at h
       cases hv:kT E.P l V fn.results.toList with
       |none=>simp[hv,an] at h
       |some vs=>simp[hv,an] at h;obtain⟨rfl,rfl⟩:=h;obtain⟨SF,W,L⟩:=DZ A (y.mono t.le) _ _ hv;refine⟨_,?_,_,rfl,D,Q.trans t,A,Mv L⟩;rw[Mu];simp[aE0,Τ,Sem.run_map,W,Γ,atG]
    ·cases h
   cases ex with
   |exit id=>simp at h
   |normal=>
    cases a:target j with
    |none=>simp[a] at h
    |some p=>obtain⟨g,first,cap⟩:=p;simp only[a] at h;exact body a h
   |ret=>
    cases a:target j with
    |none=>simp[a] at h
    |some p=>obtain⟨g,first,cap⟩:=p;simp only[a] at h;exact body a h
 ·cases h
def U_(a:ia E):∀n,dN E.P (eI E n)/\∀g args H v H',E.G g=true->E.df g=false->eI E n g args H=some (v,H')->kG E.P g/\N3 E.P g args H v H'
 |0=>⟨λf args H v H' h=>by simp[eI] at h,λf args H v H' _ _ h=>by simp[eI] at h⟩
 |n+1=>by
  obtain⟨c,e⟩:=U_ a n;have d:Cj (λg=>h_ g n):=λg α H r i=>⟨n,i⟩;refine⟨λf args H v H' h=> ?_,λf args H v H' b j h=> ?_⟩
  ·simp[eI] at h;split at h
   ·rename_i b;split at h
    ·exact aez a b c e d h
    ·exact aeW a b c d h
   ·exact a.ext f args H v H' h
  ·simp[eI,b,j] at h;exact aey a b c d h
def UF(a:ia E)(n):dN E.P (eI E n):=(U_ a n).1
def Ho{c e:ck}(h:pA c e){all}:∀l α H r,iS E c all l α H=some r->iS E e all l α H=some r
 |[],_,_,_,d=>d
 |o::l,α,H,r,d=>by
  simp[iS] at d⊢;obtain⟨b,g,a⟩:=iR d;simp[g,an]
  cases b with
  |true=>simp[cY] at a⊢;obtain⟨p,i,f⟩:=iR a;simp[ti h i];exact Ho h l _ _ _ f
  |false=>simp[cY] at a⊢;exact Ho h l _ _ _ a
def Mx{c b:ck}(h:pA c b){o}{α}{v}{H}(a:reads E c o α v H=true):reads E b o α v H=true:=by
 unfold reads at*
 split at a
 ·rename_i u H' d;rw[ti h d];exact a
 ·cases a
def xM{c m:ck}(h:pA c m){all}:∀l k i j α H r,eP E c all k l i j α H=some r->eP E m all k l i j α H=some r
 |[],_,_,_,_,_,_,f=>f
 |o::l,k,i,j,α,H,r,f=>by
  simp[eP] at f⊢;obtain⟨b,n,e⟩:=iR f;simp[n,an]
  cases b with
  |true=>
   simp[cY] at e⊢;obtain⟨p,q,a⟩:=iR e;simp[ti h q]
   cases hk:bO E o.op with
   |ins=>simp[hk] at a⊢;exact xM h l _ _ _ _ _ _ a
   |rd=>
    simp only[hk] at a⊢;split at a
    ·rename_i d;rw[ν]
     ·exact xM h l _ _ _ _ _ _ a
     ·rw[aDn] at d⊢;intro w g;have:=d w g;simp at this⊢;exact this.imp id (Mx h)
    ·cases a
   |wr=>
    simp only[hk] at a⊢;split at a
    ·rename_i d;rw[ν]
     ·exact xM h l _ _ _ _ _ _ a
     ·rw[aDn] at d⊢;intro w g;have:=d w g;simp at this⊢;exact this.imp id (Mx h)
    ·cases a
  |false=>simp[cY] at e⊢;exact xM h l _ _ _ _ _ _ e
def Mg{g a:az->ab->Option dZ}(h:Dn g a){r c}(b:andThen r g=some c):andThen r a=some c:=by
 obtain⟨ex,α,H⟩:=r
 cases ex with
 |normal=>exact h _ _ _ b
 |_=>exact b
def pL{c g:ck}(h:pA c g){l k}(e:Dp l k):∀x,Dn (aP E c l x) (aP E g k x)
 | .skip,_,_,_,a=>a
 | .region id ops d,α,H,r,a=>by
  simp[aP] at a⊢;obtain⟨p,b,f⟩:=iR a
  have m:cY (d&&E.dyn id) (cY (E.any ops) (BU E ops α H) (eP E g ops 0 ops.toList [] [] α H)) (iS E g ops ops.toList α H)=some p:=by
   unfold cY at b⊢;split at b
   ·rename_i i;rw[ν i];split at b
    ·rename_i j;rw[ν j];exact b
    ·rename_i j;rw[κ j];exact xM h _ _ _ _ _ _ _ b
   ·rename_i i;rw[κ i];exact Ho h _ _ _ _ b
  simp only[m,an];exact f
 | .seq x y,α,H,r,a=>by simp[aP] at a⊢;obtain⟨p,b,f⟩:=iR a;simp[pL h e x _ _ _ b,an];exact Mg (pL h e y) f
 | .cond cd x y,α,H,r,a=>by
  simp[aP,CE] at a⊢;split at a
  ·rename_i v hv
   cases v with
   |true=>simp[cY] at a⊢;exact pL h e x _ _ _ a
   |false=>simp[cY] at a⊢;exact pL h e y _ _ _ a
  ·cases a
 | .block id x,α,H,r,a=>by simp[aP] at a⊢;obtain⟨p,b,f⟩:=iR a;simp only[pL h e x _ _ _ b,an];exact f
 | .loop x,α,H,r,a=>by simp[aP] at a⊢;exact e _ _ (pL h e x) _ _ _ a
 | .exit id,_,_,_,a=>a
 | .ret,_,_,_,a=>a
 | .rangeFunc _ _ _ _,_,_,_,a=>by simp[aP] at a
 | .scope _,_,_,_,a=>by simp[aP] at a
 | .label _,_,_,_,a=>by simp[aP] at a
 | .goto _,_,_,_,a=>by simp[aP] at a
 | .refuse _,_,_,_,a=>by simp[aP] at a
def U'{c d:ck}(h:pA c d){l b}(e:Dp l b){f}{args}{r}(a:sH E c l f args H=some r):
  sH E d b f args H=some r:=by
 unfold sH at*
 split at a
 ·split at a
  ·split at a
   ·rename_i j;rw[ν j];obtain⟨p,i,g⟩:=iR a;rw[pL h e _ _ _ _ i];exact g
   ·cases a
  ·cases a
 ·cases a
def Nl{c k:ck}(h:pA c k){l j}(i:Dp l j):∀x α H r,iB E c l x α H=some r->iB E k j x α H=some r:=by
 intro x
 induction x with
 |seq a b _ ih=>
  intro α H r e;simp[iB] at e⊢;split at e
  ·rename_i o d hd;obtain⟨p,g,f⟩:=iR e;obtain⟨q,n,m⟩:=iR f;simp only[ti h g,an,pL h i _ _ _ _ n];exact m
  ·obtain⟨p,g,f⟩:=iR e;simp[pL h i _ _ _ _ g,an];split at f
   ·exact ih _ _ _ f
   ·cases f
 |_=>intro α H r e;simp[iB] at e
def aeX{c e:ck}(h:pA c e){l d}(g:Dp l d){f}{args}{r}(a:Ag E c l f args H=some r):
  Ag E e d f args H=some r:=by
 unfold Ag at*
 split at a
 ·split at a
  ·split at a
   ·rename_i m;rw[ν m];obtain⟨p,j,b⟩:=iR a;simp[Nl h g _ _ _ _ j,an];split at b
    ·cases b
    ·split at b
     ·rename_i hg;rw[ν hg];obtain⟨q,k,i⟩:=iR b;simp[h _ _ _ _ k];exact i
     ·cases b
    ·cases b
   ·cases a
  ·cases a
 ·cases a
def xJ{g c:az->ab->Option dZ}(h:Dn g c):∀k b,k<=b->Dn (h_ g k) (h_ c b)
 |0,_,_,_,_,_,a=>by simp[h_] at a
 |k+1,0,d,_,_,_,_=>by omega
 |k+1,b+1,d,α,H,r,a=>by simp[h_] at a⊢;obtain⟨p,f,e⟩:=iR a;simp[h _ _ _ f,an];exact Mg (xJ h k b aa) e
def D5:∀n m,n<=m->pA (eI E n) (eI E m)
 |0,_,_,_,_,_,_,a=>by simp[eI] at a
 |n+1,0,e,_,_,_,_,_=>by omega
 |n+1,m+1,e,f,args,H,r,a=>by
  simp[eI] at a⊢;split
  ·rename_i c;rw[ν c] at a;split
   ·rename_i b;rw[ν b] at a;exact aeX (D5 n m aa) (λg d hg=>xJ hg n m aa) a
   ·rename_i b;rw[κ b] at a;exact U' (D5 n m aa) (λg d hg=>xJ hg n m aa) a
  ·rename_i c;rw[κ c] at a;exact a
open Classical in
noncomputable def run(E:Env):ck:=λf args H=>if h:∃r n,eI E n f args H=some r then some h.choose else none
open Classical in
noncomputable def aJ(g:az->ab->Option dZ)(α:az)(H:ab):Option dZ:=if h:∃r n,h_ g n α H=some r then some h.choose else none
def nO{f}{args}{r:AV×ab}:run E f args H=some r↔∃n,eI E n f args H=some r:=by
 unfold run;constructor
 ·intro h;split at h
  ·rename_i a;simp at h;rw[<-h];exact a.choose_spec
  ·cases h
 ·rintro⟨n,c⟩;have a:∃r n,eI E n f args H=some r:=⟨r,n,c⟩;rw[dif_pos a];obtain⟨m,hm⟩:=a.choose_spec;have b:=D5 m (max n m) aa _ _ _ _ hm;rw[(D5 n (max n m) aa _ _ _ _ c)] at b;exact b.symm
def D9{g}{α}{r:dZ}:aJ g α H=some r↔∃n,h_ g n α H=some r:=by
 unfold aJ;constructor
 ·intro h;split at h
  ·rename_i a;simp at h;rw[<-h];exact a.choose_spec
  ·cases h
 ·rintro⟨n,c⟩;have a:∃r n,h_ g n α H=some r:=⟨r,n,c⟩;rw[dif_pos a];obtain⟨m,hm⟩:=a.choose_spec;have b:=xJ (λ_ _ _ h=>h) m (max n m) aa _ _ _ hm;rw[(xJ (λ_ _ _ h=>h) n (max n m) aa _ _ _ c)] at b;exact b.symm
def aG(g)(α)(H):aJ g α H=an (g α H) λr=>andThen r (aJ g):=by
 apply Option.ext;intro r;rw[D9];constructor
 ·rintro⟨n,c⟩
  cases n with
  |zero=>simp[h_] at c
  |succ n=>simp[h_] at c;obtain⟨p,a,b⟩:=iR c;simp[a,an];exact Mg (λ_ _ _ h=>D9.2 ⟨n,h⟩) b
 ·intro h;obtain⟨p,a,b⟩:=iR h;obtain⟨ex,ae,H'⟩:=p
  cases ex with
  |normal=>obtain⟨n,c⟩:=D9.1 b;exact⟨n+1,by simp[h_,a,an,andThen];exact c⟩
  |exit id=>exact⟨1,by simp[h_,a,an];exact b⟩
  |ret=>exact⟨1,by simp[h_,a,an];exact b⟩
def G4(a:ia E):dN E.P (run E):=λf args H v H' h=>by obtain⟨n,b⟩:=nO.1 h;exact UF a n f args H v H' b
end
end Go.Ab
namespace Go.Ab
open Go
section
variable {H:ab} {E:Env}
def nG(n m:Nat)(h:n<=m):pA (eI E n) (eI E m):=D5 n m h
def za(n m:Nat)(h:n<=m):Dp (λg=>h_ g n) (λg=>h_ g m):=λg g' hg=>xJ hg n m h
def aeY{P}{f}{args}{v}(h:aI P (run E) f args=some v):∃n,aI P (eI E n) f args=some v:=by
 unfold aI at h;split at h
 ·rename_i b
  cases hc:run E f (args.map AV.erase) .empty with
  |none=>simp[hc] at h
  |some p=>obtain⟨n,a⟩:=nO.1 hc;refine⟨n,?_⟩;unfold aI;rw[ν b,a];simpa[hc] using h
 ·cases h
def afK{f}{args}{te}{cs}{r}(h:oD (run E) f args te cs=some r):∃n,oD (eI E n) f args te cs=some r:=by
 unfold oD at h
 cases hc:run E f args {next:=1,jx:=[(0,.cells te cs)]} with
 |none=>simp[hc] at h
 |some p=>obtain⟨n,a⟩:=nO.1 hc;refine⟨n,?_⟩;unfold oD;rw[a];simpa[hc] using h
def aeZ{f}{args}{tb te}{cs}{r}(h:oA (run E) f args tb te cs=some r):∃n,oA (eI E n) f args tb te cs=some r:=by
 unfold oA at h
 cases hc:run E f args {next:=2,jx:=[(1,.cells tb [.ptr 0 0]),(0,.cells te cs)]} with
 |none=>simp[hc] at h
 |some p=>obtain⟨n,a⟩:=nO.1 hc;refine⟨n,?_⟩;unfold oA;rw[a];simpa[hc] using h
def ae0{io}{f}{args}{r}(h:rf io (run E) f args H=some r):∃n,rf io (eI E n) f args H=some r:=by
 unfold rf at*
 split at h
 ·rename_i a;simp[ν a];rcases Mr h with⟨id,as,te,cs,x,d,j,b,hb,e,c,rfl⟩|⟨id,pid,as,tb,te,cs,x,l,d,b,e,c,k,i,rfl⟩
  ·obtain⟨n,g⟩:=afK c;exact⟨n,MV d j b hb e g⟩
  ·obtain⟨n,g⟩:=aeZ i;exact⟨n,Mt l d b e c k g⟩
 ·rename_i a;simp[κ a];exact nO.1 h
def G5{op}{ρ}{r}(a:bz E (run E) op ρ H=some r):∃n,bz E (eI E n) op ρ H=some r:=by
 cases op<;>simp only[bz] at a⊢<;>(try exact⟨0,a⟩)
 case call cl=>
  unfold tq at*
  cases hf:cl.callee with
  |value f=>
   simp only[hf] at a⊢
   unfold dX at*
   cases ht:target (ρ f) with
   |none=>simp[ht] at a
   |some p=>
    obtain⟨g,first,cap⟩:=p
    simp only[ht] at a⊢;by_cases c:E.cl g=true
    ·rw[ν c] at a;obtain⟨v,h,e⟩:=iR a;obtain⟨n,d⟩:=aeY h;refine⟨n,?_⟩;rw[ν c];simp only[d,an];exact e
    ·rw[κ c] at a;obtain⟨n,d⟩:=ae0 a;exact⟨n,by rw[κ c];exact d⟩
  |builtin b=>simp only[hf] at a⊢;cases b<;>exact⟨0,a⟩
  |invoke q m=>simp only[hf] at a⊢;exact⟨0,a⟩
def Nn{all:Array Oper}:∀l α H r,iS E (run E) all l α H=some r->∃n,iS E (eI E n) all l α H=some r
 |[],_,_,_,c=>⟨0,c⟩
 |o::l,α,H,r,c=>by
  simp[iS] at c⊢;obtain⟨b,f,a⟩:=iR c;simp[f,an]
  cases b with
  |true=>simp[cY] at a⊢;obtain⟨p,g,e⟩:=iR a;obtain⟨n1,d⟩:=G5 g;obtain⟨n2,h⟩:=Nn l _ _ _ e;refine⟨max n1 n2,?_⟩;rw[ti (nG n1 _ aa) d];exact Ho (nG n2 _ aa) l _ _ _ h
  |false=>simp[cY] at a⊢;exact Nn l _ _ _ a
def afL{o}{α}{v}{H}(h:reads E (run E) o α v H=true):∃n,reads E (eI E n) o α v H=true:=by
 unfold reads at h;split at h
 ·rename_i u H' a;obtain⟨n,b⟩:=G5 a;exact⟨n,by unfold reads;rw[b];exact h⟩
 ·cases h
def Np{A:Type}(g:A->Bool)(f:A->Oper×az×AV×ab):∀(l:List A),(l.all λq=>g q||reads E (run E) (f q).1 (f q).2.1 (f q).2.2.1 (f q).2.2.2)=true->∃n,∀m,n<=m->(l.all λq=>g q||reads E (eI E m) (f q).1 (f q).2.1 (f q).2.2.1 (f q).2.2.2)=true
 |[],_=>⟨0,λ_ _=>rfl⟩
 |q::l,h=>by
  simp only[aDI,ap2] at h;obtain⟨n,b⟩:=Np g f l h.2;have a:=h.1;simp at a;rcases a with a|a
  ·exact⟨n,λm hm=>by simp only[aDI,ap2];exact⟨by simp[a],b m hm⟩⟩
  ·obtain⟨k,c⟩:=afL a;refine⟨max n k,λm hm=> ?_⟩;simp only[aDI,ap2];exact⟨by rw[Mx (nG k m aa) c];simp,b m aa⟩
def D_{all:Array Oper}:∀l k d g α H (r:az×ab),eP E (run E) all k l d g α H=some r->∃n,eP E (eI E n) all k l d g α H=some r
 |[],_,_,_,_,_,_,f=>⟨0,f⟩
 |o::l,k,d,g,α,H,r,f=>by
  simp[eP] at f⊢;obtain⟨b,s,e⟩:=iR f;simp[s,an]
  cases b with
  |true=>
   simp[cY] at e⊢;obtain⟨p,t,a⟩:=iR e;obtain⟨n1,h⟩:=G5 t
   cases hk:bO E o.op with
   |ins=>simp[hk] at a⊢;obtain⟨n2,c⟩:=D_ l _ _ _ _ _ _ a;refine⟨max n1 n2,?_⟩;rw[ti (nG n1 _ aa) h];exact xM (nG n2 _ aa) l _ _ _ _ _ _ c
   |rd=>
    simp only[hk] at a⊢;split at a
    ·rename_i j;obtain⟨n2,c⟩:=D_ l _ _ _ _ _ _ a;obtain⟨m,i⟩:=Np (λw:Nat×ab=>behind all all.size k w.1) (λw=>(o,α,p.1,w.2)) g j;refine⟨max n1 (max n2 m),?_⟩;rw[ti (nG n1 _ aa) h];simp only;rw[ν (i _ aa)];exact xM (nG n2 _ aa) l _ _ _ _ _ _ c
    ·cases a
   |wr=>
    simp only[hk] at a⊢;split at a
    ·rename_i j;obtain⟨n2,c⟩:=D_ l _ _ _ _ _ _ a;obtain⟨m,i⟩:=Np (λq:Nat×Oper×az×AV=>behind all all.size k q.1) (λq=>(q.2.1,q.2.2.1,q.2.2.2,p.2)) d j;refine⟨max n1 (max n2 m),?_⟩;rw[ti (nG n1 _ aa) h];simp only;rw[ν (i _ aa)];exact xM (nG n2 _ aa) l _ _ _ _ _ _ c
    ·cases a
  |false=>simp[cY] at e⊢;exact D_ l _ _ _ _ _ _ e
def My(g)(n)(α)(H):h_ g (n+1) α H=an (g α H) λr=>andThen r (h_ g n):=rfl
def v8:∀x α H r,aP E (run E) aJ x α H=some r->∃n,aP E (eI E n) (λg=>h_ g n) x α H=some r
 | .skip,_,_,_,a=>⟨0,a⟩
 | .region id ops d,α,H,r,a=>by
  simp[aP] at a⊢;obtain⟨p,c,b⟩:=iR a;unfold cY at c⊢;split at c
  ·rename_i i;split at c
   ·rename_i o;exact⟨0,by rw[ν i,ν o,c];exact b⟩
   rename_i o;obtain⟨n,e⟩:=D_ _ _ _ _ _ _ _ c;exact⟨n,by rw[ν i,κ o,e];exact b⟩
  ·rename_i i;obtain⟨n,e⟩:=Nn _ _ _ _ c;exact⟨n,by rw[κ i,e];exact b⟩
 | .seq x y,α,H,r,a=>by
  simp[aP] at a⊢;obtain⟨p,c,b⟩:=iR a;obtain⟨n1,f⟩:=v8 x _ _ _ c;obtain⟨ex,j,l⟩:=p
  cases ex with
  |normal=>obtain⟨n2,q⟩:=v8 y _ _ _ b;refine⟨max n1 n2,?_⟩;rw[pL (nG n1 _ aa) (za n1 (max n1 n2) aa) x _ _ _ f];exact pL (nG n2 _ aa) (za n2 (max n1 n2) aa) y _ _ _ q
  |exit id=>exact⟨n1,by rw[f];exact b⟩
  |ret=>exact⟨n1,by rw[f];exact b⟩
 | .cond cd x y,α,H,r,a=>by
  simp[aP,CE] at a⊢;split at a
  ·rename_i v hv
   cases v with
   |true=>simp[cY] at a⊢;exact v8 x _ _ _ a
   |false=>simp[cY] at a⊢;exact v8 y _ _ _ a
  ·cases a
 | .block id x,α,H,r,a=>by simp[aP] at a⊢;obtain⟨p,c,b⟩:=iR a;obtain⟨n,e⟩:=v8 x _ _ _ c;exact⟨n,by rw[e];exact b⟩
 | .loop x,α,H,r,a=>by
  simp[aP] at a⊢;obtain⟨k,s⟩:=D9.1 a
  have:∀k α H,h_ (aP E (run E) aJ x) k α H=some r->∃n,∀m,n<=m->h_ (aP E (eI E m) (λg=>h_ g m) x) m α H=some r:=by
   intro k
   induction k with
   |zero=>intro α H h;simp[h_] at h
   |succ k ih=>
    intro α H h;simp[h_] at h;obtain⟨p,c,b⟩:=iR h;obtain⟨n1,f⟩:=v8 x _ _ _ c;have up:∀m,n1<=m->aP E (eI E m) (λg=>h_ g m) x α H=some p:=λm hm=>pL (nG n1 m hm) (za n1 m hm) x _ _ _ f;obtain⟨ex,j,l⟩:=p
    cases ex with
    |normal=>
     obtain⟨n2,q⟩:=ih j l b;refine⟨max n1 (n2+1),λm hm=> ?_⟩
     cases m with
     |zero=>omega
     |succ m=>rw[My,up (m+1) aa];show h_ _ m j l=some r;refine xJ ?_ m m (μ _) _ _ _ (q m aa);exact pL (nG m (m+1) aa) (za m (m+1) aa) x
    |exit id=>
     refine⟨max n1 1,λm hm=> ?_⟩
     cases m with
     |zero=>omega
     |succ m=>rw[My,up (m+1) aa];exact b
    |ret=>
     refine⟨max n1 1,λm hm=> ?_⟩
     cases m with
     |zero=>omega
     |succ m=>rw[My,up (m+1) aa];exact b
  obtain⟨n,e⟩:=this k α H s;exact⟨n,e n (μ _)⟩
 | .exit id,_,_,_,a=>⟨0,a⟩
 | .ret,_,_,_,a=>⟨0,a⟩
 | .rangeFunc _ _ _ _,_,_,_,a=>by simp[aP] at a
 | .scope _,_,_,_,a=>by simp[aP] at a
 | .label _,_,_,_,a=>by simp[aP] at a
 | .goto _,_,_,_,a=>by simp[aP] at a
 | .refuse _,_,_,_,a=>by simp[aP] at a
def run_eq{f}(d:E.G f=true)(b:E.df f=false)(args)(H:ab):run E f args H=sH E (run E) aJ f args H:=by
 apply Option.ext;intro r;rw[nO];constructor
 ·rintro⟨n,a⟩
  cases n with
  |zero=>simp[eI] at a
  |succ n=>simp[eI,d,b] at a;have k:pA (eI E n) (run E):=λf args H r h=>nO.2 ⟨n,h⟩;have i:Dp (λg=>h_ g n) aJ:=λg g' hg α H r h=>D9.2 ⟨n,xJ hg n n (μ _) _ _ _ h⟩;exact U' k i a
 ·intro h;unfold sH at h
  cases h1:E.P.funcs[f]? with
  |none=>simp[h1] at h
  |some fn=>
   cases h2:fn.body with
   |none=>simp[h1,h2] at h
   |some c=>
    simp only[h1,h2] at h;split at h
    ·rename_i a;obtain⟨p,e,l⟩:=iR h;obtain⟨n,j⟩:=v8 c _ _ _ e;refine⟨n+1,?_⟩;simp[eI,d,b,sH,h1,h2,ν a,j,an];exact l
    ·cases h
def zS{f}(a:E.G f=false)(args)(H):run E f args H=E.ext f args H:=by
 apply Option.ext;intro r;rw[nO];constructor
 ·rintro⟨n,b⟩
  cases n with
  |zero=>simp[eI] at b
  |succ n=>simpa[eI,a] using b
 ·intro h;exact⟨1,by simpa[eI,a] using h⟩
def BX{f}{fn:Func}{c}(g:E.G f=true)(d:E.df f=false)(b:E.P.funcs[f]? =some fn)(a:fn.body=some c){args:List AV}(e:args.length<=fn.ntmps)(H):
  run E f args H=an (aP E (run E) aJ c (jy args) H) (finish E.P fn.results.toList):=by
 rw[run_eq g d];simp[sH,b,a,ν e]
end
section
variable {E:Env} {call:ck} {loop:(az->ab->Option dZ)->az->ab->Option dZ} {α:az} {H:ab} {ρ:Operand->AV}
@[congr] theorem aCV {A B:Type} {x x':Option A} {f:A->Option B} (h:x=x'):an x f=an x' f:=by rw[h]
@[congr] theorem aCW {A:Type} {c a:Bool} {x y:A} (h:c=a):cY c x y=cY a x y:=by rw[h]
def O1{A B:Type}(a:A)(f:A->Option B):an (some a) f=f a:=(rfl)
def Qa{A:Type}(x y:A):cY true x y=x:=(rfl)
def Qb{A:Type}(x y:A):cY false x y=y:=(rfl)
def ak4{A B C:Type}(x)(f:A->Option B)(g:B->Option C):an (an x f) g=an x λa=>an (f a) g:=by cases x<;>rfl
def ak5:aP E call loop .skip α H=some (.normal,α,H):=(rfl)
def agM(id)(l:List Oper):aP E call loop (.region id l.toArray false) α H=an (iS E call l.toArray l α H) λr=>some (.normal,r.1,r.2):=(rfl)
def ae1(id)(l:List Oper)(a:E.dyn id=false):aP E call loop (.region id l.toArray true) α H=an (iS E call l.toArray l α H) λr=>some (.normal,r.1,r.2):=by simp[aP,a,cY]
def m_(id)(l:List Oper)(a:E.dyn id=true)(b:E.any l.toArray=false):aP E call loop (.region id l.toArray true) α H=an (eP E call l.toArray 0 l [] [] α H) λr=>some (.normal,r.1,r.2):=by simp[aP,a,b,cY]
def uT(a b):aP E call loop (.seq a b) α H=an (aP E call loop a α H) λr=>andThen r (aP E call loop b):=(rfl)
def ak6(c)(a b):aP E call loop (.cond c a b) α H=CE α c (aP E call loop a α H) (aP E call loop b α H):=(rfl)
def Nq(id)(c):aP E call loop (.block id c) α H=an (aP E call loop c α H) λr=>some (tw id r):=(rfl)
def ak7(id):aP E call loop (.exit id) α H=some (.exit id,α,H):=(rfl)
def aqJ:aP E call loop .ret α H=some (.ret,α,H):=(rfl)
def Ue(id)(l:List Oper)(b)(a:E.dyn id=true)(c:E.any l.toArray=false):aP E call loop (.seq (.region id l.toArray true) b) α H=an (eP E call l.toArray 0 l [] [] α H) λr=>aP E call loop b r.1 r.2:=by rw[uT,m_ _ _ a c,ak4];congr 1
def UG(f):andThen (.normal,α,H) f=f α H:=(rfl)
def VP(id)(f):andThen (.exit id,α,H) f=some (.exit id,α,H):=(rfl)
def WD(f):andThen (.ret,α,H) f=some (.ret,α,H):=(rfl)
def aeh(id):tw id (.normal,α,H)=(.normal,α,H):=(rfl)
def ae2(id):tw id (.ret,α,H)=(.ret,α,H):=(rfl)
def aeA(id):tw id (.exit id,α,H)=(.normal,α,H):=by simp[tw]
def Jb(v:AV)(x y:Option dZ):Option dZ:=
 match v with
 | .bool c=>cY c x y
 |_=>none
def WE(c:Operand)(x y:Option dZ):CE α c x y=Jb (ev α c) x y:=(rfl)
@[congr] theorem aCQ {v a:AV} {x y:Option dZ} (h:v=a):Jb v x y=Jb a x y:=by rw[h]
def Mz(c:Bool)(x y:Option dZ):Jb (.bool c) x y=cY c x y:=(rfl)
def aqK(all:Array Oper):iS E call all [] α H=some (α,H):=(rfl)
def ak8(all:Array Oper)(dst)(op)(ty)(pos)(after)(rest):
  iS E call all (⟨dst,op,ty,pos,after,none⟩::rest) α H=an (bz E call op (ev α) H) λr=>iS E call all rest (put α dst r.1) r.2:=(rfl)
def Bj(kd:Kd)(E:Env)(call:ck)(all:Array Oper)(k:Nat)(o:Oper)(rest:List Oper)(a:List (Nat×Oper×az×AV))(b:List (Nat×ab))(α:az)(H:ab)(r:AV×ab):Option (az×ab):=
 match kd with
 | .ins=>eP E call all (k+1) rest a b (put α o.dst r.1) r.2
 | .rd=>cY (b.all λw=>behind all all.size k w.1||reads E call o α r.1 w.2) (eP E call all (k+1) rest ((k,o,α,r.1)::a) b (put α o.dst r.1) r.2) none
 | .wr=>cY (a.all λq=>behind all all.size k q.1||reads E call q.2.1 q.2.2.1 q.2.2.2 r.2) (eP E call all (k+1) rest a ((k,H)::b) (put α o.dst r.1) r.2) none
@[congr] theorem aCX {kd a:Kd} {all:Array Oper} {k:Nat} {o:Oper} {rest:List Oper} {b:List (Nat×Oper×az×AV)} {c:List (Nat×ab)} {r:AV×ab} (h:kd=a):Bj kd E call all k o rest b c α H r=Bj a E call all k o rest b c α H r:=by rw[h]
def ak9(all:Array Oper)(k:Nat)(o:Oper)(rest:List Oper)(a:List (Nat×Oper×az×AV))(b:List (Nat×ab))(r:AV×ab):Bj .ins E call all k o rest a b α H r=eP E call all (k+1) rest a b (put α o.dst r.1) r.2:=(rfl)
def aqL(all:Array Oper)(k:Nat)(o:Oper)(rest:List Oper)(b:List (Nat×Oper×az×AV))(a:List (Nat×ab))(r:AV×ab):Bj .rd E call all k o rest b a α H r=cY (a.all λw=>behind all all.size k w.1||reads E call o α r.1 w.2) (eP E call all (k+1) rest ((k,o,α,r.1)::b) a (put α o.dst r.1) r.2) none:=(rfl)
def aqM(all:Array Oper)(k:Nat)(o:Oper)(rest:List Oper)(a:List (Nat×Oper×az×AV))(b:List (Nat×ab))(r:AV×ab):Bj .wr E call all k o rest a b α H r=cY (a.all λq=>behind all all.size k q.1||reads E call q.2.1 q.2.2.1 q.2.2.2 r.2) (eP E call all (k+1) rest a ((k,H)::b) (put α o.dst r.1) r.2) none:=(rfl)
def aqN(all)(k)(rs)(ws):eP E call all k [] rs ws α H=some (α,H):=(rfl)
def ala(all)(k)(dst:Option Tmp)(op:Op)(ty:TypeId)(pos:String)(after:Array Edge)(rest:List Oper)(a:List (Nat×Oper×az×AV))(b:List (Nat×ab)):
  eP E call all k (⟨dst,op,ty,pos,after,none⟩::rest) a b α H=an (bz E call op (ev α) H) λr=>Bj (bO E op) E call all k ⟨dst,op,ty,pos,after,none⟩ rest a b α H r:=by
 simp[eP,jG,an,cY];rfl
def alb(t)(x):bO E (.load t x)=.rd:=(rfl)
def ahR(t):bO E (.alloc t)=.wr:=(rfl)
def ahS(t)(x y):bO E (.store t x y)=.wr:=(rfl)
def aeB(t)(x)(f):bO E (.fieldAddr t x f)=.ins:=(rfl)
def alc(x):bO E (.move x)=.ins:=(rfl)
def agN(x):bO E (.assign x)=.ins:=(rfl)
def ahT(t)(l):bO E (.build t l)=.ins:=(rfl)
def Ay(r:Option (AV×ab))(v:AV):Bool:=match r with|some p=>ef p.1 v|none=>false
def afM(u v:AV):Ay (some (u,H)) v=ef u v:=(rfl)
@[congr] theorem aCR {r a:Option (AV×ab)} {v:AV} (h:r=a):Ay r v=Ay a v:=by rw[h]
def ahU(o:Oper)(v:AV):reads E call o α v H=Ay (bz E call o.op (ev α) H) v:=by unfold reads Ay;cases bz E call o.op (ev α) H<;>rfl
def Ah(k)(a):ef (.int k a) (.int k a)=true:=by simp[ef]
def Iw(a):ef (.str a) (.str a)=true:=by simp[ef]
def Ix(xs ys):ef (.agg xs) (.agg ys)=iV xs ys:=by simp[ef]
def qw(x y)(xs ys):iV (x::xs) (y::ys)=(ef x y&&iV xs ys):=by simp[iV]
def O2:iV [] []=true:=by simp[iV]
attribute [go_sem] Ah Iw Ix qw O2
attribute [go_sem ↓] aqN ala alb ahR ahS aeB alc agN ahT
attribute [go_sem] ak9 aqL aqM ahU afM ae1 m_ Ue aDI aEq aFe Bool.and_true aEa
def wq(b:Bool)(v:AV):Option Bool:=
 match v with
 | .bool c=>some (c==b)
 | .val (.tuple _)=>some false
 |_=>none
def Va:wq true (.bool true)=some true:=(rfl)
def Vb:wq true (.bool false)=some false:=(rfl)
def Vc:wq false (.bool true)=some false:=(rfl)
def Vd:wq false (.bool false)=some true:=(rfl)
def Uh(b:Bool):wq b hM=some false:=(rfl)
def yl(all:Array Oper)(j:Nat):Option Tmp:=(all[j]?).bind (·.dst)
def Az(b:Bool)(α:az)(d:Option Tmp):Option Bool:=
 match d with
 |some d=>wq b (α d)
 |none=>none
def afN(b:Bool)(d:Tmp):Az b α (some d)=wq b (α d):=(rfl)
@[congr] theorem aCS {b:Bool} {d a:Option Tmp} (h:d=a):Az b α d=Az b α a:=by rw[h]
@[congr] theorem aCO {b:Bool} {v a:AV} (h:v=a):wq b v=wq b a:=by rw[h]
def Ve(all)(j:Nat)(b:Bool):jG all (some (j,b)) α=Az b α (yl all j):=by
 unfold jG Az yl
 cases h:(all[j]?).bind (·.dst) with
 |none=>simp[h]
 |some d=>simp[h];rfl
def ahV(all)(dst)(op)(ty)(pos)(after)(rest)(j:Nat)(b:Bool):
  iS E call all (⟨dst,op,ty,pos,after,some (j,b)⟩::rest) α H=an (Az b α (yl all j)) λc=>
   cY c (an (bz E call op (ev α) H) λr=>iS E call all rest (put α dst r.1) r.2) (iS E call all rest (put α dst hM) H):=by
 rw[<-Ve];rfl
def yx:List Oper->Nat->Option Tmp
 |[],_=>none
 |o::_,0=>o.dst
 |_::r,n+1=>yx r n
def ae3(l:List Oper)(j:Nat):yl l.toArray j=yx l j:=by
 unfold yl
 induction l generalizing j with
 |nil=>simp[yx]
 |cons o r ih=>cases j with
  |zero=>simp[yx]
  |succ n=>simpa[yx] using ih n
def afO(o:Oper)(r):yx (o::r) 0=o.dst:=(rfl)
def afP(o)(r)(n):yx (o::r) (n+1)=yx r n:=(rfl)
def Ym(cs):fY (.agg cs) H=some (.ptr H.next 0,H.push (.cells none cs)):=by simp[fY,AV.width,AV.cells]
def VQ(n)(l)(x):ab.push ⟨n,l⟩ x=⟨n+1,(n,x)::l⟩:=(rfl)
def heap_set(n)(l)(i)(x):ab.set ⟨n,l⟩ i x=⟨n,aH l i x⟩:=(rfl)
def e_(l:List (Nat×bH))(id:Nat):Option (List AV):=match cq l id with|some (.cells _ cs)=>some cs|some (.row _ _ _ cs)=>some cs|_=>none
def CH(o:Option bH)(cs:List AV):bH:=match o with|some (.row n et s _)=>.row n et s cs|some (.cells te _)=>.cells te cs|_=>.cells none cs
def ae4(te:Option TypeId)(cs ds:List AV):CH (some (.cells te cs)) ds=.cells te ds:=(rfl)
def br(k)(x)(r)(id):cq ((k,x)::r) id=if k=id then some x else cq r id:=(rfl)
def GR(k)(te)(cs)(r)(id):e_ ((k,.cells te cs)::r) id=if k=id then some cs else e_ r id:=by by_cases h:k=id<;>simp[e_,cq,h]
def MA(k n)(et)(r)(id):e_ ((k,.bB n et)::r) id=if k=id then none else e_ r id:=by by_cases h:k=id<;>simp[e_,cq,h]
def tj(k)(x y)(r)(id):aH ((k,x)::r) id y=if k=id then(k,y)::r else(k,x)::aH r id y:=(rfl)
def WG(P)(t)(n)(l)(id off):kH P ⟨n,l⟩ t (.ptr id off)=if id<n then an (e_ l id) λcs=>iM P t cs off else none:=by
 by_cases h:id<n
 ·simp[kH,ab.get,e_,h]
  cases cq l id with
  |none=>rfl
  |some o=>cases o<;>rfl
 ·simp[kH,ab.get,h]
def VR(P)(t)(cs):kH P H t (.rptr cs)=iM P t cs 0:=(rfl)
def kW{P}{t}(h:cu P t=some false)(cs)(off):iM P t cs off=cs[off]? :=by simp[iM,h]
def nj{P}{t}{n}(h:cu P t=some true)(a:bF P t=some n)(cs:List AV)(off):iM P t cs off=if off+n<=cs.length then some (.agg ((cs.drop off).take n)) else none:=by simp[iM,h,a]
def di{P}{s}{fs}(h:hC P s=some fs)(f)(id o){off}{a}{n}(b:fs[f]? =some (off,a))(c:bF P a=some (n+1)):
  cr P s f (.ptr id o)=some (.ptr id (o+off)):=by simp[cr,h,b,c]
def B5{P}{s}{fs}(h:hC P s=some fs)(f)(cs:List AV){off}{a}{n}(b:fs[f]? =some (off,a))(c:bF P a=some (n+1)):
  cr P s f (.rptr cs)=if off<=cs.length then some (.rptr (cs.drop off)) else none:=by simp[cr,h,b,c]
def G6(P)(t)(n)(l:List (Nat×bH))(id off:Nat)(x:AV):
  tG P t (.ptr id off) x ⟨n,l⟩=if id<n then an (e_ l id) λcs=>if bF P t=x.width/\x.width≠none/\off+x.cells.length<=cs.length/\eE x.cells=true then some (hM,⟨n,aH l id (CH (cq l id) (eD cs off x.cells))⟩) else none else none:=by
 by_cases h:id<n
 ·simp[tG,ab.get,e_,ab.set,h]
  cases cq l id with
  |none=>rfl
  |some o=>cases o<;>rfl
 ·simp[tG,ab.get,h]
def aan(t):ev α (.tmp t)=α t:=(rfl)
def WH(v):ev α (.const v)=od v:=(rfl)
def ald(f):ev α (.func f)=.fn (.func f) [] []:=(rfl)
def ale(k)(n):od (.int k n)=.int k n:=(rfl)
def ahW(b):od (.bool b)=.bool b:=(rfl)
def alf(l:List UInt8):od (.string ⟨l.toArray⟩)=.str l:=by simp[od,iG]
def alg:od (.slice none 0 0)=.vec .nil []:=(rfl)
def WI(d)(v)(i):put α (some d) v i=if i=d then v else α i:=(rfl)
def ahX(v):put α none v=α:=(rfl)
def alh(args)(i):jy args i=(args[i]?).getD hM:=(rfl)
def ali(x):bz E call (.move x) ρ H=some (ρ x,H):=(rfl)
def agO(x):bz E call (.assign x) ρ H=some (ρ x,H):=(rfl)
def alj(c a b):bz E call (.pick c a b) ρ H=an (CC (ρ a) (ρ b) (ρ c)) λv=>some (v,H):=(rfl)
def alk(t)(a):bz E call (.load t a) ρ H=an (kH E.P H t (ρ a)) λv=>some (v,H):=(rfl)
def aeC(s)(x)(f):bz E call (.fieldAddr s x f) ρ H=an (cr E.P s f (ρ x)) λv=>some (v,H):=(rfl)
def aeD(t)(x i):bz E call (.indexAddr t x i) ρ H=an (dC E.P t (ρ x) (ρ i)) λv=>some (v,H):=(rfl)
def ahY(t)(x i):bz E call (.index t x i) ρ H=an (ni E.P t (ρ x) (ρ i)) λv=>some (v,H):=(rfl)
def ahZ(op)(t t')(x y):bz E call (.binOp op t x y t') ρ H=an (lN E.P op t (xR x||xR y) (ρ x) (ρ y)) λv=>some (v,H):=(rfl)
def alm(op:UnOp)(t)(x):bz E call (.unOp op t x) ρ H=an (xj op (ρ x)) λv=>some (v,H):=(rfl)
def afQ(s d)(x):bz E call (.convert s d x) ρ H=an (rB E.P s d (ρ x)) λv=>some (v,H):=(rfl)
def afR(x)(i):bz E call (.extract x i) ρ H=an (iz i (ρ x)) λv=>some (v,H):=(rfl)
def ah0(t)(l:List (Nat×Operand)):bz E call (.build t l.toArray) ρ H=an (sx E.P t (l.map λp=>(p.1,ρ p.2))) λv=>some (v,H):=by simp[bz,lF]
def ah1(t)(x)(lo hi:Option Operand):bz E call (.slice t x lo hi none) ρ H=an (jT E.P t (lo.map ρ) (hi.map ρ) (ρ x)) λv=>some (v,H):=(rfl)
def ae5(f:Fn)(first cap:List Operand):bz E call (.makeFunc f first.toArray cap.toArray) ρ H=some (.fn f (first.map ρ) (cap.map ρ),H):=by simp[bz,lF,an]
def ae6(x):bz E call (.nilCheck x) ρ H=an (BJ (ρ x)) λv=>some (v,H):=(rfl)
def ah2(t):bz E call (.alloc t) ρ H=sB E.P t H:=(rfl)
def aqO(t)(x):bz E call (.box t x) ρ H=fY (ρ x) H:=(rfl)
def ah3(t)(a x):bz E call (.store t a x) ρ H=tG E.P t (ρ a) (ρ x) H:=(rfl)
def aem(t)(n)(l:List (Nat×Operand)):bz E call (.buildSlice t n l.toArray) ρ H=dS E.P t n (l.map λp=>(p.1,ρ p.2)) H:=by simp[bz]
def aln(f)(l:List Operand)(dV):bz E call (.call ⟨.value f,l.toArray,dV⟩) ρ H=dX E call (ρ f) (l.map ρ) H:=by simp[bz,tq]
def agP(l:List Operand)(dV:List TypeId):bz E call (.call ⟨.builtin .append,l.toArray,dV.toArray⟩) ρ H=cQ E.eX E.P dV (l.map ρ) H:=by simp[bz,tq]
def aqP(l:List Operand)(dV):bz E call (.call ⟨.builtin .len,l.toArray,dV⟩) ρ H=tO E.P dV (l.map ρ) H:=by simp[bz,tq]
def aqQ(P)(dV)(l:List UInt8)(H):tO P dV [.str l] H=an (gD P dV [.str l]) λv=>some (v,H):=(rfl)
def O3(P)(dV)(o)(l:List AV)(H):tO P dV [.vec o l] H=an (gD P dV [.vec o l]) λv=>some (v,H):=(rfl)
def abW(P)(dV)(a b c d)(H):tO P dV [.sl a b c d] H=an (gD P dV [.sl a b c d]) λv=>some (v,H):=(rfl)
attribute [go_sem ↓] aqQ O3 abW
def aqR(l:List Operand)(dV):bz E call (.call ⟨.builtin .max,l.toArray,dV⟩) ρ H=an (CU (l.map ρ)) λv=>some (v,H):=by simp[bz,tq,lF]
noncomputable abbrev bt(E:Env)(f:FuncId):=dX E (run E) (.fn (.func f) [] [])
noncomputable abbrev aO(E:Env):=aP E (run E) aJ
def sf{f}(h:E.cl f=true)(args):dX E call (.fn (.func f) [] []) args H=an (aI E.P call f args) λv=>some (v,H):=by simp[dX,target,h]
def tg{f}(h:E.cl f=false)(a:E.io f=false)(args):dX E call (.fn (.func f) [] []) args H=call f args H:=by simp[dX,target,h,a,rf]
def nW{P t z}(h:dq P t=some z)(H:ab):sB P t H=some (.ptr H.next 0,H.push (.cells (some t) z)):=by simp[sB,h]
def lI{P t z}{pl:List (Nat×Nat)}(h:dq P t=some z)(a:jF P t=some pl)(l):sx P t l=an (aZ (λi=>pl[i]?) z l) λcs=>some (.agg cs):=by simp[sx,h,a];cases aZ _ _ l<;>rfl
def mJ{P t et}(h:eW P t=some et)(o)(l:List AV):gD P #[t] [.vec o l]=some (.i l.length):=by simp[gD,h]
def lJ(E:Env)(P f)(h:E.cl f=true)(a:E.P=P)(call args H):dX E call (.fn (.func f) [] []) args H=an (aI P call f args) λv=>some (v,H):=by simp[dX,target,h,a]
def wJ(E:Env)(f)(h:E.cl f=false)(a:E.io f=false)(call args H):dX E call (.fn (.func f) [] []) args H=call f args H:=tg h a args
def ju(E:Env)(f)(h:E.cl f=false)(a:E.io f=false)(args H):dX E (run E) (.fn (.func f) [] []) args H=run E f args H:=tg h a args
def WJ{f}(h:E.cl f=false)(a:E.io f=true)(first args cap):dX E call (.fn (.func f) first cap) args H=yk call f (first++args++cap) H:=by simp[dX,target,h,a,rf]
def alo(a b):CC a b (.bool true)=some a:=(rfl)
def alp(a b):CC a b (.bool false)=some b:=(rfl)
def aqS(P)(t)(k:IntKind)(a b):ew P .add t (.int k a) (.int k b)=some (.int k (k.wrap (a+b))):=by simp[ew,pN,q_]
def aqT(P)(t)(k:IntKind)(a b):ew P .sub t (.int k a) (.int k b)=some (.int k (k.wrap (a-b))):=by simp[ew,pN,q_]
def aqU(P)(t)(k:IntKind)(a b):ew P .mul t (.int k a) (.int k b)=some (.int k (k.wrap (a*b))):=by simp[ew,pN,q_]
def aqV(P)(t)(k)(a b):ew P .eql t (.int k a) (.int k b)=some (.bool (a==b)):=by simp[ew,pN,q_]
def aqW(P)(t)(k)(a b):ew P .neq t (.int k a) (.int k b)=some (.bool (a != b)):=by simp[ew,pN,q_]
def aqX(P)(t)(k)(a b):ew P .lss t (.int k a) (.int k b)=some (.bool (decide (a<b))):=by simp[ew,pN,q_]
def aqY(P)(t)(k)(a b):ew P .leq t (.int k a) (.int k b)=some (.bool (decide (a<=b))):=by simp[ew,pN,q_]
def aqZ(P)(t)(k)(a b):ew P .gtr t (.int k a) (.int k b)=some (.bool (decide (a>b))):=by simp[ew,pN,q_]
def aq0(P)(t)(k)(a b):ew P .geq t (.int k a) (.int k b)=some (.bool (decide (a≥b))):=by simp[ew,pN,q_]
def aq1(P)(t)(k:IntKind)(a b:Int):ew P .quo t (.int k a) (.int k b)=if b=0 then none else some (.int k (k.wrap (a.tdiv b))):=by simp[ew,pN,q_]
def tA{P}{op}{t}{c}{x y}(h:Ep x y=false):lN P op t c x y=ew P op t x y:=by simp[lN,h]
def aq2(P)(op)(t)(c)(k)(a)(y):lN P op t c (.int k a) y=ew P op t (.int k a) y:=tA rfl
def alq(P)(op)(t)(c)(a)(y):lN P op t c (.bool a) y=ew P op t (.bool a) y:=tA rfl
def aq3(P)(op)(t)(c)(a)(y):lN P op t c (.str a) y=ew P op t (.str a) y:=tA rfl
def aq4(P)(op)(t)(c)(o)(a)(y):lN P op t c (.vec o a) y=ew P op t (.vec o a) y:=tA rfl
def O4(P)(op)(t)(c)(a b)(y):lN P op t c (.ptr a b) y=ew P op t (.ptr a b) y:=tA rfl
def alr(P)(op)(t)(c)(a)(y):lN P op t c (.rptr a) y=ew P op t (.rptr a) y:=tA rfl
attribute [go_sem ↓] aq2 alq aq3 aq4 O4 alr
def ah4(P)(op)(t)(a b):ew P op t (.str a) (.str b)=jS op a b:=(rfl)
def Yn(P)(rs):finish P rs (.ret,α,H)=an (kT P α H rs) λa=>some (qz a,H):=(rfl)
def afS(P)(rs):finish P rs (.normal,α,H)=an (kT P α H rs) λa=>some (qz a,H):=(rfl)
def Yo(P):kT P α H []=some []:=(rfl)
def als(P)(t)(r):kT P α H (.tmp t::r)=an (kT P α H r) λa=>some (α t::a):=(rfl)
def Yp(P:Program)(H:ab)(t:TypeId)(v:AV):Option AV:=match v with| .ptr id off=>kH P H t (.ptr id off)|_=>none
def UH(P)(t)(id off:Nat):Yp P H t (.ptr id off)=kH P H t (.ptr id off):=(rfl)
def WK(P)(a)(t)(r:List ResultVar):kT P α H (.cell a t::r)=an (Yp P H t (α a)) λv=>an (kT P α H r) λb=>some (v::b):=(rfl)
def Vf(v):qz [v]=v:=(rfl)
def afT(v v2):qz [v,v2]=.tup [v,v2]:=(rfl)
def aeE(v v2 v3):qz [v,v2,v3]=.tup [v,v2,v3]:=(rfl)
def pQ(r:Option (AV×ab)):Option AV:=match r with|some p=>some p.1|none=>none
def afU(v:AV):pQ (some (v,H))=some v:=(rfl)
@[congr] theorem aCT {r a:Option (AV×ab)} (h:r=a):pQ r=pQ a:=by rw[h]
def G7{f}{fn:Func}{c}{args bW:List AV}{v b:AV}(l:E.G f=true)(k:E.df f=false)(j:E.P.funcs[f]? =some fn)(g:fn.body=some c)(m:args.length<=fn.ntmps)(d:args.map AV.erase=bW)
  (e:AV.aq.go bW=true) (a:pQ (an (aP E (run E) aJ c (jy bW) .empty) (finish E.P fn.results.toList))=some v) (h:v.erase=b) (i:b.aq=true):
  aI E.P (run E) f args=some b:=by
 unfold aI;rw[d,ν e,BX l k j g (by rw[<-d];simpa using m)]
 cases hq:an (aP E (run E) aJ c (jy bW) .empty) (finish E.P fn.results.toList) with
 |none=>rw[hq] at a;cases a
 |some p=>obtain⟨u,H'⟩:=p;rw[hq] at a;simp[pQ] at a;subst a;simp only;rw[h,ν i]
end
def sC(cs:List AV):(AV.agg cs).erase=.agg (cs.map AV.bare):=(rfl)
def O5(k)(n):(AV.int k n).erase=.int k n:=(rfl)
def alu(b):(AV.bool b).erase=.bool b:=(rfl)
def aao(l):(AV.str l).erase=.str l:=(rfl)
def O6(o:Own)(l):(AV.vec o l).erase=.vec o.bare l:=(rfl)
def sD(k)(n):(AV.int k n).bare=.int k n:=(rfl)
def HM(b):(AV.bool b).bare=.bool b:=(rfl)
def Ck(l):(AV.str l).bare=.str l:=(rfl)
def O7(o:Own)(l):(AV.vec o l).bare=.vec o.bare l:=(rfl)
def av4(i:Decidable True): @decide True i=true:=ai
def av5(i:Decidable False): @decide False i=false:=ai
attribute [go_sem] ae4 br
attribute [go_sem] aEL Option.map_none VR av4 av5 sC O5 alu aao O6 sD HM Ck O7
attribute [go_sem ↓] aqJ ak5 ak6 Nq ak7 uT agM aqK ak8 ahV afN ali agO alj alk aeC aeD ahY ahZ alm afQ afR ah0 ah1 ae5 ae6 ah2 aqO ah3 aem aln agP aqP aqR
attribute [go_sem ↓] O1 Qa Qb aan WH WI Va Vb Vc Vd Uh Mz UG VP WD
attribute [go_sem] O1 Qa Qb Va Vb Vc Vd Uh aan WH ald ale ahW alf alg WI ahX alh UG VP WD aeh ae2 aeA WE Mz ae3 afO afP Ym ab.empty VQ heap_set GR MA tj WG aqS aqT aqU aqV aqW aqX aqY aqZ aq0 aq1 ah4 alo alp Yn afS Yo als UH WK Vf afT aeE afU
attribute [go_sem] aDu aDA aDR aDm aEr
def aD(r:Option dZ)(P:Ex->az->ab->Prop):Prop:=match r with|some (e,α,H)=>P e α H|none=>False
def ah5(e)(α)(H)(P:Ex->az->ab->Prop):aD (some (e,α,H)) P=P e α H:=(rfl)
@[congr] theorem aCY {r a:Option dZ} {P:Ex->az->ab->Prop} (h:r=a):aD r P=aD a P:=by rw[h]
def kf{r}{P:Ex->az->ab->Prop}(h:aD r P):∃e α H,r=some (e,α,H)/\P e α H:=by
 unfold aD at h;split at h
 ·exact⟨_,_,_,rfl,h⟩
 ·exact h.elim
def aT{r}{P Q:Ex->az->ab->Prop}(h:aD r P)(hi:∀e α H,P e α H->Q e α H):aD r Q:=by obtain⟨e,α,H,rfl,a⟩:=kf h;exact hi _ _ _ a
def N4{g}(I:Nat->az->ab->Prop)(N:Nat)(P:Ex->az->ab->Prop)
  (l:∀i α H,i<N->I i α H->aD (g α H) λe a H'=>e=.normal/\I (i+1) a H')
  (f:∀α H,I N α H->aD (g α H) λe a H'=>e≠.normal/\P e a H'):
  ∀k i α H,i+k=N->I i α H->aD (aJ g α H) P
 |0,i,α,H,m,h=>by
  have:i=N:=aa;subst this;obtain⟨e,a,H',d,c,b⟩:=kf (f α H h);rw[aG,d]
  cases e with
  |normal=>exact(c rfl).elim
  |exit j=>exact b
  |ret=>exact b
 |k+1,i,α,H,m,h=>by obtain⟨e,a,H',d,c,b⟩:=kf (l i α H aa h);subst c;rw[aG,d];exact N4 I N P l f k (i+1) a H' aa b
def gB{E}{call}{c}{α}{H}:aP E call aJ (.loop c) α H=aJ (aP E call aJ c) α H:=(rfl)
def Nr{E}{call}{loop}(a b)(α)(H)(P:Ex->az->ab->Prop)
  (h:aD (aP E call loop a α H) λe c H'=>e=.normal/\aD (aP E call loop b c H') P):aD (aP E call loop (.seq a b) α H) P:=by
 obtain⟨e,c,H',d,f,g⟩:=kf h;subst f;rw[uT,d];exact g
def aq5{E}{c}{α}{H}{call}{loop}{fin}{v:AV}
  (h:aD (aP E call loop c α H) λe a H'=>pQ (fin (e,a,H'))=some v):pQ (an (aP E call loop c α H) fin)=some v:=by
 obtain⟨e,a,H',b,d⟩:=kf h;rw[b];exact d
attribute [go_sem] ah5
end Go.Ab
