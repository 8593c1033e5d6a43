/- LintFinds: part 3 of its proof. -/
import Derived.Test.YtmehamiifalmaaaGreatDoorG1
import Derived.Defers
import Derived.LoopN
set_option linter.all false
namespace Go.Ab
open Go Go.RowKit
def zl(E:Env)(ops:Array Oper):Nat->Nat->Array Bool->Bool
 |0,_,listed=>(Region.ready .any ops listed).isEmpty
 |fuel+1,k,listed=>(Region.ready .any ops listed).contains k&&A0 E ops listed k&&zl E ops fuel (k+1) (listed.setIfInBounds k true)
def F5(E:Env)(ops:Array Oper):Nat->List Oper->Bool
 |_,[]=>true
 |k,o::rest=>o.after.all (λe=> !Region.binds .any e||decide (e.on<k))&&
   rest.all (λa=>a.after.any (λe=>Region.binds .any e&&e.on==k)||(o.apart ops a&&vl (bT E o.op) (bT E a.op)))&&F5 E ops (k+1) rest
def ID(E:Env)(ops:Array Oper):Bool:=zl E ops ops.size 0 (Array.replicate ops.size false)
section
variable {E:Env} {call:cu}
def aiq{α a}{x}(h:∀t,x=.tmp t->α t=a t):ev α x=ev a x:=by
 cases x with
 |tmp t=>exact h t rfl
 |_=>rfl
def ae3{P}(op:Op){ρ b}(h:∀x∈op.operands,ρ x=b x)(H):lq P op ρ H=lq P op b H:=by
 cases op<;>simp only[Op.operands] at h<;>simp only[lq]
 case build t ps=>
  rw[aEN (l:=ps.toList) (g:=λp=>(p.1,b p.2))];intro p d;rw[h p.2 (by simp;exact⟨p.1,by simpa using d⟩)]
 case makeFunc f first cap=>
  rw[aEN (l:=first.toList) (g:=b) λx a=>h x (by simp at a;simp[a]),aEN (l:=cap.toList) (g:=b) λx a=>h x (by simp at a;simp[a])]
 case slice t x lo hi mx=>
  cases mx<;>simp only<;>cases lo<;>cases hi<;>simp_all
 case call c=>
  have:c.args.toList.map ρ=c.args.toList.map b:=aEN λx a=>h x (by simp only[Call.operands];exact aGP.2 (.inr (by simpa using a)));rw[this]
 all_goals(first|rfl|(simp_all;done))
def UN(op:Op){ρ e}(h:∀x∈op.operands,ρ x=e x)(H):bh E call op ρ H=bh E call op e H:=by
 have d:=ae3 (P:=E.P) op h H;cases op<;>simp[bh]<;>(try rw[d])<;>simp only[Op.operands] at h
 case box t x=>rw[h x ah]
 case mapUpdate t m k x=>rw[h m ah,h k ah,h x ah]
 case insert t m k x=>rw[h m ah,h k ah,h x ah]
 case store t a x=>rw[h a ah,h x ah]
 case buildSlice t n ps=>
  rw[aEN (l:=ps.toList) (g:=λp=>(p.1,e p.2))];intro p d;rw[h p.2 (by simp;exact⟨p.1,by simpa using d⟩)]
 case call c=>
  have:c.args.toList.map ρ=c.args.toList.map e:=aEN λx i=>h x (by simp only[Call.operands];exact aGP.2 (.inr (by simpa using i)));unfold tX
  cases hc:c.callee with
  |value f=>simp only;rw[this,h f (by simp[Call.operands,hc])]
  |builtin b=>cases b<;>simp only<;>(first|rw[this]|rw[d])
  |invoke r m=>simp only;rw[d]
def agh{P}(op)(b:∀t a,op≠.load t a)(hm:∀t m k ok,op≠.lookup t m k ok)(ρ)(H H'):lq P op ρ H=lq P op ρ H':=by
 cases op<;>simp[lq];case load t a=>exact absurd rfl (b t a)
 case lookup t m k ok=>exact absurd rfl (hm t m k ok)
def air(op)(h:bT E op=.ins)(ρ)(hf:∀g,ρ (.func g)=.fn (.func g) [] []):∃r:Option AV,∀H,bh E call op ρ H=r.map λv=>(v,H):=by
 have base:∀d:Op,(∀t a,d≠.load t a)->(∀t m k ok,d≠.lookup t m k ok)->∃r:Option AV,∀H,(an (lq E.P d ρ H) λv=>some (v,H))=r.map λv=>(v,H):=λd e hm=>
  ⟨lq E.P d ρ .empty,λH=>by rw[agh d e hm ρ H .empty];cases lq E.P d ρ .empty<;>rfl⟩
 cases op<;>simp[bT] at h<;>simp[bh]
 case buildSlice t len parts=>
  refine⟨(dZ E.P t len (parts.toList.map λp=>(p.1,ρ p.2)) .empty).map (·.1),λH=> ?_⟩;unfold dZ;split<;>(try rfl)
  split<;>(try rfl)
  split<;>rfl
 case call c=>
  unfold tX
  cases hc:c.callee with
  |value f=>
   simp[hc] at h
   cases f with
   |func g=>
    simp only at h;split at h
    ·rename_i i;simp only[dD,hf,target,i,aEl];exact⟨aK E.P call g ([]++c.args.toList.map ρ++[]),λH=>by cases aK E.P call g ([]++c.args.toList.map ρ++[])<;>rfl⟩
    ·cases h
   |_=>simp at h
  |builtin b=>
   cases b
   case len=>
    simp[hc] at h;refine⟨(td E.P c.argTypes (c.args.toList.map ρ) .empty).map (·.1),λH=> ?_⟩;simp only;unfold td;split
    ·split
     ·rename_i hm;simp[hm] at h
     ·rfl
    ·cases gB E.P c.argTypes (c.args.toList.map ρ)<;>rfl
   all_goals(simp[hc] at h<;>exact base _ (λ_ _=>ah) (λ_ _ _ _=>ah))
  |invoke r m=>exact base _ (λ_ _=>ah) (λ_ _ _ _=>ah)
 all_goals exact base _ (λ_ _=>ah) (λ_ _ _ _=>ah)
def aw2(α):∀g,ev α (.func g)=.fn (.func g) [] []:=λ_=>rfl
end
section
variable {E:Env} {call:cu} {ops:Array Oper}
def mg(E:Env)(call:cu)(ops:Array Oper)(i:Nat)(α:az)(H:ab)(K:az->ab->Prop):Prop:=
 match ops[i]? with
 |none=>K α H
 |some o=>match iI ops o.guard α with
  |some true=>∃v H',bh E call o.op (ev α) H=some (v,H')/\K (put α o.dst v) H'
  |some false=>K (put α o.dst gz) H
  |none=>False
def Vt{i:Nat}{α:az}{H:ab}{K d:az->ab->Prop}(h:∀α H,K α H->d α H)(a:mg E call ops i α H K):mg E call ops i α H d:=by
 unfold mg at*
 split
 ·rename_i c;simp[c] at a;exact h _ _ a
 ·rename_i o c;simp[c] at a;split
  ·rename_i b;simp[b] at a;obtain⟨v,H',f,e⟩:=a;exact⟨v,H',f,h _ _ e⟩
  ·rename_i b;simp[b] at a;exact h _ _ a
  ·rename_i b;simp[b] at a
def uj(E:Env)(call:cu)(ops:Array Oper)(Q:az->ab->Prop):Nat->Array Bool->az->ab->Prop
 |0,listed,α,H=>Region.ready .any ops listed=[]/\Q α H
 |fuel+1,listed,α,H=>
  (Region.ready .any ops listed=[]->Q α H)/\
  ∀i∈Region.ready .any ops listed,mg E call ops i α H (uj E call ops Q fuel (listed.setIfInBounds i true))
def lk(E:Env)(call:cu)(ops:Array Oper)(o:Oper)(α:az)(H:ab)(v:AV)(H':ab):Prop:=
 (iI ops o.guard α=some true/\bh E call o.op (ev α) H=some (v,H'))\/(iI ops o.guard α=some false/\v=gz/\H'=H)
def lk.mg{i}{o:Oper}{α:az}{H H':ab}{v:AV}(hi:ops[i]? =some o)(c:lk E call ops o α H v H'){K:az->ab->Prop}(h:K (put α o.dst v) H'):mg E call ops i α H K:=by
 unfold Ab.mg;simp[hi];rcases c with⟨a,b⟩|⟨a,rfl,rfl⟩
 ·simp[a];exact⟨v,H',b,h⟩
 ·simp[a];exact h
def aeN{i:Nat}{o:Oper}{α:az}{H:ab}{K:az->ab->Prop}(hi:ops[i]? =some o)(h:mg E call ops i α H K):∃v H',lk E call ops o α H v H'/\K (put α o.dst v) H':=by
 unfold mg at h;simp[hi] at h;split at h
 ·rename_i a;obtain⟨v,H',b,c⟩:=h;exact⟨v,H',.inl ⟨a,b⟩,c⟩
 ·rename_i a;exact⟨gz,H,.inr ⟨a,rfl,rfl⟩,h⟩
 ·cases h
def put_comm(α){x y}(v u)(h:∀d,x=some d->y≠some d):put (put α x v) y u=put (put α y u) x v:=by
 cases x with
 |none=>rfl
 |some d=>
  cases y with
  |none=>rfl
  |some e=>
   have f:d≠e:=λc=>h d rfl (c▸rfl);funext i;simp[put];by_cases a:i=e
   ·subst a;simp[aFw f]
   ·by_cases b:i=d
    ·subst b;simp[a]
    ·simp[a,b]
def arp{α}{dst}{v}{x}(h:∀d,dst=some d->x≠.tmp d):ev (put α dst v) x=ev α x:=by
 cases dst with
 |none=>rfl
 |some d=>
  cases x with
  |tmp t=>have a:t≠d:=λe=>h d rfl (e▸rfl);simp[ev,put,a]
  |_=>rfl
def Xd(o:Oper)(α)(dst)(v)(h:∀d,dst=some d->d∉o.looksAt ops)(H):bh E call o.op (ev (put α dst v)) H=bh E call o.op (ev α) H:=
 UN o.op (λx b=>arp λd a c=>h d a (by
  subst c
  exact aFx _ (aGF.2 ⟨.tmp d,by simpa using b,rfl⟩))) H
def UY(o:Oper)(α)(dst)(v)(h:∀d,dst=some d->d∉o.looksAt ops):iI ops o.guard (put α dst v)=iI ops o.guard α:=by
 cases dst with
 |none=>rfl
 |some d=>
  unfold iI
  cases hg:o.guard with
  |none=>rfl
  |some a=>
   obtain⟨g,want⟩:=a;simp only
   cases ht:(ops[g]?).bind (·.dst) with
   |none=>rfl
   |some t=>have b:t≠d:=λe=>h d rfl (by subst e;simp[Oper.looksAt,hg,ht]);simp[put,b]
def lk.put{o:Oper}{α}{H H'}{v}(a:lk E call ops o α H v H')(dst)(u)(h:∀d,dst=some d->d∉o.looksAt ops):lk E call ops o (put α dst u) H v H':=by
 unfold lk at*
 rw[UY o α dst u h,Xd o α dst u h];exact a
def IE{op}(h:bT E op=.rd){ρ}{H H'}{v}(b:bh E call op ρ H=some (v,H')):H'=H:=by
 cases op<;>simp[bT] at h
 case load t a=>
  simp[bh] at b
  cases hl:lq E.P (.load t a) ρ H with
  |none=>simp[hl,an] at b
  |some x=>simp[hl,an] at b;exact b.2.symm
 case lookup t m k ok=>
  simp[bh] at b
  cases hl:lq E.P (.lookup t m k ok) ρ H with
  |none=>simp[hl,an] at b
  |some x=>simp[hl,an] at b;exact b.2.symm
 case call c=>
  split at h
  ·split at h<;>cases h
  ·cases h
  ·cases h
  ·rename_i d;simp[bh,tX,d] at b;unfold td at b;split at b
   ·split at b
    ·split at b
     ·simp at b;exact b.2.symm
     ·cases b
    ·cases b
   ·cases hl:gB E.P c.argTypes (c.args.toList.map ρ) with
    |none=>simp[hl,an] at b
    |some x=>simp[hl,an] at b;exact b.2.symm
  ·cases h
def ET{op}(h:bT E op=.ins){α}{H H'}{v}(a:bh E call op (ev α) H=some (v,H')):H'=H/\∀H2,bh E call op (ev α) H2=some (v,H2):=by
 obtain⟨r,b⟩:=air (call:=call) op h (ev α) (aw2 α);rw[b] at a
 cases r with
 |none=>simp at a
 |some x=>simp at a;obtain⟨rfl,rfl⟩:=a;exact⟨rfl,λH2=>by rw[b];rfl⟩
def ahj{e c:Oper}(b:vl (bT E e.op) (bT E c.op)=true){α}{H H1 H2}{v u}
  (d:bh E call e.op (ev α) H=some (v,H1)) (a:bh E call c.op (ev α) H1=some (u,H2)):
  ∃g,bh E call c.op (ev α) H=some (u,g)/\bh E call e.op (ev α) g=some (v,H2):=by
 cases hi:bT E e.op with
 |ins=>obtain⟨rfl,f⟩:=ET hi d;exact⟨H2,a,f H2⟩
 |rd=>
  have:=IE hi d;subst this
  cases hj:bT E c.op with
  |ins=>obtain⟨rfl,_⟩:=ET hj a;exact⟨H2,a,d⟩
  |rd=>have:=IE hj a;subst this;exact⟨H2,a,d⟩
  |wr=>rw[hi,hj] at b;simp[vl] at b
 |wr=>
  cases hj:bT E c.op with
  |ins=>obtain⟨rfl,f⟩:=ET hj a;exact⟨H,f H,d⟩
  |rd=>rw[hi,hj] at b;simp[vl] at b
  |wr=>rw[hi,hj] at b;simp[vl] at b
def ahk{j}{a b:Oper}{v:AV}{α:az}{H H1:ab}(g:ops[j]? =some b)(t:a.apart ops b=true)(q:vl (bT E a.op) (bT E b.op)=true){K:az->ab->Prop}
  (s:lk E call ops a α H v H1) (h:mg E call ops j (put α a.dst v) H1 K):
  mg E call ops j α H (λm H'=>∃i,lk E call ops a m H' v i/\K (put m a.dst v) i):=by
 obtain⟨n,o,h3⟩:=Oper.apart_spec t;obtain⟨u,H2,c,f⟩:=aeN g h;have d:lk E call ops b α H1 u H2:=by unfold lk at c⊢;rwa [UY b α a.dst v n,Xd b α a.dst v n] at c
 rw[put_comm α v u o] at f;rcases s with⟨e,l⟩|⟨e,rfl,rfl⟩
 ·rcases d with⟨k,p⟩|⟨k,rfl,rfl⟩
  ·obtain⟨i,w,r⟩:=ahj q l p;exact lk.mg g (.inl ⟨k,w⟩) ⟨H2,lk.put (.inl ⟨e,r⟩) _ _ h3,f⟩
  ·exact lk.mg g (.inr ⟨k,rfl,rfl⟩) ⟨H2,lk.put (.inl ⟨e,l⟩) _ _ h3,f⟩
 ·exact lk.mg g d ⟨H2,lk.put (.inr ⟨e,rfl,rfl⟩) _ _ h3,f⟩
def HF{i}{c:Oper}{listed:Array Bool}(hi:ops[i]? =some c)(h:A0 E ops listed i=true)(j)(b:Oper)(d:ops[j]? =some b)(f:j≠i)(k:listed.getD j true=false)
  (l:∀e∈b.after,Region.binds .any e=true->e.on≠i):c.apart ops b=true/\vl (bT E c.op) (bT E b.op)=true:=by
 simp only[A0,hi,aEi,aER] at h;have a:=h j (Α.1 d).1;simp only[d,aFm,aFl,f,false_or,k,υ] at a;rcases a with a|a
 ·obtain⟨e,g,hb⟩:=aGa.1 a;simp at hb;exact absurd hb.2 (l e g hb.1)
 ·simpa using a
def Hz{Q:az->ab->Prop}{i:Nat}{b:Oper}{v:AV}(hi:ops[i]? =some b):
  ∀fuel listed α H H1,
   (∀j f,ops[j]? =some f->j≠i->listed.getD j true=false->(∀e∈f.after,Region.binds .any e=true->e.on≠i)->b.apart ops f=true/\vl (bT E b.op) (bT E f.op)=true)->
   i∈Region.ready .any ops listed->lk E call ops b α H v H1->
   uj E call ops Q fuel (listed.setIfInBounds i true) (put α b.dst v) H1->uj E call ops Q (fuel+1) listed α H:=by
 intro fuel
 induction fuel with
 |zero=>
  intro listed α H H1 _ d m g;refine⟨λh=>(by rw[h] at d;cases d),λj n=> ?_⟩;by_cases a:j=i
  ·subst a;exact m.mg hi g
  ·have:=ready_mono n a;rw[g.1] at this;cases this
 |succ fuel ih=>
  intro listed α H H1 y d m g;refine⟨λh=>(by rw[h] at d;cases d),λj n=> ?_⟩;by_cases a:j=i
  ·subst a;exact m.mg hi g
  ·have c:=g.2 j (ready_mono n a);obtain⟨l,f,z,J⟩:=aFZ.1 n
   have s:∀e∈f.after,Region.binds .any e=true->e.on≠i:=λe K hb q=>by
    have c:=J e K hb;have w:=(aFZ.1 d).1;rw[q] at c;rcases aFv i listed.size with r|r
    ·simp[r] at w c;rw[w] at c;cases c
    ·simp[aFH r] at c
   obtain⟨u,t⟩:=y j f z a l s
   have p:∀k ok,ops[k]? =some ok->k≠i->(listed.setIfInBounds j true).getD k true=false->
     (∀e∈ok.after,Region.binds .any e=true->e.on≠i)->b.apart ops ok=true/\vl (bT E b.op) (bT E ok.op)=true:=λk ok D o A C=>by
    refine y k ok D o ?_ C;by_cases x:j=k
    ·subst x;exact l
    ·rw[getD_set_ne true x] at A;exact A
   refine Vt (λG H' h3=> ?_) (ahk z u t m c);obtain⟨B,I,F⟩:=h3;refine ih (listed.setIfInBounds j true) G H' B p (ready_mono d (aFw a)) I ?_;rw[Array.setIfInBounds_comm _ _ a];exact F
def M7{Q:az->ab->Prop}:∀l k listed α H c H',(∀j,l[j]? =ops[k+j]?)->
  zl E ops l.length k listed=true->gv E call ops l α H=some (c,H')->Q c H'->uj E call ops Q l.length listed α H
 |[],_,listed,α,H,c,H',_,d,a,f=>by simp[gv] at a;obtain⟨rfl,rfl⟩:=a;exact⟨by simpa[zl] using d,f⟩
 |o::l,k,listed,α,H,c,H',h,d,a,f=>by
  have e:ops[k]? =some o:=by simpa using(h 0).symm
  simp[zl] at d;obtain⟨⟨i,hf⟩,g⟩:=d;have m:∀j,l[j]? =ops[k+1+j]? :=λj=>by have:=h (j+1);simpa[aFz,aFp 1 j] using this
  simp[gv,an] at a
  cases hw:iI ops o.guard α with
  |none=>simp[hw] at a
  |some b=>
   simp[hw] at a
   cases b with
   |true=>
    simp[c_] at a
    cases hs:bh E call o.op (ev α) H with
    |none=>simp[hs] at a
    |some p=>obtain⟨v,H1⟩:=p;simp[hs] at a;exact Hz e l.length listed α H H1 (HF e hf) (by simpa using i) (.inl ⟨hw,hs⟩) (M7 l (k+1) _ _ _ _ _ m g a f)
   |false=>simp[c_] at a;exact Hz e l.length listed α H H (HF e hf) (by simpa using i) (.inr ⟨hw,rfl,rfl⟩) (M7 l (k+1) _ _ _ _ _ m g a f)
def Ji(n k:Nat)(listed:Array Bool):Prop:=listed.size=n/\∀j d,listed.getD j d=if j<n then decide (j<k) else d
def Ji.set{n k}{listed:Array Bool}(h:Ji n k listed)(c:k<n):Ji n (k+1) (listed.setIfInBounds k true):=by
 refine⟨by simp[h.1],λj d=> ?_⟩;by_cases a:j=k
 ·subst a;simp[h.1,c]
 ·have:=h.2 j d;simp[aFT] at this⊢;rw[aEL (aFw a),this];by_cases b:j<n
  ·simp[b];have:(j<k)=(j<k+1):=by apply propext;omega
   simp[this]
  ·simp[b]
def UO:∀l k listed,(∀j,l[j]? =ops[k+j]?)->k+l.length=ops.size->Ji ops.size k listed->F5 E ops k l=true->zl E ops l.length k listed=true
 |[],k,listed,d,f,a,_=>by simp[zl,aGs];rw[aFC];intro j b;obtain⟨c,o,r,_⟩:=aFZ.1 b;have g:j<ops.size:=(Α.1 r).1;rw[a.2,μ g] at c;simp at f c;omega
 |o::l,k,listed,d,f,a,h=>by
  simp only[F5,Ω] at h;obtain⟨⟨c,t⟩,h3⟩:=h;simp only[Γ] at f;have i:k<ops.size:=aa;have m:ops[k]? =some o:=by simpa using(d 0).symm
  have p:∀j,l[j]? =ops[k+1+j]? :=λj=>by have:=d (j+1);simpa[aFz,aFp 1 j] using this
  simp only[Γ,zl,Ω];refine⟨⟨?_,?_⟩,UO l (k+1) _ p aa (a.set i) h3⟩
  ·rw[aEs,aFZ];refine⟨by rw[a.2,μ i];simp,o,m,λe u hb=> ?_⟩;have:=aEV.1 c e u;simp[hb] at this;rw[a.2,xD];simpa using this
  ·simp only[A0,m,aEi,aER];intro j b;by_cases q:j=k
   ·simp[q]
   ·by_cases g:j<k
    ·rw[a.2,μ b];simp[g]
    ·have n:ops[j]? =some ops[j]:=aEE b;have s:ops[j]∈l:=by have:=p (j-(k+1));rw[show k+1+(j-(k+1))=j from aa,n] at this;exact Δ this
     have:=aEi.1 t _ s;simp only[n];rw[this];simp
def aeO(h:F5 E ops 0 ops.toList=true):ID E ops=true:=by
 unfold ID
 have:=UO (ops:=ops) ops.toList 0 (Array.replicate ops.size false) ah ah ⟨ah,λj d=>by
  by_cases a:j<ops.size
  ·simp[a]
  ·simp[a]⟩ h
 simpa using this
def agi:∀a b,OO a b=true->a=b:=by
 intro a b h;unfold OO at h;split at h
 ·split at h
  ·rename_i a b;simp at h;rw[h]
  ·cases h
 ·split at h
  ·rfl
  ·cases h
 ·split at h
  ·rfl
  ·cases h
 ·split at h
  ·rename_i a b;simp at h;rw[h.1,h.2]
  ·cases h
 ·cases h
def ahl:∀a b,PF a b=true->a=b:=by
 intro a b h;unfold PF at h;split at h
 ·split at h
  ·simp at h;rw[h]
  ·cases h
 ·cases h
def agj:∀a b,yv a b=true->a=b:=by
 intro a b h;unfold yv at h;split at h<;>(try rfl)
 ·simp at h;rw[h]
 ·cases h
mutual
def Cb:∀a b,dt a b=true->a=b
 | .int k a,b,h=>by cases b<;>simp only[dt,υ] at h;simp only[Ω,aEn,aFl] at h;rw[h.1,h.2]
 | .bool a,b,h=>by cases b<;>simp only[dt,υ] at h;simp only[aFl] at h;rw[h]
 | .str a,b,h=>by cases b<;>simp only[dt,υ] at h;simp only[aFl] at h;rw[h]
 | .agg xs,b,h=>by cases b<;>simp only[dt,υ] at h;rw[wH xs _ h]
 | .tup xs,b,h=>by cases b<;>simp only[dt,υ] at h;rw[wH xs _ h]
 | .rptr xs,b,h=>by cases b<;>simp only[dt,υ] at h;rw[wH xs _ h]
 | .ptr a c,b,h=>by cases b<;>simp only[dt,υ] at h;simp only[Ω,aFl] at h;rw[h.1,h.2]
 | .sl a c d e,b,h=>by cases b<;>simp only[dt,υ] at h;simp only[Ω,aFl] at h;rw[h.1.1.1,h.1.1.2,h.1.2,h.2]
 | .map a,b,h=>by cases b<;>simp only[dt,υ] at h;simp only[aFl] at h;rw[h]
 | .vec o xs,b,h=>by cases b<;>simp only[dt,υ] at h;simp only[Ω] at h;rw[agj _ _ h.1,wH xs _ h.2]
 | .val v,b,h=>by cases b<;>simp only[dt,υ] at h;rw[agi _ _ h]
 | .fn f xs ys,b,h=>by cases b<;>simp only[dt,υ] at h;simp only[Ω] at h;rw[ahl _ _ h.1.1,wH xs _ h.1.2,wH ys _ h.2]
 | .ts,b,h=>by cases b<;>first|rfl|(simp only[dt,υ] at h)
 | .any,b,h=>by cases b<;>first|rfl|(simp only[dt,υ] at h)
 | .iface t x,b,h=>by cases b<;>simp only[dt,υ] at h;simp only[Ω,aEn] at h;rw[h.1,Cb x _ h.2]
def wH:∀xs ys,il xs ys=true->xs=ys
 |[],ys,h=>by cases ys with|nil=>rfl|cons=>simp[il] at h
 |a::xs,ys,h=>by
  cases ys with
  |nil=>simp[il] at h
  |cons b ys=>simp[il] at h;rw[Cb a b h.1,wH xs ys h.2]
end
def Vu{o:Oper}{α}{v}{H}(h:reads E call o α v H=true):∃H',bh E call o.op (ev α) H=some (v,H'):=by
 unfold reads at h;split at h
 ·rename_i u H' a;exact⟨H',by rw[a,Cb u v h]⟩
 ·cases h
def oH(E:Env)(call:cu)(ops:Array Oper)(o:Oper)(α:az)(H:ab):Option (Bool×AV×ab):=
 an (iI ops o.guard α) λb=>c_ b (an (bh E call o.op (ev α) H) λr=>some (true,r.1,r.2)) (some (false,gz,H))
def tr(E:Env)(call:cu)(ops:Array Oper)(α:az)(H:ab):Nat->az×ab
 |0=>(α,H)
 |k+1=>match ops[k]? with
  |some o=>match oH E call ops o (tr E call ops α H k).1 (tr E call ops α H k).2 with
   |some r=>(put (tr E call ops α H k).1 o.dst r.2.1,r.2.2)
   |none=>tr E call ops α H k
  |none=>tr E call ops α H k
def qa(E:Env)(call:cu)(ops:Array Oper)(α:az)(H:ab)(m:Nat):Prop:=
 ∃o r,ops[m]? =some o/\oH E call ops o (tr E call ops α H m).1 (tr E call ops α H m).2=some r/\
  (r.1=true->bT E o.op=.rd->∀j c d,j<m->ops[j]? =some c->oH E call ops c (tr E call ops α H j).1 (tr E call ops α H j).2=some d->d.1=true->bT E c.op=.wr->
   behind ops ops.size m j=true\/reads E call o (tr E call ops α H m).1 r.2.1 (tr E call ops α H j).2=true)/\
  (r.1=true->bT E o.op=.wr->∀i a b,i<m->ops[i]? =some a->oH E call ops a (tr E call ops α H i).1 (tr E call ops α H i).2=some b->b.1=true->bT E a.op=.rd->
   behind ops ops.size m i=true\/reads E call a (tr E call ops α H i).1 b.2.1 r.2.2=true)
def Tf{α}{H}:∀l k n g t H',(∀j,l[j]? =ops[k+j]?)->k+l.length=ops.size->
  (∀i f u,i<k->ops[i]? =some f->oH E call ops f (tr E call ops α H i).1 (tr E call ops α H i).2=some u->u.1=true->bT E f.op=.rd->(i,f,(tr E call ops α H i).1,u.2.1)∈n)->
  (∀j v w,j<k->ops[j]? =some v->oH E call ops v (tr E call ops α H j).1 (tr E call ops α H j).2=some w->w.1=true->bT E v.op=.wr->(j,(tr E call ops α H j).2)∈g)->
  eY E call ops k l n g (tr E call ops α H k).1 (tr E call ops α H k).2=some (t,H')->
  (∀m,k<=m->m<ops.size->qa E call ops α H m)/\tr E call ops α H ops.size=(t,H')
 |[],k,n,g,t,H',_,F,_,_,h=>by simp[eY] at h;simp at F;subst F;exact⟨λm d a=>absurd a aa,by rw[<-h.1,<-h.2]⟩
 |o::l,k,n,g,t,H',J,F,L,x,h=>by
  have s:ops[k]? =some o:=by simpa using(J 0).symm
  have M:∀j,l[j]? =ops[k+1+j]? :=λj=>by have:=J (j+1);simpa[aFz,aFp 1 j] using this
  simp at F;simp[eY] at h
  have key:∀r C D,oH E call ops o (tr E call ops α H k).1 (tr E call ops α H k).2=some r->
    (r.1=true->bT E o.op=.rd->(k,o,(tr E call ops α H k).1,r.2.1)∈C)->(∀q∈n,q∈C)->(r.1=true->bT E o.op=.wr->(k,(tr E call ops α H k).2)∈D)->(∀q∈g,q∈D)->
    eY E call ops (k+1) l C D (put (tr E call ops α H k).1 o.dst r.2.1) r.2.2=some (t,H')->qa E call ops α H k->
    (∀m,k<=m->m<ops.size->qa E call ops α H m)/\tr E call ops α H ops.size=(t,H'):=by
   intro r C D c P T Q R O S;have N:tr E call ops α H (k+1)=(put (tr E call ops α H k).1 o.dst r.2.1,r.2.2):=by simp[tr,s,c]
   have:=Tf (α:=α) (H:=H) l (k+1) C D t H' M aa ?_ ?_ (by rw[N];exact O)
   ·refine⟨λm d a=> ?_,this.2⟩;by_cases e:m=k
    ·subst e;exact S
    ·exact this.1 m aa a
   ·intro i f u hi z y d a;by_cases e:i=k
    ·subst e;rw[s] at z;cases z;rw[c] at y;cases y;exact P d a
    ·exact T _ (L i f u aa z y d a)
   ·intro j v w K B A d a;by_cases e:j=k
    ·subst e;rw[s] at B;cases B;rw[c] at A;cases A;exact Q d a
    ·exact R _ (x j v w aa B A d a)
  cases hw:iI ops o.guard (tr E call ops α H k).1 with
  |none=>simp[hw,an] at h
  |some b=>
   simp[hw,an] at h
   cases b with
   |false=>
    simp[c_] at h;have c:oH E call ops o (tr E call ops α H k).1 (tr E call ops α H k).2=some (false,gz,(tr E call ops α H k).2):=by simp[oH,hw,an,c_]
    exact key _ n g c ah (λ_ h=>h) ah (λ_ h=>h) h ⟨o,_,s,c,ah,ah⟩
   |true=>
    simp[c_] at h
    cases hs:bh E call o.op (ev (tr E call ops α H k).1) (tr E call ops α H k).2 with
    |none=>simp[hs] at h
    |some p=>
     simp[hs] at h;have c:oH E call ops o (tr E call ops α H k).1 (tr E call ops α H k).2=some (true,p.1,p.2):=by simp[oH,hw,an,c_,hs]
     cases hk:bT E o.op with
     |ins=>simp[hk] at h;exact key _ n g c (by simp[hk]) (λ_ h=>h) (by simp[hk]) (λ_ h=>h) h ⟨o,_,s,c,by simp[hk],by simp[hk]⟩
     |rd=>
      simp only[hk] at h;split at h
      ·rename_i I;refine key _ _ g c (λ_ _=>ah) (λq G=>by simp[G]) (by simp[hk]) (λ_ h=>h) h ⟨o,_,s,c,λ_ _ j v w K B A d a=> ?_,by simp[hk]⟩;have:=aEi.1 I _ (x j v w K B A d a);simpa using this
      ·cases h
     |wr=>
      simp only[hk] at h;split at h
      ·rename_i I;refine key _ n _ c (by simp[hk]) (λ_ h=>h) (λ_ _=>ah) (λq G=>by simp[G]) h ⟨o,_,s,c,by simp[hk],λ_ _ i f u hi z y d a=> ?_⟩;have:=aEi.1 I _ (L i f u hi z y d a);simpa using this
      ·cases h
def Bg(E:Env)(ops:Array Oper):Bool:=
 (List.range ops.size).all λk=>match ops[k]? with
  |some o=>o.after.all (λe=> !Region.binds .any e||decide (e.on<k))&&
    (List.range k).all λi=>behind ops ops.size k i||match ops[i]? with
     |some a=>a.apart ops o&& !(bT E a.op==.wr&&bT E o.op==.wr)
     |none=>false
  |none=>false
end
section
variable {E:Env} {call:cu} {ops:Array Oper} {α:az} {H:ab}
def lQ(ops:Array Oper)(m:Nat):Option Tmp:=(ops[m]?).bind (·.dst)
def th(E:Env)(call:cu)(ops:Array Oper)(α:az)(H:ab)(m:Nat):Option (Bool×AV×ab):=
 an ops[m]? λo=>oH E call ops o (tr E call ops α H m).1 (tr E call ops α H m).2
def oZ(E:Env)(call:cu)(ops:Array Oper)(α:az)(H:ab)(m:Nat):AV:=match th E call ops α H m with|some r=>r.2.1|none=>gz
def iy(E:Env)(call:cu)(ops:Array Oper)(α:az)(H:ab)(m:Nat):Bool:=
 match th E call ops α H m,ops[m]? with|some r,some o=>r.1&&decide (bT E o.op=.wr)|_,_=>false
def Fk(E:Env)(call:cu)(ops:Array Oper)(α:az)(H:ab)(p:Nat->Bool):Nat->az
 |0=>α
 |k+1=>if p k=true then put (Fk E call ops α H p k) (lQ ops k) (oZ E call ops α H k) else Fk E call ops α H p k
def Hk(E:Env)(call:cu)(ops:Array Oper)(α:az)(H:ab)(p:Nat->Bool):Nat->ab
 |0=>H
 |k+1=>if p k=true/\iy E call ops α H k=true then(tr E call ops α H (k+1)).2 else Hk E call ops α H p k
def agk{o:Oper}{r}{α}{H}(h:oH E call ops o α H=some r)(a:¬(r.1=true/\bT E o.op=.wr)):r.2.2=H:=by
 unfold oH at h
 cases hw:iI ops o.guard α with
 |none=>simp[hw,an] at h
 |some b=>
  simp[hw,an] at h
  cases b with
  |false=>simp[c_] at h;rw[<-h]
  |true=>
   simp[c_] at h
   cases hs:bh E call o.op (ev α) H with
   |none=>simp[hs] at h
   |some q=>
    simp[hs] at h;subst h
    cases sB:bT E o.op with
    |ins=>exact(ET sB hs).1
    |rd=>exact IE sB hs
    |wr=>exact absurd ⟨rfl,sB⟩ a
def OQ{m:Nat}(h:qa E call ops α H m):tr E call ops α H (m+1)=(put (tr E call ops α H m).1 (lQ ops m) (oZ E call ops α H m),(tr E call ops α H (m+1)).2)/\
  (iy E call ops α H m=false->(tr E call ops α H (m+1)).2=(tr E call ops α H m).2):=by
 obtain⟨o,r,a,b,_,_⟩:=h;have d:th E call ops α H m=some r:=by simp[th,a,an,b]
 have e:tr E call ops α H (m+1)=(put (tr E call ops α H m).1 o.dst r.2.1,r.2.2):=by simp[tr,a,b]
 constructor
 ·rw[e];simp[lQ,a,oZ,d]
 ·intro c;rw[e];simp only[iy,d,a,aGn,aFD] at c;exact agk b (by rintro⟨g,f⟩;rcases c with h|h;(rw[g] at h;cases h);exact h f)
def JU{i}(a:∀m,m<i->qa E call ops α H m):∀k,k<=i->Fk E call ops α H (λm=>decide (m<i)) k=(tr E call ops α H k).1
 |0,_=>rfl
 |k+1,hk=>by simp only[Fk];rw[μ aP,JU a k aa];have:=(OQ (a k aa)).1;rw[this]
def acz{i}:∀k,i<=k->Fk E call ops α H (λm=>decide (m<i)) k=Fk E call ops α H (λm=>decide (m<i)) i
 |0,a=>by have:i=0:=aa;subst this;rfl
 |k+1,a=>by
  by_cases e:i=k+1
  ·subst e;rfl
  ·simp[Fk];rw[κ aP];exact acz k aa
def FK{i}(b:∀m,m<i->qa E call ops α H m):∀k,k<=i->Hk E call ops α H (λm=>decide (m<i)) k=(tr E call ops α H k).2
 |0,_=>rfl
 |k+1,hk=>by
  simp only[Hk];by_cases a:iy E call ops α H k=true
  ·rw[μ ⟨aP,a⟩]
  ·rw[κ (λh=>a h.2),FK b k aa];exact((OQ (b k aa)).2 (by simpa using a)).symm
def QE{i}:∀k,i<=k->Hk E call ops α H (λm=>decide (m<i)) k=Hk E call ops α H (λm=>decide (m<i)) i
 |0,a=>by have:i=0:=aa;subst this;rfl
 |k+1,a=>by
  by_cases e:i=k+1
  ·subst e;rfl
  ·simp[Hk];rw[κ aP];exact QE k aa
def Ie{p q}{t:Tmp}:∀k,(∀m,m<k->p m≠q m->lQ ops m≠some t)->Fk E call ops α H p k t=Fk E call ops α H q k t
 |0,_=>rfl
 |k+1,h=>by
  have ih:=Ie (p:=p) (q:=q) (t:=t) k λm hm=>h m aa
  have l:∀f:az,lQ ops k≠some t->put f (lQ ops k) (oZ E call ops α H k) t=f t:=by
   intro f a
   cases hd:lQ ops k with
   |none=>rfl
   |some d=>simp only[put];rw[κ];rintro rfl;exact a hd
  have j:∀f g:az,f t=g t->put f (lQ ops k) (oZ E call ops α H k) t=put g (lQ ops k) (oZ E call ops α H k) t:=by
   intro f g c
   cases hd:lQ ops k with
   |none=>exact c
   |some d=>simp[put];split<;>simp_all
  simp[Fk];by_cases b:p k=q k
  ·rw[b];split
   ·exact j _ _ ih
   ·exact ih
  ·have a:=h k aa b;by_cases i:p k=true
   ·rw[μ i,κ (by rw[i] at b;exact λe=>b e.symm),l _ a];exact ih
   ·rw[κ i,μ (by cases hq:q k<;>simp_all),l _ a];exact ih
def Cq{p q}:∀k,(∀m,m<k->iy E call ops α H m=true->p m=q m)->Hk E call ops α H p k=Hk E call ops α H q k
 |0,_=>rfl
 |k+1,h=>by
  have ih:=Cq (p:=p) (q:=q) k λm hm=>h m aa;simp[Hk];by_cases a:iy E call ops α H k=true
  ·rw[h k aa a,ih]
  ·rw[κ (λh=>a h.2),κ (λh=>a h.2),ih]
def jC(p:Nat->Bool)(i:Nat):Nat->Bool:=λm=>if m=i then true else p m
def vm(p:Nat->Bool)(i:Nat):jC p i i=true:=by simp[jC]
def kO{p:Nat->Bool}{i m:Nat}(h:¬m=i):jC p i m=p m:=by simp[jC,h]
def Nw{p:Nat->Bool}{i:Nat}(e:p i=false):∀k,(∀m,i<m->m<k->p m=true->∀d,lQ ops i=some d->lQ ops m≠some d)->
  Fk E call ops α H (jC p i) k=if i<k then put (Fk E call ops α H p k) (lQ ops i) (oZ E call ops α H i) else Fk E call ops α H p k
 |0,_=>by simp[Fk]
 |k+1,h=>by
  have ih:=Nw e k λm f h2=>h m f aa;simp[Fk];rcases aFj k i with aO|b|c
  ·rw[kO (aa:¬k=i),ih,κ (aa:¬i<k),κ (aa:¬i<k+1)]
  ·subst b;rw[vm,μ rfl,ih];simp[e]
  ·rw[kO (aa:¬k=i),ih,μ c,μ (aa:i<k+1)];by_cases a:p k=true
   ·rw[μ a,μ a];exact put_comm _ _ _ (h k c aa a)
   ·rw[κ a,κ a]
def MV{p:Nat->Bool}{i:Nat}(b:iy E call ops α H i=true):∀k,i<k->(∀m,i<m->m<k->p m=true->iy E call ops α H m=false)->
  Hk E call ops α H (jC p i) k=(tr E call ops α H (i+1)).2
 |0,d,_=>by omega
 |k+1,d,h=>by
  simp[Hk];by_cases e:k=i
  ·subst e;rw[μ ⟨vm _ _,b⟩]
  ·rw[κ (λa=>by
    have c:=a.1;rw[kO e] at c;have:=h k aa aa c;rw[this] at a
    exact absurd a.2 ah)]
   exact MV b k aa λm f h2=>h m f aa
def YR{p}:∀k,(∃j,j<k/\p j=true/\iy E call ops α H j=true/\Hk E call ops α H p k=(tr E call ops α H (j+1)).2/\∀m,j<m->m<k->¬(p m=true/\iy E call ops α H m=true))\/
  ((∀m,m<k->¬(p m=true/\iy E call ops α H m=true))/\Hk E call ops α H p k=H)
 |0=>.inr ⟨λm hm=>absurd hm aa,rfl⟩
 |k+1=>by
  simp only[Hk];by_cases c:p k=true/\iy E call ops α H k=true
  ·exact .inl ⟨k,aa,c.1,c.2,by rw[μ c],λm d f=>absurd d aa⟩
  ·rw[κ c];rcases YR (p:=p) k with⟨j,d,f,h3,g,h5⟩|⟨d,f⟩
   ·refine .inl ⟨j,aa,f,h3,g,λm a b=> ?_⟩;by_cases e:m=k
    ·subst e;exact c
    ·exact h5 m a aa
   ·refine .inr ⟨λm hm=> ?_,f⟩;by_cases e:m=k
    ·subst e;exact c
    ·exact d m aa
def N4{a}:∀b,a<=b->(∀m,a<=m->m<b->qa E call ops α H m)->(∀m,a<=m->m<b->iy E call ops α H m=false)->(tr E call ops α H b).2=(tr E call ops α H a).2
 |0,h,_,_=>by have:a=0:=aa;subst this;rfl
 |b+1,h,f,d=>by
  by_cases e:a=b+1
  ·subst e;rfl
  ·rw[(OQ (f b aa aa)).2 (d b aa aa)];exact N4 b aa (λm c g=>f m c aa) (λm c g=>d m c aa)
def IF(f:Nat->Bool)(a:Nat):∀b,(∀m,a<=m->m<b->f m=false)\/∃m,a<=m/\m<b/\f m=true/\∀m',a<=m'->m'<m->f m'=false
 |0=>.inl λm _ h=>absurd h aa
 |b+1=>by
  rcases IF f a b with h|⟨m,c,d,h3,g⟩
  ·by_cases hb:a<=b/\f b=true
   ·exact .inr ⟨b,hb.1,aa,hb.2,λm' c d=>h m' c d⟩
   ·refine .inl λm c d=> ?_;by_cases e:m=b
    ·subst e;simpa[c] using hb
    ·exact h m c aa
  ·exact .inr ⟨m,c,aa,h3,g⟩
def vD(ops:Array Oper)(p:Nat->Bool):Prop:=∀j o e,p j=true->ops[j]? =some o->e∈o.after->Region.binds .any e=true->p e.on=true
def Es{p:Nat->Bool}(b:vD ops p):∀n j k,p j=true->behind ops n j k=true->p k=true
 |0,j,k,_,h=>by simp[behind] at h
 |n+1,j,k,g,h=>by
  simp[behind] at h;split at h
  ·rename_i o d;obtain⟨e,f,hb⟩:=aGa.1 h;simp at hb;have c:=b j o e g d f hb.1;rcases hb.2 with a|a
   ·rw[<-a];exact c
   ·exact Es b n e.on k c a
  ·cases h
def UP{p:Nat->Bool}(c:vD ops p){i:Nat}{o:Oper}(d:ops[i]? =some o)(g:∀e∈o.after,Region.binds .any e=true->p e.on=true)(n k:Nat)(h:behind ops n i k=true):p k=true:=by
 cases n with
 |zero=>simp[behind] at h
 |succ n=>
  simp only[behind,d] at h;obtain⟨e,f,hb⟩:=aGa.1 h;simp at hb;have b:=g e f hb.1;rcases hb.2 with a|a
  ·rw[<-a];exact b
  ·exact Es c n e.on k b a
def Nx(h:Bg E ops=true){k}{o:Oper}(g:ops[k]? =some o):(∀e∈o.after,Region.binds .any e=true->e.on<k)/\
  ∀i c,i<k->ops[i]? =some c->behind ops ops.size k i=true\/(c.apart ops o=true/\¬(bT E c.op=.wr/\bT E o.op=.wr)):=by
 unfold Bg at h;rw[aEi] at h;have p:k<ops.size:=(Α.1 g).1;have f:=h k (aER.2 p);simp only[g,Ω,aEi,aER,aFm] at f;obtain⟨m,l⟩:=f;refine⟨λe j hb=> ?_,λi c hi n=> ?_⟩
 ·have:=aEV.1 m e j;simp[hb] at this;exact this
 ·rcases l i hi with h3|h3
  ·exact .inl h3
  ·right;simp[n,aFk] at h3;refine⟨h3.1,?_⟩;rintro⟨a,b⟩;rcases h3.2 with d|d
   ·exact d a
   ·exact d b
def ye{x y:Oper}(h:x.apart ops y=true):(∀d,x.dst=some d->d∉y.looksAt ops)/\(∀d,x.dst=some d->y.dst≠some d)/\(∀d,y.dst=some d->d∉x.looksAt ops):=Oper.apart_spec h
def Ny(z:∀m,m<ops.size->qa E call ops α H m){p:Nat->Bool}(hd:vD ops p){i:Nat}{o:Oper}(w:ops[i]? =some o)(I:p i=false)
  (hr:∀e∈o.after,Region.binds .any e=true->p e.on=true)
  (R:∀m f,m<i->p m=false->behind ops ops.size i m=false->ops[m]? =some f->f.apart ops o=true/\¬(bT E f.op=.wr/\bT E o.op=.wr))
  (C:∀m f,i<m->p m=true->behind ops ops.size m i=false->ops[m]? =some f->o.apart ops f=true/\¬(bT E o.op=.wr/\bT E f.op=.wr)):
  ∃H',lk E call ops o (Fk E call ops α H p ops.size) (Hk E call ops α H p ops.size) (oZ E call ops α H i) H'/\
   put (Fk E call ops α H p ops.size) o.dst (oZ E call ops α H i)=Fk E call ops α H (jC p i) ops.size/\H'=Hk E call ops α H (jC p i) ops.size:=by
 have Z:i<ops.size:=(Α.1 w).1;have lU:lQ ops i=o.dst:=by simp[lQ,w]
 have G:∀m,m<i->p m=false->behind ops ops.size i m=false:=λm hm k=>by
  cases h:behind ops ops.size i m with
  |false=>rfl
  |true=>have:=UP hd w hr _ _ h;rw[k] at this;cases this
 have K:∀m,p m=true->behind ops ops.size m i=false:=λm k=>by
  cases h:behind ops ops.size m i with
  |false=>rfl
  |true=>have:=Es hd _ _ _ k h;rw[I] at this;cases this
 replace R:∀m f,m<i->p m=false->ops[m]? =some f->f.apart ops o=true/\¬(bT E f.op=.wr/\bT E o.op=.wr):=λm f hm k l=>R m f hm k (G m hm k) l;replace C:∀m f,i<m->p m=true->ops[m]? =some f->o.apart ops f=true/\¬(bT E o.op=.wr/\bT E f.op=.wr):=λm f hm k l=>C m f hm k (K m k) l
 have J:∀t,t∈o.looksAt ops->Fk E call ops α H p ops.size t=(tr E call ops α H i).1 t:=by
  intro t B;rw[<-JU (λm hm=>z m aa) i (ν _),<-acz ops.size aa];refine Ie _ λm hm T=> ?_;have l:ops[m]? =some ops[m]:=aEE hm;rcases aFj m i with D|u|P
  ·have k:p m=false:=by simpa[D] using T
   have:=(ye (R m _ D k l).1).1;simp[lQ,l];intro Y;exact this t Y B
  ·subst u;simp[I] at T
  ·have k:p m=true:=by
    have:decide (m<i)=false:=aP;rw[this] at T;simpa using T
   have:=(ye (C m _ P k l).1).2.2;simp[lQ,l];intro Y;exact this t Y B
 have Bh:∀x∈o.op.operands,ev (Fk E call ops α H p ops.size) x=ev (tr E call ops α H i).1 x:=λx hx=>aiq λt B=>J t (by
  subst B
  exact aFx _ (aGF.2 ⟨.tmp t,by simpa using hx,rfl⟩))
 have QF:∀H2,bh E call o.op (ev (Fk E call ops α H p ops.size)) H2=bh E call o.op (ev (tr E call ops α H i).1) H2:=λH2=>UN o.op Bh H2
 have S:iI ops o.guard (Fk E call ops α H p ops.size)=iI ops o.guard (tr E call ops α H i).1:=by
  unfold iI
  cases hg:o.guard with
  |none=>rfl
  |some gw=>
   obtain⟨g,want⟩:=gw;simp only
   cases B:(ops[g]?).bind (·.dst) with
   |none=>rfl
   |some t=>simp only;rw[J t (by simp[Oper.looksAt,hg,B])]
 obtain⟨o',r,O,v,we,BG⟩:=z i Z;rw[w] at O;cases O;have L:th E call ops α H i=some r:=by simp[th,w,an,v]
 have N:oZ E call ops α H i=r.2.1:=by simp[oZ,L]
 have JW:(tr E call ops α H (i+1)).2=r.2.2:=by simp[tr,w,v]
 have Q:put (Fk E call ops α H p ops.size) o.dst (oZ E call ops α H i)=Fk E call ops α H (jC p i) ops.size:=by rw[Nw I ops.size,μ Z,lU];intro m hm zI k d DX;have l:ops[m]? =some ops[m]:=aEE zI;have:=(ye (C m _ hm k l).1).2.1 d (by rw[<-lU];exact DX);simpa[lQ,l] using this
 have PH:iy E call ops α H i=false->Hk E call ops α H (jC p i) ops.size=Hk E call ops α H p ops.size:=λy=>Cq _ λm hm s=>by
  by_cases e:m=i
  ·subst e;rw[y] at s;cases s
  ·rw[kO e]
 unfold oH at v
 cases y:iI ops o.guard (tr E call ops α H i).1 with
 |none=>simp[y,an] at v
 |some b=>
  simp[y,an] at v
  cases b with
  |false=>simp[c_] at v;subst v;refine⟨_,.inr ⟨by rw[S,y],N,rfl⟩,Q,?_⟩;rw[PH (by simp[iy,L,w])]
  |true=>
   simp[c_] at v
   cases hs:bh E call o.op (ev (tr E call ops α H i).1) (tr E call ops α H i).2 with
   |none=>simp[hs] at v
   |some q=>
    simp[hs] at v;subst v;simp only at N JW we BG
    cases hk:bT E o.op with
    |ins=>obtain⟨_,ed⟩:=ET hk hs;refine⟨_,.inl ⟨by rw[S,y],?_⟩,Q,(PH (by simp[iy,L,w,hk])).symm⟩;rw[QF,N];exact ed _
    |wr=>
     have a':iy E call ops α H i=true:=by simp[iy,L,w,hk]
     have QD:Hk E call ops α H p ops.size=(tr E call ops α H i).2:=by
      rw[<-FK (λm hm=>z m aa) i (ν _),<-QE ops.size aa];refine Cq _ λm hm s=> ?_;obtain⟨f,U,l,F,_,_⟩:=z m hm;have V:bT E f.op=.wr:=by simp[iy,th,l,an,F] at s;exact s.2
      rcases aFj m i with D|u|P
      ·cases k:p m with
       |true=>simp[D]
       |false=>exact absurd ⟨V,hk⟩ (R m f D k l).2
      ·subst u;simp[I]
      ·cases k:p m with
       |false=>simp;omega
       |true=>exact absurd ⟨hk,V⟩ (C m f P k l).2
     refine⟨q.2,.inl ⟨by rw[S,y],?_⟩,Q,?_⟩
     ·rw[QF,QD,hs,N]
     ·rw[MV a' ops.size Z,JW];intro m hm zI k
      cases s:iy E call ops α H m with
      |false=>rfl
      |true=>
       obtain⟨f,U,l,F,_,_⟩:=z m zI;have V:bT E f.op=.wr:=by simp[iy,th,l,an,F] at s;exact s.2
       exact absurd ⟨hk,V⟩ (C m f hm k l).2
    |rd=>
     have b':∃H2,bh E call o.op (ev (tr E call ops α H i).1) (Hk E call ops α H p ops.size)=some (q.1,H2):=by
      have look:∀a,a<=i->(∀m,a<=m->m<i->iy E call ops α H m=true->p m=false)->∃H2,bh E call o.op (ev (tr E call ops α H i).1) (tr E call ops α H a).2=some (q.1,H2):=by
       intro a ha ky;rcases IF (iy E call ops α H) a i with h|⟨m,A,n,h3,X⟩
       ·rw[<-N4 i ha (λm A n=>z m aa) h];exact⟨_,hs⟩
       ·have k:=ky m A n h3;obtain⟨f,U,l,F,_,_⟩:=z m aa;have s:U.1=true/\bT E f.op=.wr:=by simpa only[iy,th,l,an,F,Ω,aEn] using h3
        rcases we trivial hk m f U n l F s.1 s.2 with h5|h5
        ·rw[G m n k] at h5;cases h5
        ·rw[<-N4 m A (λm' a1 a2=>z m' aa) X];exact Vu h5
      rcases YR (call:=call) (ops:=ops) (α:=α) (H:=H) (p:=p) ops.size with⟨j,A,n,h3,X,h5⟩|⟨A,n⟩
      ·rw[X];rcases aFj j i with D|u|P
       ·refine look (j+1) aa λm a b c=> ?_
        cases k:p m with
        |false=>rfl
        |true=>exact absurd ⟨k,c⟩ (h5 m aa aa)
       ·subst u;rw[I] at n;cases n
       ·obtain⟨oj,rj,lI,zH,_,c'⟩:=z j A;have M:rj.1=true/\bT E oj.op=.wr:=by simpa only[iy,th,lI,an,zH,Ω,aEn] using h3
        have vZ:(tr E call ops α H (j+1)).2=rj.2.2:=by simp[tr,lI,zH]
        rcases c' M.1 M.2 i o (true,q.1,q.2) P w (by simp[oH,y,an,c_,hs]) rfl hk with W|W
        ·rw[K j n] at W;cases W
        ·rw[vZ];exact Vu W
      ·rw[n];refine look 0 aa λm a b c=> ?_
       cases k:p m with
       |false=>rfl
       |true=>exact absurd ⟨k,c⟩ (A m aa)
     obtain⟨H2,n⟩:=b';have q_:=IE hk n;subst q_;refine⟨_,.inl ⟨by rw[S,y],?_⟩,Q,(PH (by simp[iy,L,w,hk])).symm⟩;rw[QF,N];exact n
def alJ(d:Bg E ops=true)(g:∀m,m<ops.size->qa E call ops α H m){p:Nat->Bool}(f:vD ops p){i}{o:Oper}(b:ops[i]? =some o)(k:p i=false)
  (j:∀e∈o.after,Region.binds .any e=true->p e.on=true):
  ∃H',lk E call ops o (Fk E call ops α H p ops.size) (Hk E call ops α H p ops.size) (oZ E call ops α H i) H'/\
   put (Fk E call ops α H p ops.size) o.dst (oZ E call ops α H i)=Fk E call ops α H (jC p i) ops.size/\H'=Hk E call ops α H (jC p i) ops.size:=
 Ny g f b k j
  (λm c hm _ hb a=>by
   rcases(Nx d b).2 m c hm a with h|h
   ·rw[hb] at h;cases h
   ·exact h)
  (λm c hm _ hb a=>by
   rcases(Nx d a).2 i o hm b with h|h
   ·rw[hb] at h;cases h
   ·exact h)
def qb(p:Nat->Bool):Nat->Nat
 |0=>0
 |k+1=>qb p k+(if p k=true then 0 else 1)
def N5{p}{i:Nat}(b:p i=false):∀k,qb (jC p i) k+(if i<k then 1 else 0)=qb p k
 |0=>by simp[qb]
 |k+1=>by
  have ih:=N5 b k;simp[qb];rcases aFj k i with aO|a|c
  ·rw[kO (aa:¬k=i),κ (aa:¬i<k+1)];rw[κ (aa:¬i<k)] at ih;omega
  ·subst a;rw[vm,μ rfl];simp only[b,υ,ap1];rw[κ (aa:¬k<k)] at ih;rw[μ (aa:k<k+1)];omega
  ·rw[kO (aa:¬k=i),μ (aa:i<k+1)];rw[μ c] at ih;omega
def Nz{p:Nat->Bool}:∀k,qb p k=0->∀m,m<k->p m=true
 |0,_,m,hm=>by omega
 |k+1,h,m,hm=>by
  simp[qb] at h;by_cases e:m=k
  ·subst e
   cases hp:p m with
   |true=>rfl
   |false=>simp[hp] at h
  ·exact Nz k aa m aa
def N6{p:Nat->Bool}:∀k,(∀m,m<k->p m=true)->qb p k=0
 |0,_=>rfl
 |k+1,h=>by simp[qb,h k aa,N6 k λm hm=>h m aa]
def afu(x:Bg E ops=true)(s:∀m,m<ops.size->qa E call ops α H m){Q:az->ab->Prop}(F:Q (tr E call ops α H ops.size).1 (tr E call ops α H ops.size).2):∀fuel listed,listed.size=ops.size->
  vD ops (λm=>listed.getD m false)->qb (λm=>listed.getD m false) ops.size=fuel->uj E call ops Q fuel listed (Fk E call ops α H (λm=>listed.getD m false) ops.size) (Hk E call ops α H (λm=>listed.getD m false) ops.size):=by
 have Tg:∀listed:Array Bool,listed.size=ops.size->∀m,listed.getD m false=true->m<ops.size:=λlisted a m h=>by
  rcases aFv m listed.size with y|y
  ·omega
  ·simp[aFH y] at h
 have u:∀listed:Array Bool,listed.size=ops.size->∀m,m<ops.size->listed.getD m true=listed.getD m false:=λlisted a m hm=>by have:m<listed.size:=aa;simp[this]
 intro fuel
 induction fuel with
 |zero=>
  intro listed a q B;have d:=Nz _ B;refine⟨?_,?_⟩
  ·rw[aFC];intro j l;obtain⟨b,o,c,_⟩:=aFZ.1 l;have A:j<ops.size:=(Α.1 c).1;have f:listed.getD j false=true:=d j A;rw[u listed a j A,f] at b;cases b
  ·have k:Fk E call ops α H (λm=>listed.getD m false) ops.size=(tr E call ops α H ops.size).1:=by
    rw[<-JU s ops.size (ν _)];funext t;refine Ie _ λm hm I=> ?_;have:listed.getD m false=true:=d m hm;simp[this,hm] at I
   have g:Hk E call ops α H (λm=>listed.getD m false) ops.size=(tr E call ops α H ops.size).2:=by rw[<-FK s ops.size (ν _)];refine Cq _ λm hm _=> ?_;have:listed.getD m false=true:=d m hm;simp[this,hm]
   rw[k,g];exact F
 |succ fuel ih=>
  intro listed a q B;refine⟨λD=> ?_,λi hi=> ?_⟩
  ·exfalso;rcases IF (λm=> !listed.getD m false) 0 ops.size with h|⟨m,_,f,h3,G⟩
   ·have:=N6 (p:=λm=>listed.getD m false) ops.size λm hm=>by have:=h m aa hm;simpa using this
    omega
   ·have w:ops[m]? =some ops[m]:=aEE f
    have:m∈Region.ready .any ops listed:=aFZ.2 ⟨by rw[u listed a m f];simpa using h3,_,w,λe n hb=>by
     have:=G e.on aa ((Nx x w).1 e n hb)
     simpa using this⟩
    rw[D] at this;cases this
  ·obtain⟨b,o,c,d⟩:=aFZ.1 hi;have z:i<ops.size:=(Α.1 c).1;rw[u listed a i z] at b;obtain⟨H',J,C,hH⟩:=alJ (call:=call) (α:=α) (H:=H) x s q c b d
   have v:(λm=>(listed.setIfInBounds i true).getD m false)=jC (λm=>listed.getD m false) i:=by
    funext m;by_cases e:m=i
    ·subst e;have:m<listed.size:=aa;simp[this,jC]
    ·rw[kO e];exact getD_set_ne false (aFw e)
   refine J.mg c ?_;rw[C,hH]
   have:=ih (listed.setIfInBounds i true) (by simp[a]) (by
    rw[v];intro j K e l r n hb;by_cases k:e.on=i
    ·rw[k];exact vm _ _
    ·rw[kO k];by_cases g:j=i
     ·subst g;rw[c] at r;cases r;exact d e n hb
     ·rw[kO g] at l
      exact q j K e l r n hb) (by
    rw[v];have:=N5 (p:=λm=>listed.getD m false) b ops.size;rw[μ z] at this
    omega)
   rw[v] at this;exact this
def alK(l:Bg E ops=true){b}{H'}(h:eY E call ops 0 ops.toList [] [] α H=some (b,H')){Q:az->ab->Prop}(n:Q b H'):uj E call ops Q ops.size (Array.replicate ops.size false) α H:=by
 obtain⟨c,p⟩:=Tf (call:=call) (ops:=ops) (α:=α) (H:=H) ops.toList 0 [] [] b H' ah ah (λi _ _ hi=>absurd hi aa) (λi _ _ hi=>absurd hi aa) h
 have g:∀m:Nat,(Array.replicate ops.size false).getD m false=false:=λm=>by
  by_cases hm:m<ops.size
  ·simp[hm]
  ·simp[hm]
 have a:(λm=>(Array.replicate ops.size false).getD m false)=λ_=>false:=by funext m;exact g m
 have:=afu (call:=call) (α:=α) (H:=H) l (λm hm=>c m aa hm) (Q:=Q) (by rw[p];exact n) ops.size (Array.replicate ops.size false) ah (by rw[a];intro j o e d;cases d) (by
  rw[a]
  have:∀k,qb (λ_=>false) k=k:=λk=>by
   induction k with
   |zero=>rfl
   |succ k ih=>simp[qb,ih]
  exact this _)
 rw[a] at this
 have f:∀k,Fk E call ops α H (λ_=>false) k=α:=λk=>by
  induction k with
  |zero=>rfl
  |succ k ih=>simp[Fk,ih]
 have hH:∀k,Hk E call ops α H (λ_=>false) k=H:=λk=>by
  induction k with
  |zero=>rfl
  |succ k ih=>simp[Hk,ih]
 rw[f,hH] at this;exact this
end
structure js(σ:St)(n:Nat)(ds:List Deferred)(a:Act)(α:az):Prop where
 size:a.tmps.size=n
 oQ:∀i,aj σ (α i) (a.tmps.getD i undef)
 defers:a.defers=ds
section
variable {P:Program} {B:Nat->Prop} {W0:World} {H H':ab} {σ aS:St} {w w':World} {n:Nat} {a:Act} {α:az} {E:Env} {call:cu} {ops:Array Oper} {ds:List Deferred}
def js.mono(h:js σ n ds a α)(b:σ.le aS):js aS n ds a α:=⟨h.size,λi=>(h.oQ i).mono b,h.defers⟩
def js.eval(h:js σ n ds a α)(x):aj σ (ev α x) (a.eval x):=by
 cases x with
 |tmp t=>exact h.oQ t
 |const v=>exact aj.mX v
 |global g=>simp[ev,Act.eval,aj]
 |func f=>simp[ev,Act.eval,aj,au]
def js.put(h:js σ n ds a α){dst}(b:∀d,dst=some d->d<n){v}{u}(e:aj σ v u):js σ n ds (a.put dst u) (Ab.put α dst v):=by
 cases dst with
 |none=>exact h
 |some d=>
  have c:=b d rfl;refine⟨by simp[Act.put,h.size],λi=> ?_,h.defers⟩;simp[Act.put,Ab.put];by_cases hi:i=d
  ·subst hi;rw[μ rfl];simpa[h.size,c] using e
  ·rw[κ hi];have:=h.oQ i;simpa[aEL (aFw hi)] using this
def Ez:aj σ gz undef:=by simp[gz,aj,undef]
def EA(h:js σ n ds a α){o:Oper}{b}(e:iI ops o.guard α=some b):Region.wanted o (yielded ops a.tmps)=b:=by
 unfold iI at e;unfold Region.wanted
 cases hg:o.guard with
 |none=>simp[hg] at e;simp[e]
 |some k=>
  obtain⟨j,g⟩:=k;simp[hg] at e⊢
  cases hd:(ops[j]?).bind (·.dst) with
  |none=>simp[hd] at e
  |some d=>
   simp[hd] at e;have f:=h.oQ d;unfold yielded;rw[hd];simp;split at e
   ·rename_i c i;simp[i,aj] at f;simp at e
    have:a.tmps[d]? =some (.bool c):=by
     cases ht:a.tmps[d]? with
     |none=>simp[ht,undef] at f
     |some x=>simp[ht] at f;rw[f]
    simp only[this];rw[<-e];cases c<;>cases g<;>rfl
   ·rename_i vs i;simp[i,aj] at f;cases e
    cases ht:a.tmps[d]? with
    |none=>rfl
    |some x=>simp[ht] at f;subst f;rfl
   ·cases e
def vJ(P:Program)(B:Nat->Prop)(W0:World)(σ:St)(n:Nat)(ds:List Deferred)(a:az)(H':ab)(a':Act)(w':World):Prop:=
 ∃aS,Ext B σ aS/\aY P B W0 H' aS w'/\js aS n ds a' a
def vJ.trans{a}{a'}(b:Ext B σ aS)(h:vJ P B W0 aS n ds a H' a' w'):vJ P B W0 σ n ds a H' a' w':=by obtain⟨d,e,c,h3⟩:=h;exact⟨d,b.trans e,c,h3⟩
def B0{o:Oper}{K}{Q}{R}(h:fx P ((execOp a.eval o).run P w) R)(b:∀u w',R u w'->K (a.put o.dst u) w'):o.wp P a w K Q:=by
 unfold Oper.wp;generalize(execOp a.eval o).run P w=r at h
 cases r with
 |ok c w1=>
  cases c<;>simp[fx] at h;case value u=>exact b _ _ h
  case skip=>exact b _ _ h
  case enter f args=>
   refine Calls.mono h ?_;rintro e w2 ⟨u,rfl,d⟩;exact b _ _ d
 |halt x w1=>simp[fx] at h
def NA(i:dK E.P call){Q}{j}{H'}:∀l α H σ a w,
  gv E call ops l α H=some (j,H')->aY E.P B W0 H σ w->js σ n ds a α->(∀o∈l,∀d,o.dst=some d->d<n)->
  (∀a' w',vJ E.P B W0 σ n ds j H' a' w'->Q .normal a' w')->wpList E.P ops Q l a w
 |[],α,H,σ,a,w,c,f,e,_,g=>by simp[gv] at c;obtain⟨rfl,rfl⟩:=c;exact g a w ⟨σ,Ext.refl _ _,f,e⟩
 |o::l,α,H,σ,a,w,c,f,e,h,g=>by
  simp[gv,an] at c;have k:∀o∈l,∀d,o.dst=some d->d<n:=λo s=>h o (by simp[s])
  cases hw:iI ops o.guard α with
  |none=>simp[hw] at c
  |some b=>
   simp[hw] at c;simp[wpList,EA e hw]
   cases b with
   |true=>
    simp[c_] at c
    cases cw:bh E call o.op (ev α) H with
    |none=>simp[cw] at c
    |some p=>obtain⟨v,H1⟩:=p;simp[cw] at c;simp;refine .inl (B0 (Er f i o (ev α) a.eval (λx _=>e.eval x) cw) ?_);rintro u w1 ⟨y,m,q,t⟩;exact NA i l _ _ y _ _ c q ((e.mono m.le).put (h o ah) t) k λa' w' r=>g a' w' (r.trans m)
   |false=>simp[c_] at c⊢;exact NA i l _ _ σ _ _ c f (e.put (h o ah) Ez) k g
def afv(t:dK E.P call){i}{K}{m}{Q:Exit->Act->World->Prop}(g:aY E.P B W0 H σ w)(b:js σ n ds a α)(j:∀o,ops[i]? =some o->∀d,o.dst=some d->d<n)
  (h:mg E call ops i α H K) (f:∀l H' a' w' aS,Ext B σ aS->aY E.P B W0 H' aS w'->js aS n ds a' l->K l H'->m a' w'):wpOp E.P ops Q i m a w:=by
 unfold mg at h;unfold wpOp;split
 ·rename_i c;simp[c] at h;exact f _ _ _ _ σ (Ext.refl _ _) g b h
 ·rename_i o c;simp[c] at h;split at h
  ·rename_i e;obtain⟨v,H1,s,q⟩:=h;rw[μ (EA b e)];refine .inl (B0 (Er g t o (ev α) a.eval (λx _=>b.eval x) s) ?_);rintro u w1 ⟨y,k,p,r⟩;exact f _ _ _ _ y k p ((b.mono k.le).put (j o c) r) q
  ·rename_i e;rw[κ (by rw[EA b e];simp)];exact f _ _ _ _ σ (Ext.refl _ _) g (b.put (j o c) Ez) h
  ·cases h
def HM(l:dK E.P call){k}{Q:Exit->Act->World->Prop}(j:∀(i:Nat) (o:Oper),ops[i]? =some o->∀d,o.dst=some d->d<n):∀fuel listed α H σ a w,
  uj E call ops k fuel listed α H->aY E.P B W0 H σ w->js σ n ds a α->
  (∀c H' a' w' aS,Ext B σ aS->aY E.P B W0 H' aS w'->js aS n ds a' c->k c H'->Q .normal a' w')->wpAny E.P .any ops Q fuel listed a w
 |0,listed,α,H,σ,a,w,h,f,e,g=>⟨h.1,g _ _ _ _ σ (Ext.refl _ _) f e h.2⟩
 |fuel+1,listed,α,H,σ,a,w,h,f,e,g=>
  ⟨λu=>g _ _ _ _ σ (Ext.refl _ _) f e (h.1 u),λi hi=>afv l f e (j i) (h.2 i hi) λc H' a' w' aS x m b q=>
   HM l j fuel _ c H' aS a' w' q m b λfS H2 a2 w2 t v s p r=>g _ _ _ _ t (x.trans v) s p r⟩
def aY.drew(h:aY P B W0 H σ w):aY P B W0 H σ {w with drawn:=w.drawn+1}:=by refine⟨h.below.drew,h.base,h.cells,h.one,h.fresh,h.keys,?_,h.inj⟩;intro id x a;exact(h.obj id x a).cj σ.le_refl (λb _=>⟨rfl,λ_=>rfl⟩) (λ_=>rfl)
end
def adI(o:Oper):Bool:=match o.op,o.guard,o.dst with| .alloc _,none,some _=>true|_,_,_=>false
def qc(E:Env)(ops:Array Oper)(i0:Nat):Bool:=
 (match ops[i0]? with|some o=>adI o|none=>false)&&
 ((List.range ops.size).all λk=>match ops[k]? with
  |some o=>o.after.all (λe=> !Region.binds .any e||decide (e.on<k))&&
    (List.range k).all λi=>behind ops ops.size k i||match ops[i]? with
     |some a=>a.apart ops o&&(!(bT E a.op==.wr&&bT E o.op==.wr)||k==i0)
     |none=>false
  |none=>false)&&
 ((List.range ops.size).all λj=> !behind ops ops.size j i0||(List.range i0).all λm=>match ops[m]? with
  |some b=> !(bT E b.op==.wr)||behind ops ops.size j m
  |none=>true)
section
variable {P:Program} {B:Nat->Prop} {W0:World} {H:ab} {σ aS:St} {w w':World} {n:Nat} {a:Act} {α:az} {E:Env} {call:cu} {ops:Array Oper} {ds:List Deferred} {i0:Nat}
def alL(h:qc E ops i0=true):∃o t d,ops[i0]? =some o/\o.op=.alloc t/\o.guard=none/\o.dst=some d:=by
 unfold qc at h;simp at h;have a:=h.1.1;split at a
 ·rename_i o b;unfold adI at a;split at a
  ·rename_i t d c f e;exact⟨o,t,d,b,c,f,e⟩
  ·cases a
 ·cases a
def wF(h:qc E ops i0=true){k}{o:Oper}(g:ops[k]? =some o):(∀e∈o.after,Region.binds .any e=true->e.on<k)/\
  ∀i d,i<k->ops[i]? =some d->behind ops ops.size k i=true\/(d.apart ops o=true/\(¬(bT E d.op=.wr/\bT E o.op=.wr)\/k=i0)):=by
 unfold qc at h;simp only[Ω] at h;have j:=h.1.2;rw[aEi] at j;have p:k<ops.size:=(Α.1 g).1;have f:=j k (aER.2 p);simp only[g,Ω,aEi,aER,aFm] at f;obtain⟨l,g2⟩:=f;refine⟨λe m hb=> ?_,λi d hi n=> ?_⟩
 ·have:=aEV.1 l e m;simp[hb] at this;exact this
 ·rcases g2 i hi with h3|h3
  ·exact .inl h3
  ·right;simp[n,aFk] at h3;refine⟨h3.1,?_⟩;rcases h3.2 with c|c
   ·left;rintro⟨a,b⟩;rcases c with c|c
    ·exact c a
    ·exact c b
   ·exact .inr c
def Xe(h:qc E ops i0=true){j m}{b:Oper}(f:j<ops.size)(hb:behind ops ops.size j i0=true)(hm:m<i0)(e:ops[m]? =some b)(d:bT E b.op=.wr):behind ops ops.size j m=true:=by unfold qc at h;simp only[Ω] at h;have c:=aEi.1 h.2 j (aER.2 f);simp[hb,aEi,aER] at c;have a:=c m hm;simp[e,d,BEq.rfl] at a;exact a
structure vL(σ:St)(n:Nat)(ds:List Deferred)(d0:Tmp)(a:Act)(α:az):Prop where
 size:a.tmps.size=n
 oQ:∀i,i≠d0->aj σ (α i) (a.tmps.getD i undef)
 defers:a.defers=ds
def vL.mono{d0}(h:vL σ n ds d0 a α)(b:σ.le aS):vL aS n ds d0 a α:=⟨h.size,λi hi=>(h.oQ i hi).mono b,h.defers⟩
def vL.put{d0}(h:vL σ n ds d0 a α){dst}(c:∀d,dst=some d->d<n){v}{u}(f:aj σ v u):vL σ n ds d0 (a.put dst u) (Ab.put α dst v):=by
 cases dst with
 |none=>exact h
 |some d=>
  have e:=c d rfl;refine⟨by simp[Act.put,h.size],λi b=> ?_,h.defers⟩;simp[Act.put,Ab.put];by_cases hi:i=d
  ·subst hi;rw[μ rfl];simpa[h.size,e] using f
  ·rw[κ hi];have:=h.oQ i b;simpa[aEL (aFw hi)] using this
def UZ{o:Oper}(k:∀g w,o.guard=some (g,w)->∀d,(ops[g]?).bind (·.dst)=some d->aj σ (α d) (a.tmps.getD d undef)){b}(e:iI ops o.guard α=some b):Region.wanted o (yielded ops a.tmps)=b:=by
 unfold iI at e;unfold Region.wanted
 cases hg:o.guard with
 |none=>simp[hg] at e;simp[e]
 |some l=>
  obtain⟨j,f⟩:=l;simp[hg] at e⊢
  cases hd:(ops[j]?).bind (·.dst) with
  |none=>simp[hd] at e
  |some d=>
   simp[hd] at e;have h:=k j f hg d hd;unfold yielded;rw[hd];simp;split at e
   ·rename_i c i;simp[i,aj] at h;simp at e
    have:a.tmps[d]? =some (.bool c):=by
     cases ht:a.tmps[d]? with
     |none=>simp[ht,undef] at h
     |some x=>simp[ht] at h;rw[h]
    simp only[this];rw[<-e];cases c<;>cases f<;>rfl
   ·rename_i vs i;simp[i,aj] at h;cases e
    cases ht:a.tmps[d]? with
    |none=>rfl
    |some x=>simp[ht] at h;subst h;rfl
   ·cases e
def ae4(C:dK E.P call){d0}{o:Oper}{i}(q:ops[i]? =some o)(l:aY E.P B W0 H σ w)(c:vL σ n ds d0 a α)(h:∀d,o.dst=some d->d<n)(b:d0∉o.looksAt ops){v}{H'}
  (s:lk E call ops o α H v H') {K} {Q} (k:∀u w' aS,Ext B σ aS->aY E.P B W0 H' aS w'->vL aS n ds d0 (a.put o.dst u) (put α o.dst v)->K (a.put o.dst u) w'):wpOp E.P ops Q i K a w:=by
 have j:∀g w',o.guard=some (g,w')->∀d,(ops[g]?).bind (·.dst)=some d->aj σ (α d) (a.tmps.getD d undef):=λg w' hg d r=>c.oQ d (by
  rintro rfl
  exact b (by simp[Oper.looksAt,hg,r]))
 have D:∀x∈o.op.operands,aj σ (ev α x) (a.eval x):=λx F=>by
  cases x with
  |tmp t=>exact c.oQ t (by
    rintro rfl
    exact b (aFx _ (aGF.2 ⟨.tmp t,by simpa using F,rfl⟩)))
  |const v=>exact aj.mX v
  |global g=>simp[ev,Act.eval,aj]
  |func f=>simp[ev,Act.eval,aj,au]
 unfold wpOp;rw[q];simp only;rcases s with⟨e,A⟩|⟨e,rfl,rfl⟩
 ·rw[μ (UZ j e)];refine .inl (B0 (Er l C o (ev α) a.eval D A) ?_);rintro u w1 ⟨z,m,p,y⟩;exact k u w1 z m p ((c.mono m.le).put h y)
 ·rw[κ (by rw[UZ j e];simp)];exact k _ _ σ (Ext.refl _ _) l (c.put h Ez)
def aeV(q:dK E.P call){o:Oper}{i}(k:ops[i]? =some o)(g:aY E.P B W0 H σ w)(b:js σ n ds a α)(e:∀d,o.dst=some d->d<n){v}{H'}
  (l:lk E call ops o α H v H') {K} {Q} (f:∀u w' aS,Ext B σ aS->aY E.P B W0 H' aS w'->js aS n ds (a.put o.dst u) (put α o.dst v)->K (a.put o.dst u) w'):wpOp E.P ops Q i K a w:=by
 unfold wpOp;rw[k];simp only;rcases l with⟨c,p⟩|⟨c,rfl,rfl⟩
 ·rw[μ (EA b c)];refine .inl (B0 (Er g q o (ev α) a.eval (λx _=>b.eval x) p) ?_);rintro u w1 ⟨r,h,j,m⟩;exact f u w1 r h j ((b.mono h.le).put e m)
 ·rw[κ (by rw[EA b c];simp)];exact f _ _ σ (Ext.refl _ _) g (b.put e Ez)
def lV(p:Nat->Bool)(i:Nat):Nat->Bool:=λm=>if m=i then false else p m
def Cc(p)(i:Nat):lV p i i=false:=by simp[lV]
def vr{p}{i m:Nat}(h:¬m=i):lV p i m=p m:=by simp[lV,h]
def HO{p}{i m:Nat}(h:lV p i m=true):m≠i/\p m=true:=by
 unfold lV at h;split at h
 ·cases h
 ·rename_i e;exact⟨e,h⟩
def oI(E:Env)(ops:Array Oper)(i0:Nat)(p:Nat->Bool):Prop:=∀m a,m<i0->ops[m]? =some a->bT E a.op=.wr->p m=true
def JX(E:Env)(call:cu)(ops:Array Oper)(dQ:az)(H0:ab)(B:Nat->Prop)(W0:World)(σ:St)(n:Nat)(ds:List Deferred)(i0:Nat)(p:Nat->Bool)(a:Act)(w:World):Prop:=
 (p i0=true->oI E ops i0 p)/\∃b,Ext B σ b/\aY E.P B W0 (Hk E call ops dQ H0 p ops.size) b w/\js b n ds a (Fk E call ops dQ H0 p ops.size)
def QG(E:Env)(call:cu)(ops:Array Oper)(dQ:az)(H0:ab)(B:Nat->Prop)(W0:World)(σ:St)(n:Nat)(ds:List Deferred)(i0:Nat)(d0:Tmp)(t0:TypeId)(zv:Value)(p:Nat->Bool)(a:Act)(w:World):Prop:=
 p i0=true/\¬oI E ops i0 p/\∃c b d,Ext B σ c/\gN B W0 d/\xm E.P B W0/\¬B b/\d.heap[b]? =some (.cells zv.cells t0 (0,0))/\(∀o,c.cells b o=none)/\
  aY E.P (λk=>B k\/k=b) d (Hk E call ops dQ H0 (lV p i0) ops.size) c w/\vL c n ds d0 a (Fk E call ops dQ H0 (lV p i0) ops.size)/\a.tmps.getD d0 undef=.pointer (some ⟨b,0,none⟩)
def Ext.sub{A}{σ aS}(h:Ext B σ aS)(k:∀i,A i->B i):Ext A σ aS:=⟨h.le,λb o hb=>h.old b o (k b hb)⟩
def aY.aBo(g:aY P B W0 H σ w)(o):aY P (λk=>B k\/k=w.heap.size) (w.alloc o) H σ (w.alloc o):=by
 have d:∀b,b<w.heap.size->(w.alloc o).heap[b]? =w.heap[b]? :=λb hb=>Co w o hb;have y:(w.alloc o).heap.size=w.heap.size+1:=by show(w.heap.push o).size=_;simp
 refine⟨gN.refl _ _,⟨λk a=> ?_,λi l p a=> ?_⟩,λi l v h=> ?_,g.one,g.fresh,g.keys,λid x C=> ?_,g.inj⟩
 ·rw[y];rcases a with a|rfl
  ·have:=g.size k a;omega
  ·omega
 ·obtain⟨q,_⟩:=g.base.vY i l p a;obtain⟨_,v,u,t⟩:=g.yx.vY i l p a;refine⟨.inl q,v,?_,t⟩;rw[cell_of_heap (d i (g.size i q))];exact u
 ·rw[cell_of_heap (d i (g.Aq h))];exact g.cells i l v h
 ·have n:=g.obj id x C
  have a:uu P B σ (w.alloc o) id x:=n.cj σ.le_refl (λb hb=>⟨d b (by
   obtain⟨i,r,_,E⟩:=n.aX
   rw[hb] at r;cases r;exact E),λ_=>rfl⟩) (λ_=>rfl)
  obtain⟨bb,A,_,aD8⟩:=n.aX
  have up:∀{b:Nat},aX σ id x=some b->¬B b->¬(B b\/b=w.heap.size):=λ{b} hb D=>by
   rintro(h|rfl)
   ·exact D h
   ·rw[A] at hb;cases hb;omega
  cases x with
  |cells te cs=>obtain⟨b,c,e,f,j,h3⟩:=a;exact⟨b,c,e,f,up f j,h3⟩
  |bQ m et=>obtain⟨b,cap,c,s,f,j,h3⟩:=a;exact⟨b,cap,c,s,f,up (by simp[Ab.aX,f]) j,h3⟩
  |row m et s cs=>obtain⟨b,cap,c,f,z,j,h3⟩:=a;exact⟨b,cap,c,f,z,up f j,h3⟩
  |map es cl=>obtain⟨b,ms,f,j,h3⟩:=a;exact⟨b,ms,f,up f j,h3⟩
def aY.ars{b}{l}(a:aY P (λk=>B k\/k=b) l H σ w)(r:gN B W0 l)(o:xm P B W0):aY P B W0 H σ w/\(∀id x,H.get id=some x->aX σ id x≠some b):=by
 refine⟨⟨r.trans (a.below.mono λi hi=>.inl hi),o,a.cells,a.one,a.fresh,a.keys,λid x j=> ?_,a.inj⟩,λid x j p=> ?_⟩
 ·have g:=a.obj id x j
  cases x with
  |cells te cs=>obtain⟨b,c,e,f,d,h3⟩:=g;exact⟨b,c,e,f,λh=>d (.inl h),h3⟩
  |bQ m et=>obtain⟨b,cap,c,s,f,d,h3⟩:=g;exact⟨b,cap,c,s,f,λh=>d (.inl h),h3⟩
  |row m et s cs=>obtain⟨b,cap,c,f,q,d,h3⟩:=g;exact⟨b,cap,c,f,q,λh=>d (.inl h),h3⟩
  |map es cl=>obtain⟨b,ms,f,d,h3⟩:=g;exact⟨b,ms,f,λh=>d (.inl h),h3⟩
 ·obtain⟨b',n,t,_⟩:=(a.obj id x j).aX;rw[p] at n;cases n;exact t (.inr rfl)
section
variable {dQ:az} {H0:ab} {o0:Oper} {t0:TypeId} {d0:Tmp} {zv:Value}
def acB{m}{b:Oper}(c:ops[m]? =some b)(h:iy E call ops dQ H0 m=true):bT E b.op=.wr:=by
 unfold iy at h;split at h
 ·rename_i r o hr a;rw[c] at a;cases a;simp at h;exact h.2
 ·cases h
def aaX(g:qc E ops i0=true){p:Nat->Bool}(a:vD ops p)(d:¬oI E ops i0 p){j}(e:j<ops.size)(f:p j=true):behind ops ops.size j i0=false:=by
 cases hb:behind ops ops.size j i0 with
 |false=>rfl
 |true=>exfalso;apply d;intro m om hm c b;exact Es a _ _ _ f (Xe g e hb hm c b)
def ae5(h:qc E ops i0=true){p:Nat->Bool}(b:vD ops p)(f:¬oI E ops i0 p){j}{o:Oper}(a:ops[j]? =some o)(g:∀e∈o.after,Region.binds .any e=true->p e.on=true):behind ops ops.size j i0=false:=by
 cases hb:behind ops ops.size j i0 with
 |false=>rfl
 |true=>exfalso;apply f;intro m om hm d c;exact UP b a g _ _ (Xe h (Α.1 a).1 hb hm d c)
def OR(fA:qc E ops i0=true)(b:ops[i0]? =some o0)(d:o0.op=.alloc t0)(h:o0.guard=none)(g:qa E call ops dQ H0 i0):∃z zv i,dz E.P t0=some z/\E.P.info? t0=some i/\i.zero=some zv/\z=zv.cells.toList.map ix/\
  oZ E call ops dQ H0 i0=.ptr (tr E call ops dQ H0 i0).2.next 0/\(tr E call ops dQ H0 (i0+1)).2=(tr E call ops dQ H0 i0).2.push (.cells (some t0) z)/\iy E call ops dQ H0 i0=true:=by
 obtain⟨o,r,c,a,_,_⟩:=g;rw[b] at c;cases c;have e:th E call ops dQ H0 i0=some r:=by simp[th,b,an,a]
 have l:(tr E call ops dQ H0 (i0+1)).2=r.2.2:=by simp[tr,b,a]
 unfold oH at a;rw[h] at a;simp[iI,an,c_,d,bh] at a
 cases DZ:sW E.P t0 (tr E call ops dQ H0 i0).2 with
 |none=>simp[DZ] at a
 |some q=>
  simp[DZ] at a;subst a;unfold sW at DZ;split at DZ
  ·rename_i z f;obtain⟨i,zv,hi,k,j⟩:=Ey f;cases DZ;exact⟨z,zv,i,f,hi,k,j,by simp[oZ,e],l,by simp[iy,e,b,d,bT]⟩
  ·cases DZ
def ais{p}{i j:Nat}(h:j≠i):lV (jC p j) i=jC (lV p i) j:=by
 funext m;by_cases e:m=i
 ·subst e;rw[Cc,kO (aFw h),Cc]
 ·rw[vr e];by_cases a:m=j
  ·subst a;rw[vm,vm]
  ·rw[kO a,kO a,vr e]
def YS{p}{i:Nat}(h:p i=true):jC (lV p i) i=p:=by
 funext m;by_cases e:m=i
 ·subst e;rw[vm,h]
 ·rw[kO e,vr e]
def ait(u:qc E ops i0=true)(R:∀m,m<ops.size->qa E call ops dQ H0 m)(f:ops[i0]? =some o0)(I:o0.op=.alloc t0)(qq:o0.guard=none)(lU:o0.dst=some d0)(qo:d0<n){p:Nat->Bool}
  (N:p i0=true) (Q:oI E ops i0 p) (g:∀m,i0<m->m<ops.size->p m=true->behind ops ops.size m i0=false) {r:St} {b} {A:World} (dg:Ext B σ r) (W:gN B W0 A) (U:xm E.P B W0) (S:¬B b)
  (Du:∀i,E.P.info? t0=some i->i.zero=some zv) (V:A.heap[b]? =some (.cells zv.cells t0 (0,0))) (K:∀o,r.cells b o=none)
  (O:aY E.P (λk=>B k\/k=b) A (Hk E call ops dQ H0 (lV p i0) ops.size) r w) (hr:vL r n ds d0 a (Fk E call ops dQ H0 (lV p i0) ops.size)) (RU:a.tmps.getD d0 undef=.pointer (some ⟨b,0,none⟩)):
  JX E call ops dQ H0 B W0 σ n ds i0 p a w:=by
 have C:i0<ops.size:=(Α.1 f).1;obtain⟨z,D,i,hz,hi,Kl,Z,vK,X,BG⟩:=OR u f I qq (R i0 C);have:D=zv:=by have:=Du i hi;rw[Kl] at this;exact aEP this
 subst this
 have j:∀m,i0<m->m<ops.size->p m=true->iy E call ops dQ H0 m=false:=λm hm L e=>by
  cases hw:iy E call ops dQ H0 m with
  |false=>rfl
  |true=>
   have c:ops[m]? =some ops[m]:=aEE L;rcases(wF u c).2 i0 o0 hm f with h|⟨_,h⟩
   ·rw[g m hm L e] at h;cases h
   ·rcases h with h|h
    ·exact absurd ⟨by rw[I];rfl,acB c hw⟩ h
    ·omega
 have hH:Hk E call ops dQ H0 (lV p i0) ops.size=(tr E call ops dQ H0 i0).2:=by
  rw[<-FK (λm hm=>R m aa) i0 (ν _),<-QE ops.size aa];refine Cq _ λm hm t=> ?_;have c:ops[m]? =some ops[m]:=aEE hm;rcases aFj m i0 with M|v|qm
  ·rw[vr aa,Q m _ M c (acB c t)];simp[M]
  ·subst v;rw[Cc];simp
  ·rw[vr aa]
   cases e:p m with
   |false=>simp;omega
   |true=>rw[j m qm hm e] at t;cases t
 have G:Hk E call ops dQ H0 p ops.size=(tr E call ops dQ H0 i0).2.push (.cells (some t0) z):=by have:=MV (p:=lV p i0) BG ops.size C λm q l e=>j m q l (HO e).2;rw[YS N] at this;rw[this,X]
 have hF:Fk E call ops dQ H0 p ops.size=put (Fk E call ops dQ H0 (lV p i0) ops.size) (some d0) (.ptr (tr E call ops dQ H0 i0).2.next 0):=by
  have:=Nw (E:=E) (call:=call) (ops:=ops) (α:=dQ) (H:=H0) (p:=lV p i0) (i:=i0) (Cc p i0) ops.size (λm q l e d DX=>by
   have c:ops[m]? =some ops[m]:=aEE l;rcases(wF u c).2 i0 o0 q f with h|⟨h,_⟩
   ·rw[g m q l (HO e).2] at h;cases h
   ·have:=(ye h).2.1 d (by simpa[lQ,f] using DX)
    simpa[lQ,c] using this)
  rw[YS N,μ C] at this;rw[this,vK];simp[lQ,f,lU]
 obtain⟨s,J⟩:=O.ars W U;rw[hH] at s J;have GG:w.heap[b]? =some (.cells D.cells t0 (0,0)):=by rw[O.below.block b (.inr rfl)];exact V
 obtain⟨Y,T⟩:=s.PG (b:=b) (cap:=0) (x:=.cells (some t0) z) (w':=w) S (λ_ _ _=>rfl) s.below J K (by simp[aX,St.fN]) ⟨b,D.cells,t0,by simp[St.fN],S,GG,by rw[Z];exact au.ix _,K,λ_ h=>aEP h⟩;refine⟨λ_=>Q,_,dg.trans T,by rw[G];exact Y,?_⟩;rw[hF];have F:=hr.mono T.le;refine⟨F.size,λk=> ?_,F.defers⟩;simp only[Ab.put];by_cases y:k=d0
 ·subst y;rw[μ rfl,RU];simp only[aj];exact⟨b,by simp[St.fN],rfl⟩
 ·rw[κ y];exact F.oQ k y
def oI.ins{p}{j:Nat}(h:oI E ops i0 p):oI E ops i0 (jC p j):=λm c hm b a=>by
 by_cases e:m=j
 ·subst e;exact vm _ _
 ·rw[kO e];exact h m c hm b a
def U0{k}{o:Oper}{e:Edge}{i}{N}(hN:0<N)(b:ops[k]? =some o)(a:e∈o.after)(hb:Region.binds .any e=true)(h:e.on=i):behind ops N k i=true:=by
 cases N with
 |zero=>omega
 |succ N=>simp only[behind,b];rw[aGa];exact⟨e,a,by simp[hb,h]⟩
open Classical in
def art(hc:dK E.P call)(fA:qc E ops i0=true)(bJ:∀m,m<ops.size->qa E call ops dQ H0 m)(qo:∀(i:Nat) (o:Oper),ops[i]? =some o->∀d,o.dst=some d->d<n)(jd:ops[i0]? =some o0)(n_:o0.op=.alloc t0)(qq:o0.guard=none)(lU:o0.dst=some d0)
  (Du:∀i,E.P.info? t0=some i->i.zero=some zv) {p} (hd:vD ops p) {j} {o:Oper} (ho:ops[j]? =some o) (wg:p j=false) (RV:∀e∈o.after,Region.binds .any e=true->p e.on=true)
  (cw:JX E call ops dQ H0 B W0 σ n ds i0 p a w\/QG E call ops dQ H0 B W0 σ n ds i0 d0 t0 zv p a w) {Q} {K}
  (hK:∀a' w',JX E call ops dQ H0 B W0 σ n ds i0 (jC p j) a' w'\/QG E call ops dQ H0 B W0 σ n ds i0 d0 t0 zv (jC p j) a' w'->K a' w'):wpOp E.P ops Q j K a w:=by
 have nZ:i0<ops.size:=(Α.1 jd).1;have vZ:j<ops.size:=(Α.1 ho).1;have adK:d0<n:=qo i0 o0 jd d0 lU;rcases cw with⟨hinv,bt,dg,hs,hr⟩|⟨Th,uR,bt,b,W1,dg,jB,C',hB,BH,gP,hs,hr,RU⟩
 ·by_cases sx:j=i0/\¬oI E ops i0 p
  ·obtain⟨rfl,uR⟩:=sx;rw[jd] at ho;cases ho;obtain⟨z,zJ,i,hz,hi,Kl,Gv,_⟩:=OR fA jd n_ qq (bJ j nZ);have hzz:zJ=zv:=by have:=Du i hi;rw[Kl] at this;exact aEP this
   subst hzz;have bP:(Instr.alloc t0 true (.tuple #[])).run E.P w=.ok (.pointer (some ⟨w.heap.size,0,none⟩)) (w.alloc (.cells zJ.cells t0)):=by simp[Instr.alloc,zeroValue,typeInfo,hi,Kl,newVar,newRow]
   unfold wpOp;rw[jd];simp only;rw[μ (by simp[Region.wanted,qq])];refine .inl (B0 (R:=λu w'=>u=.pointer (some ⟨w.heap.size,0,none⟩)/\w'=w.alloc (.cells zJ.cells t0)) ?_ ?_)
   ·obtain⟨dst,op,ty,pos,after,guard⟩:=o0;simp only at n_;subst n_;simp[execOp,Φ,bP,Ε,as1,fx]
   ·rintro u w' ⟨rfl,rfl⟩;refine hK _ _ (.inr ⟨vm _ _,λed=>uR λm om hm dA hw=> ?_,bt,w.heap.size,w.alloc (.cells zJ.cells t0),dg,hs.below.alloc hs.size _,hs.base,hs.uh,ES w _,λo=>hs.yd o,?_,?_,?_⟩)
    ·have:=ed m om hm dA hw;rwa [kO aa] at this
    ·have:lV (jC p j) j=p:=by
      funext m;by_cases e:m=j
      ·subst e;rw[Cc,wg]
      ·rw[vr e,kO e]
     rw[this];exact hs.aBo _
    ·have:lV (jC p j) j=p:=by
      funext m;by_cases e:m=j
      ·subst e;rw[Cc,wg]
      ·rw[vr e,kO e]
     rw[this,lU];refine⟨by simp[Act.put,hr.size],λk hk=> ?_,hr.defers⟩;have:=hr.oQ k;simpa[Act.put,aEL (aFw hk)] using this
    ·rw[lU];have:d0<a.tmps.size:=by rw[hr.size];exact adK
     simp[Act.put,this]
  ·obtain⟨H',hy,sd,hH⟩:=Ny (call:=call) (α:=dQ) (H:=H0) bJ hd ho wg RV
    (λm om hm hp hb dA=>by
     rcases(wF fA ho).2 m om hm dA with h|⟨h1,h2⟩
     ·rw[hb] at h;cases h
     ·refine⟨h1,?_⟩;rcases h2 with h2|rfl
      ·exact h2
      ·rintro⟨hw,_⟩
       have ed:oI E ops j p:=by
        by_cases h:oI E ops j p
        ·exact h
        ·exact absurd ⟨rfl,h⟩ sx
       rw[ed m om hm dA hw] at hp
       cases hp)
    (λm om hm hp hb dA=>by
     rcases(wF fA dA).2 j o hm ho with h|⟨h1,h2⟩
     ·rw[hb] at h;cases h
     ·refine⟨h1,?_⟩;rcases h2 with h2|rfl
      ·exact h2
      ·rintro⟨hw,_⟩;have:=hinv hp j o hm ho hw;rw[wg] at this
       cases this)
   refine aeV (K:=K) hc ho hs hr (qo j o ho) hy ?_;intro u w' aS Lu xO sC;refine hK _ _ (.inl ⟨λhp=> ?_,aS,dg.trans Lu,hH▸xO,sd▸sC⟩)
   have ed:oI E ops i0 p:=by
    by_cases e:j=i0
    ·by_cases h:oI E ops i0 p
     ·exact h
     ·exact absurd ⟨e,h⟩ sx
    ·rw[kO (aFw e)] at hp;exact hinv hp
   exact ed.ins
 ·have l6:j≠i0:=by
   rintro rfl;rw[Th] at wg;cases wg
  have Lw:behind ops ops.size j i0=false:=ae5 fA hd uR ho RV
  have hbi:behind ops ops.size i0 j=false:=by
   cases h:behind ops ops.size i0 j with
   |false=>rfl
   |true=>have:=Es hd _ _ _ Th h;rw[wg] at this;cases this
  have iR:vD ops (lV p i0):=by
   intro k ok e hk RW he hb;obtain⟨zD,iF⟩:=HO hk;have h1:=hd k ok e iF RW he hb;have qj:k<ops.size:=(Α.1 RW).1;by_cases h2:e.on=i0
   ·have:=aaX fA hd uR qj iF;rw[U0 aa RW he hb h2] at this;cases this
   ·rw[vr h2];exact h1
  have aw5:∀e∈o.after,Region.binds .any e=true->lV p i0 e.on=true:=by
   intro e he hb;by_cases h2:e.on=i0
   ·rw[U0 aa ho he hb h2] at Lw;cases Lw
   ·rw[vr h2];exact RV e he hb
  obtain⟨H',hy,sd,hH⟩:=Ny (call:=call) (α:=dQ) (H:=H0) bJ iR ho (by rw[vr l6];exact wg) aw5
   (λm om hm hp hb dA=>by
    rcases(wF fA ho).2 m om hm dA with h|⟨h1,h2⟩
    ·rw[hb] at h;cases h
    ·refine⟨h1,?_⟩;rcases h2 with h2|h2
     ·exact h2
     ·exact absurd h2 l6)
   (λm om hm hp hb dA=>by
    rcases(wF fA dA).2 j o hm ho with h|⟨h1,h2⟩
    ·rw[hb] at h;cases h
    ·refine⟨h1,?_⟩;rcases h2 with h2|h2
     ·exact h2
     ·exact absurd h2 (HO hp).1)
  have k6:d0∉o.looksAt ops/\o.dst≠some d0:=by
   rcases aFj i0 j with aO|heq|qm
   ·rcases(wF fA ho).2 i0 o0 aO jd with h|⟨h,_⟩
    ·rw[Lw] at h;cases h
    ·exact⟨(ye h).1 d0 lU,(ye h).2.1 d0 lU⟩
   ·exact absurd heq.symm l6
   ·rcases(wF fA jd).2 j o qm ho with h|⟨h,_⟩
    ·rw[hbi] at h;cases h
    ·exact⟨(ye h).2.2 d0 lU,λe=>(ye h).2.1 d0 e lU⟩
  refine ae4 (d0:=d0) (K:=K) hc ho hs hr (qo j o ho) k6.1 hy ?_;intro u w' aS Lu xO sC
  have acC:(a.put o.dst u).tmps.getD d0 undef=.pointer (some ⟨b,0,none⟩):=by
   rw[<-RU]
   cases DX:o.dst with
   |none=>rfl
   |some d=>have:d≠d0:=λe=>k6.2 (by rw[DX,e]);simp[Act.put,aEL this]
  have aaY:∀o,aS.cells b o=none:=λo=>by rw[Lu.old b o (.inr rfl)];exact gP o
  rw[hH] at xO;rw[sd] at sC;rw[<-ais l6] at xO sC;have acD:Ext B σ aS:=dg.trans (Lu.sub λ_ h=>.inl h);have adL:jC p j i0=true:=by rw[kO (aFw l6)];exact Th
  by_cases ed:oI E ops i0 (jC p j)
  ·refine hK _ _ (.inl (ait (zv:=zv) fA bJ jd n_ qq lU adK adL ed ?_ acD jB C' hB Du BH aaY xO sC acC));intro m hm zI hpm;by_cases e:m=j
   ·subst e;exact Lw
   ·rw[kO e] at hpm;exact aaX fA hd uR zI hpm
  ·exact hK _ _ (.inr ⟨adL,ed,aS,b,W1,acD,jB,C',hB,BH,aaY,xO,sC,acC⟩)
def oI.all{p}(h:∀m,m<ops.size->p m=true):oI E ops i0 p:=λm om _ a _=>h m (Α.1 a).1
def aru(X:dK E.P call)(G:qc E ops i0=true)(A:∀m,m<ops.size->qa E call ops dQ H0 m)(W:∀(i:Nat) (o:Oper),ops[i]? =some o->∀d,o.dst=some d->d<n)(O:ops[i0]? =some o0)(K:o0.op=.alloc t0)(S:o0.guard=none)(T:o0.dst=some d0)
  (U:∀i,E.P.info? t0=some i->i.zero=some zv) {Q}
  (M:∀l a' w',Ext B σ l->aY E.P B W0 (tr E call ops dQ H0 ops.size).2 l w'->js l n ds a' (tr E call ops dQ H0 ops.size).1->Q .normal a' w'):∀fuel listed a w,listed.size=ops.size->
  vD ops (λm=>listed.getD m false)->qb (λm=>listed.getD m false) ops.size=fuel->
  (JX E call ops dQ H0 B W0 σ n ds i0 (λm=>listed.getD m false) a w\/QG E call ops dQ H0 B W0 σ n ds i0 d0 t0 zv (λm=>listed.getD m false) a w)->wpAny E.P .any ops Q fuel listed a w:=by
 have C:∀listed:Array Bool,listed.size=ops.size->∀m,m<ops.size->listed.getD m true=listed.getD m false:=λlisted g m hm=>by have:m<listed.size:=aa;simp[this]
 intro fuel
 induction fuel with
 |zero=>
  intro listed a w g v J z;have f:=Nz _ J;refine⟨?_,?_⟩
  ·rw[aFC];intro j s;obtain⟨b,o,k,_⟩:=aFZ.1 s;have I:j<ops.size:=(Α.1 k).1;have c:listed.getD j false=true:=f j I;rw[C listed g j I,c] at b;cases b
  ·rcases z with⟨_,l,b,c,h3⟩|⟨_,V,_⟩
   ·have r:Fk E call ops dQ H0 (λm=>listed.getD m false) ops.size=(tr E call ops dQ H0 ops.size).1:=by
     rw[<-JU A ops.size (ν _)];funext t;refine Ie _ λm hm R=> ?_;have:listed.getD m false=true:=f m hm;simp[this,hm] at R
    have q:Hk E call ops dQ H0 (λm=>listed.getD m false) ops.size=(tr E call ops dQ H0 ops.size).2:=by rw[<-FK A ops.size (ν _)];refine Cq _ λm hm _=> ?_;have:listed.getD m false=true:=f m hm;simp[this,hm]
    rw[r] at h3;rw[q] at c;exact M l a w b c h3
   ·exact absurd (oI.all f) V
 |succ fuel ih=>
  intro listed a w g v J z;refine⟨λL=> ?_,λi hi=> ?_⟩
  ·exfalso;rcases IF (λm=> !listed.getD m false) 0 ops.size with h|⟨m,_,c,h3,N⟩
   ·have:=N6 (p:=λm=>listed.getD m false) ops.size λm hm=>by have:=h m aa hm;simpa using this
    omega
   ·have F:ops[m]? =some ops[m]:=aEE c
    have:m∈Region.ready .any ops listed:=aFZ.2 ⟨by rw[C listed g m c];simpa using h3,_,F,λe u hb=>by
     have:=N e.on aa ((wF G F).1 e u hb)
     simpa using this⟩
    rw[L] at this;cases this
  ·obtain⟨b,o,k,f⟩:=aFZ.1 hi;have H:i<ops.size:=(Α.1 k).1;rw[C listed g i H] at b
   have D:(λm=>(listed.setIfInBounds i true).getD m false)=jC (λm=>listed.getD m false) i:=by
    funext m;by_cases e:m=i
    ·subst e;have:m<listed.size:=aa;simp[this,jC]
    ·rw[kO e];exact getD_set_ne false (aFw e)
   refine art X G A W O K S T U v k b f z ?_;intro a' w' x;refine ih (listed.setIfInBounds i true) a' w' (by simp[g]) ?_ ?_ (by rw[D];exact x)
   ·rw[D];intro j Y e s y u hb;by_cases r:e.on=i
    ·rw[r];exact vm _ _
    ·rw[kO r];by_cases q:j=i
     ·subst q;rw[k] at y;cases y;exact f e u hb
     ·rw[kO q] at s;exact v j Y e s y u hb
   ·rw[D];have:=N5 (p:=λm=>listed.getD m false) b ops.size;rw[μ H] at this;omega
def aiu(I:dK E.P call)(c:qc E ops i0=true)(G:∀(i:Nat) (o:Oper),ops[i]? =some o->∀d,o.dst=some d->d<n){α}{H}{f}{H'}(h:eY E call ops 0 ops.toList [] [] α H=some (f,H'))
  (D:aY E.P B W0 H σ w) (C:js σ n ds a α) {Q}
  (t:∀p a' w',Ext B σ p->aY E.P B W0 H' p w'->js p n ds a' f->Q .normal a' w'):wpAny E.P .any ops Q ops.size (Array.replicate ops.size false) a w:=by
 obtain⟨b,u⟩:=Tf (call:=call) (ops:=ops) (α:=α) (H:=H) ops.toList 0 [] [] f H' ah ah (λi _ _ hi=>absurd hi aa) (λi _ _ hi=>absurd hi aa) h;replace b:∀m,m<ops.size->qa E call ops α H m:=λm hm=>b m aa hm;obtain⟨o0,t0,d0,l,q,s,A⟩:=alL c;obtain⟨z,zv,i,hz,hi,v,_⟩:=OR c l q s (b i0 (Α.1 l).1)
 have y:∀m:Nat,(Array.replicate ops.size false).getD m false=false:=λm=>by
  by_cases hm:m<ops.size
  ·simp[hm]
  ·simp[hm]
 have g:(λm=>(Array.replicate ops.size false).getD m false)=λ_=>false:=by funext m;exact y m
 have x:∀k,Fk E call ops α H (λ_=>false) k=α:=λk=>by
  induction k with
  |zero=>rfl
  |succ k ih=>simp[Fk,ih]
 have hH:∀k,Hk E call ops α H (λ_=>false) k=H:=λk=>by
  induction k with
  |zero=>rfl
  |succ k ih=>simp[Hk,ih]
 refine aru (t0:=t0) (zv:=zv) (σ:=σ) (dQ:=α) (H0:=H) I c b G l q s A (λi' r=>by rw[hi] at r;cases r;exact v) (Q:=Q) (by rw[u];exact t) ops.size (Array.replicate ops.size false) a w ah (by rw[g];intro j o e F;cases F) (by
  rw[g]
  have:∀k,qb (λ_=>false) k=k:=λk=>by
   induction k with
   |zero=>rfl
   |succ k ih=>simp[qb,ih]
  exact this _) (.inl ?_)
 rw[g];refine⟨λh=>by simp at h,σ,Ext.refl _ _,?_,?_⟩
 ·rw[hH];exact D
 ·rw[x];exact C
end
end
end Go.Ab
