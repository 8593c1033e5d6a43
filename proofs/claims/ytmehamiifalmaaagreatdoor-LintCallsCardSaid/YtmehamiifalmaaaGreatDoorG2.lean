/- LintCalls: part 3 of its proof. -/
import Derived.Test.YtmehamiifalmaaaGreatDoorG1
import Derived.Defers
import Derived.LoopN
set_option linter.all false
namespace Go.Ab
open Go Go.RowKit
def yG(E:Env)(ops:Array Oper):Nat->Nat->Array Bool->Bool
 |0,_,listed=>(Region.ready .any ops listed).isEmpty
 |fuel+1,k,listed=>(Region.ready .any ops listed).contains k&&Fa E ops listed k&&yG E ops fuel (k+1) (listed.setIfInBounds k true)
def Fx(E:Env)(ops:Array Oper):Nat->List Oper->Bool
 |_,[]=>true
 |k,o::rest=>o.after.all (λe=> !Region.binds .any e||decide (e.on<k))&&
   rest.all (λa=>a.after.any (λe=>Region.binds .any e&&e.on==k)||(o.apart ops a&&uK (bO E o.op) (bO E a.op)))&&Fx E ops (k+1) rest
def HJ(E:Env)(ops:Array Oper):Bool:=yG E ops ops.size 0 (Array.replicate ops.size false)
section
variable {E:Env} {call:ck}
def ahL{α a}{x}(h:∀t,x=.tmp t->α t=a t):ev α x=ev a x:=by
 cases x with
 |tmp t=>exact h t rfl
 |_=>rfl
def aeu{P}(op:Op){ρ b}(h:∀x∈op.operands,ρ x=b x)(H):lF P op ρ H=lF P op b H:=by
 cases op<;>simp only[Op.operands] at h<;>simp only[lF]
 case build t ps=>
  rw[aDO (l:=ps.toList) (g:=λp=>(p.1,b p.2))];intro p d;rw[h p.2 (by simp;exact⟨p.1,by simpa using d⟩)]
 case makeFunc f first cap=>
  rw[aDO (l:=first.toList) (g:=b) λx a=>h x (by simp at a;simp[a]),aDO (l:=cap.toList) (g:=b) λx a=>h x (by simp at a;simp[a])]
 case slice t x lo hi mx=>
  cases mx<;>simp only<;>cases lo<;>cases hi<;>simp_all
 case call c=>
  have:c.args.toList.map ρ=c.args.toList.map b:=aDO λx a=>h x (by simp only[Call.operands];exact aFJ.2 (.inr (by simpa using a)));rw[this]
 all_goals(first|rfl|(simp_all;done))
def Uq(op:Op){ρ e}(h:∀x∈op.operands,ρ x=e x)(H):bz E call op ρ H=bz E call op e H:=by
 have d:=aeu (P:=E.P) op h H;cases op<;>simp[bz]<;>(try rw[d])<;>simp only[Op.operands] at h
 case box t x=>rw[h x ai]
 case mapUpdate t m k x=>rw[h m ai,h k ai,h x ai]
 case insert t m k x=>rw[h m ai,h k ai,h x ai]
 case store t a x=>rw[h a ai,h x ai]
 case buildSlice t n ps=>
  rw[aDO (l:=ps.toList) (g:=λp=>(p.1,e p.2))];intro p d;rw[h p.2 (by simp;exact⟨p.1,by simpa using d⟩)]
 case call c=>
  have:c.args.toList.map ρ=c.args.toList.map e:=aDO λx i=>h x (by simp only[Call.operands];exact aFJ.2 (.inr (by simpa using i)));unfold tq
  cases hc:c.callee with
  |value f=>simp only;rw[this,h f (by simp[Call.operands,hc])]
  |builtin b=>cases b<;>simp only<;>(first|rw[this]|rw[d])
  |invoke r m=>simp only;rw[d]
def afD{P}(op)(b:∀t a,op≠.load t a)(hm:∀t m k ok,op≠.lookup t m k ok)(ρ)(H H'):lF P op ρ H=lF P op ρ H':=by
 cases op<;>simp[lF];case load t a=>exact absurd rfl (b t a)
 case lookup t m k ok=>exact absurd rfl (hm t m k ok)
def ahM(op)(h:bO E op=.ins)(ρ)(i:∀g,ρ (.func g)=.fn (.func g) [] []):∃r:Option AV,∀H,bz E call op ρ H=r.map λv=>(v,H):=by
 have base:∀d:Op,(∀t a,d≠.load t a)->(∀t m k ok,d≠.lookup t m k ok)->∃r:Option AV,∀H,(an (lF E.P d ρ H) λv=>some (v,H))=r.map λv=>(v,H):=λd e hm=>
  ⟨lF E.P d ρ .empty,λH=>by rw[afD d e hm ρ H .empty];cases lF E.P d ρ .empty<;>rfl⟩
 cases op<;>simp[bO] at h<;>simp[bz]
 case buildSlice t len parts=>
  refine⟨(dS E.P t len (parts.toList.map λp=>(p.1,ρ p.2)) .empty).map (·.1),λH=> ?_⟩;unfold dS;split<;>(try rfl)
  split<;>(try rfl)
  split<;>rfl
 case call c=>
  unfold tq
  cases hc:c.callee with
  |value f=>
   simp[hc] at h
   cases f with
   |func g=>
    simp only at h;split at h
    ·rename_i j;simp only[dX,i,target,j,aDp];exact⟨aI E.P call g ([]++c.args.toList.map ρ++[]),λH=>by cases aI E.P call g ([]++c.args.toList.map ρ++[])<;>rfl⟩
    ·cases h
   |_=>simp at h
  |builtin b=>
   cases b
   case len=>
    simp[hc] at h;refine⟨(tO E.P c.argTypes (c.args.toList.map ρ) .empty).map (·.1),λH=> ?_⟩;simp only;unfold tO;split
    ·split
     ·rename_i hm;simp[hm] at h
     ·rfl
    ·cases gD E.P c.argTypes (c.args.toList.map ρ)<;>rfl
   all_goals(simp[hc] at h<;>exact base _ (λ_ _=>ai) (λ_ _ _ _=>ai))
  |invoke r m=>exact base _ (λ_ _=>ai) (λ_ _ _ _=>ai)
 all_goals exact base _ (λ_ _=>ai) (λ_ _ _ _=>ai)
def avX(α):∀g,ev α (.func g)=.fn (.func g) [] []:=λ_=>rfl
end
section
variable {E:Env} {call:ck} {ops:Array Oper}
def mN(E:Env)(call:ck)(ops:Array Oper)(i:Nat)(α:az)(H:ab)(K:az->ab->Prop):Prop:=
 match ops[i]? with
 |none=>K α H
 |some o=>match jG ops o.guard α with
  |some true=>∃v H',bz E call o.op (ev α) H=some (v,H')/\K (put α o.dst v) H'
  |some false=>K (put α o.dst hM) H
  |none=>False
def U8{i:Nat}{α:az}{H:ab}{K d:az->ab->Prop}(h:∀α H,K α H->d α H)(a:mN E call ops i α H K):mN E call ops i α H d:=by
 unfold mN at*
 split
 ·rename_i c;simp[c] at a;exact h _ _ a
 ·rename_i o c;simp[c] at a;split
  ·rename_i b;simp[b] at a;obtain⟨v,H',f,e⟩:=a;exact⟨v,H',f,h _ _ e⟩
  ·rename_i b;simp[b] at a;exact h _ _ a
  ·rename_i b;simp[b] at a
def tH(E:Env)(call:ck)(ops:Array Oper)(Q:az->ab->Prop):Nat->Array Bool->az->ab->Prop
 |0,listed,α,H=>Region.ready .any ops listed=[]/\Q α H
 |fuel+1,listed,α,H=>
  (Region.ready .any ops listed=[]->Q α H)/\
  ∀i∈Region.ready .any ops listed,mN E call ops i α H (tH E call ops Q fuel (listed.setIfInBounds i true))
def lD(E:Env)(call:ck)(ops:Array Oper)(o:Oper)(α:az)(H:ab)(v:AV)(H':ab):Prop:=
 (jG ops o.guard α=some true/\bz E call o.op (ev α) H=some (v,H'))\/(jG ops o.guard α=some false/\v=hM/\H'=H)
def lD.mN{i}{o:Oper}{α:az}{H H':ab}{v:AV}(hi:ops[i]? =some o)(c:lD E call ops o α H v H'){K:az->ab->Prop}(h:K (put α o.dst v) H'):mN E call ops i α H K:=by
 unfold Ab.mN;simp[hi];rcases c with⟨a,b⟩|⟨a,rfl,rfl⟩
 ·simp[a];exact⟨v,H',b,h⟩
 ·simp[a];exact h
def aec{i:Nat}{o:Oper}{α:az}{H:ab}{K:az->ab->Prop}(hi:ops[i]? =some o)(h:mN E call ops i α H K):∃v H',lD E call ops o α H v H'/\K (put α o.dst v) H':=by
 unfold mN at h;simp[hi] at h;split at h
 ·rename_i a;obtain⟨v,H',b,c⟩:=h;exact⟨v,H',.inl ⟨a,b⟩,c⟩
 ·rename_i a;exact⟨hM,H,.inr ⟨a,rfl,rfl⟩,h⟩
 ·cases h
def put_comm(α){x y}(v u)(h:∀d,x=some d->y≠some d):put (put α x v) y u=put (put α y u) x v:=by
 cases x with
 |none=>rfl
 |some d=>
  cases y with
  |none=>rfl
  |some e=>
   have c:d≠e:=λf=>h d rfl (f▸rfl);funext i;simp[put];by_cases a:i=e
   ·subst a;simp[aEy c]
   ·by_cases b:i=d
    ·subst b;simp[a]
    ·simp[a,b]
def aqE{α}{dst}{v}{x}(h:∀d,dst=some d->x≠.tmp d):ev (put α dst v) x=ev α x:=by
 cases dst with
 |none=>rfl
 |some d=>
  cases x with
  |tmp t=>have a:t≠d:=λe=>h d rfl (e▸rfl);simp[ev,put,a]
  |_=>rfl
def WB(o:Oper)(α)(dst)(v)(h:∀d,dst=some d->d∉o.looksAt ops)(H):bz E call o.op (ev (put α dst v)) H=bz E call o.op (ev α) H:=
 Uq o.op (λx b=>aqE λd a c=>h d a (by
  subst c
  exact aDo _ (aFA.2 ⟨.tmp d,by simpa using b,rfl⟩))) H
def Uz(o:Oper)(α)(dst)(v)(h:∀d,dst=some d->d∉o.looksAt ops):jG ops o.guard (put α dst v)=jG ops o.guard α:=by
 cases dst with
 |none=>rfl
 |some d=>
  unfold jG
  cases hg:o.guard with
  |none=>rfl
  |some b=>
   obtain⟨g,want⟩:=b;simp only
   cases ht:(ops[g]?).bind (·.dst) with
   |none=>rfl
   |some t=>have a:t≠d:=λe=>h d rfl (by subst e;simp[Oper.looksAt,hg,ht]);simp[put,a]
def lD.put{o:Oper}{α}{H H'}{v}(a:lD E call ops o α H v H')(dst)(u)(h:∀d,dst=some d->d∉o.looksAt ops):lD E call ops o (put α dst u) H v H':=by
 unfold lD at*
 rw[Uz o α dst u h,WB o α dst u h];exact a
def HK{op}(h:bO E op=.rd){ρ}{H H'}{v}(b:bz E call op ρ H=some (v,H')):H'=H:=by
 cases op<;>simp[bO] at h
 case load t a=>
  simp[bz] at b
  cases hl:lF E.P (.load t a) ρ H with
  |none=>simp[hl,an] at b
  |some x=>simp[hl,an] at b;exact b.2.symm
 case lookup t m k ok=>
  simp[bz] at b
  cases hl:lF E.P (.lookup t m k ok) ρ H with
  |none=>simp[hl,an] at b
  |some x=>simp[hl,an] at b;exact b.2.symm
 case call c=>
  split at h
  ·split at h<;>cases h
  ·cases h
  ·cases h
  ·rename_i d;simp[bz,tq,d] at b;unfold tO at b;split at b
   ·split at b
    ·split at b
     ·simp at b;exact b.2.symm
     ·cases b
    ·cases b
   ·cases hl:gD E.P c.argTypes (c.args.toList.map ρ) with
    |none=>simp[hl,an] at b
    |some x=>simp[hl,an] at b;exact b.2.symm
  ·cases h
def Ek{op}(h:bO E op=.ins){α}{H H'}{v}(a:bz E call op (ev α) H=some (v,H')):H'=H/\∀b,bz E call op (ev α) b=some (v,b):=by
 obtain⟨r,c⟩:=ahM (call:=call) op h (ev α) (avX α);rw[c] at a
 cases r with
 |none=>simp at a
 |some x=>simp at a;obtain⟨rfl,rfl⟩:=a;exact⟨rfl,λb=>by rw[c];rfl⟩
def agI{f e:Oper}(c:uK (bO E f.op) (bO E e.op)=true){α}{H i a}{v u}
  (d:bz E call f.op (ev α) H=some (v,i)) (b:bz E call e.op (ev α) i=some (u,a)):
  ∃h,bz E call e.op (ev α) H=some (u,h)/\bz E call f.op (ev α) h=some (v,a):=by
 cases hi:bO E f.op with
 |ins=>obtain⟨rfl,g⟩:=Ek hi d;exact⟨a,b,g a⟩
 |rd=>
  have:=HK hi d;subst this
  cases hj:bO E e.op with
  |ins=>obtain⟨rfl,_⟩:=Ek hj b;exact⟨a,b,d⟩
  |rd=>have:=HK hj b;subst this;exact⟨a,b,d⟩
  |wr=>rw[hi,hj] at c;simp[uK] at c
 |wr=>
  cases hj:bO E e.op with
  |ins=>obtain⟨rfl,g⟩:=Ek hj b;exact⟨H,g H,d⟩
  |rd=>rw[hi,hj] at c;simp[uK] at c
  |wr=>rw[hi,hj] at c;simp[uK] at c
def agJ{j}{a b:Oper}{v:AV}{α:az}{H m:ab}(i:ops[j]? =some b)(z:a.apart ops b=true)(t:uK (bO E a.op) (bO E b.op)=true){K:az->ab->Prop}
  (x:lD E call ops a α H v m) (h:mN E call ops j (put α a.dst v) m K):
  mN E call ops j α H (λp H'=>∃k,lD E call ops a p H' v k/\K (put p a.dst v) k):=by
 obtain⟨q,r,n⟩:=Oper.apart_spec z;obtain⟨u,g,c,f⟩:=aec i h;have d:lD E call ops b α m u g:=by unfold lD at c⊢;rwa [Uz b α a.dst v q,WB b α a.dst v q] at c
 rw[put_comm α v u r] at f;rcases x with⟨e,o⟩|⟨e,rfl,rfl⟩
 ·rcases d with⟨l,s⟩|⟨l,rfl,rfl⟩
  ·obtain⟨k,y,w⟩:=agI t o s;exact lD.mN i (.inl ⟨l,y⟩) ⟨g,lD.put (.inl ⟨e,w⟩) _ _ n,f⟩
  ·exact lD.mN i (.inr ⟨l,rfl,rfl⟩) ⟨g,lD.put (.inl ⟨e,o⟩) _ _ n,f⟩
 ·exact lD.mN i d ⟨g,lD.put (.inr ⟨e,rfl,rfl⟩) _ _ n,f⟩
def GV{i}{c:Oper}{listed:Array Bool}(hi:ops[i]? =some c)(h:Fa E ops listed i=true)(j)(b:Oper)(d:ops[j]? =some b)(f:j≠i)(l:listed.getD j true=false)
  (g:∀e∈b.after,Region.binds .any e=true->e.on≠i):c.apart ops b=true/\uK (bO E c.op) (bO E b.op)=true:=by
 simp only[Fa,hi,aDn,aDU] at h;have a:=h j (Δ.1 d).1;simp only[d,aD7,aEh,f,false_or,l,τ] at a;rcases a with a|a
 ·obtain⟨e,k,hb⟩:=aE8.1 a;simp at hb;exact absurd hb.2 (g e k hb.1)
 ·simpa using a
def GO{Q:az->ab->Prop}{i:Nat}{b:Oper}{v:AV}(hi:ops[i]? =some b):
  ∀fuel listed α H m,
   (∀j f,ops[j]? =some f->j≠i->listed.getD j true=false->(∀e∈f.after,Region.binds .any e=true->e.on≠i)->b.apart ops f=true/\uK (bO E b.op) (bO E f.op)=true)->
   i∈Region.ready .any ops listed->lD E call ops b α H v m->
   tH E call ops Q fuel (listed.setIfInBounds i true) (put α b.dst v) m->tH E call ops Q (fuel+1) listed α H:=by
 intro fuel
 induction fuel with
 |zero=>
  intro listed α H m _ d n g;refine⟨λh=>(by rw[h] at d;cases d),λj o=> ?_⟩;by_cases a:j=i
  ·subst a;exact n.mN hi g
  ·have:=ready_mono o a;rw[g.1] at this;cases this
 |succ fuel ih=>
  intro listed α H m A d n g;refine⟨λh=>(by rw[h] at d;cases d),λj o=> ?_⟩;by_cases a:j=i
  ·subst a;exact n.mN hi g
  ·have c:=g.2 j (ready_mono o a);obtain⟨l,f,y,K⟩:=aEY.1 o
   have s:∀e∈f.after,Region.binds .any e=true->e.on≠i:=λe M hb q=>by
    have c:=K e M hb;have x:=(aEY.1 d).1;rw[q] at c;rcases aEo i listed.size with r|r
    ·simp[r] at x c;rw[x] at c;cases c
    ·simp[aEJ r] at c
   obtain⟨p,u⟩:=A j f y a l s
   have t:∀k ok,ops[k]? =some ok->k≠i->(listed.setIfInBounds j true).getD k true=false->
     (∀e∈ok.after,Region.binds .any e=true->e.on≠i)->b.apart ops ok=true/\uK (bO E b.op) (bO E ok.op)=true:=λk ok D J w F=>by
    refine A k ok D J ?_ F;by_cases z:j=k
    ·subst z;exact l
    ·rw[getD_set_ne true z] at w;exact w
   refine U8 (λG H' L=> ?_) (agJ y p u n c);obtain⟨C,B,I⟩:=L;refine ih (listed.setIfInBounds j true) G H' C t (ready_mono d (aEy a)) B ?_;rw[Array.setIfInBounds_comm _ _ a];exact I
def Ms{Q:az->ab->Prop}:∀l k listed α H c H',(∀j,l[j]? =ops[k+j]?)->
  yG E ops l.length k listed=true->iS E call ops l α H=some (c,H')->Q c H'->tH E call ops Q l.length listed α H
 |[],_,listed,α,H,c,H',_,d,a,f=>by simp[iS] at a;obtain⟨rfl,rfl⟩:=a;exact⟨by simpa[yG] using d,f⟩
 |o::l,k,listed,α,H,c,H',h,d,a,f=>by
  have e:ops[k]? =some o:=by simpa using(h 0).symm
  simp[yG] at d;obtain⟨⟨m,g⟩,i⟩:=d;have n:∀j,l[j]? =ops[k+1+j]? :=λj=>by have:=h (j+1);simpa[aD9,aD6 1 j] using this
  simp[iS,an] at a
  cases hw:jG ops o.guard α with
  |none=>simp[hw] at a
  |some b=>
   simp[hw] at a
   cases b with
   |true=>
    simp[cY] at a
    cases hs:bz E call o.op (ev α) H with
    |none=>simp[hs] at a
    |some p=>obtain⟨v,q⟩:=p;simp[hs] at a;exact GO e l.length listed α H q (GV e g) (by simpa using m) (.inl ⟨hw,hs⟩) (Ms l (k+1) _ _ _ _ _ n i a f)
   |false=>simp[cY] at a;exact GO e l.length listed α H H (GV e g) (by simpa using m) (.inr ⟨hw,rfl,rfl⟩) (Ms l (k+1) _ _ _ _ _ n i a f)
def It(n k:Nat)(listed:Array Bool):Prop:=listed.size=n/\∀j d,listed.getD j d=if j<n then decide (j<k) else d
def It.set{n k}{listed:Array Bool}(h:It n k listed)(c:k<n):It n (k+1) (listed.setIfInBounds k true):=by
 refine⟨by simp[h.1],λj d=> ?_⟩;by_cases a:j=k
 ·subst a;simp[h.1,c]
 ·have:=h.2 j d;simp[aET] at this⊢;rw[aDN (aEy a),this];by_cases b:j<n
  ·simp[b];have:(j<k)=(j<k+1):=by apply propext;omega
   simp[this]
  ·simp[b]
def Ur:∀l k listed,(∀j,l[j]? =ops[k+j]?)->k+l.length=ops.size->It ops.size k listed->Fx E ops k l=true->yG E ops l.length k listed=true
 |[],k,listed,d,g,a,_=>by simp[yG,aFo];rw[aEF];intro j b;obtain⟨c,o,q,_⟩:=aEY.1 b;have f:j<ops.size:=(Δ.1 q).1;rw[a.2,ν f] at c;simp at g c;omega
 |o::l,k,listed,d,g,a,h=>by
  simp only[Fx,ap2] at h;obtain⟨⟨c,r⟩,u⟩:=h;simp only[Ι] at g;have i:k<ops.size:=aa;have p:ops[k]? =some o:=by simpa using(d 0).symm
  have m:∀j,l[j]? =ops[k+1+j]? :=λj=>by have:=d (j+1);simpa[aD9,aD6 1 j] using this
  simp only[Ι,yG,ap2];refine⟨⟨?_,?_⟩,Ur l (k+1) _ m aa (a.set i) u⟩
  ·rw[Θ,aEY];refine⟨by rw[a.2,ν i];simp,o,p,λe s hb=> ?_⟩;have:=aDW.1 c e s;simp[hb] at this;rw[a.2,xh];simpa using this
  ·simp only[Fa,p,aDn,aDU];intro j b;by_cases v:j=k
   ·simp[v]
   ·by_cases f:j<k
    ·rw[a.2,ν b];simp[f]
    ·have n:ops[j]? =some ops[j]:=aDK b;have t:ops[j]∈l:=by have:=m (j-(k+1));rw[show k+1+(j-(k+1))=j from aa,n] at this;exact Β this
     have:=aDn.1 r _ t;simp only[n];rw[this];simp
def aed(h:Fx E ops 0 ops.toList=true):HJ E ops=true:=by
 unfold HJ
 have:=Ur (ops:=ops) ops.toList 0 (Array.replicate ops.size false) ai ai ⟨ai,λj d=>by
  by_cases a:j<ops.size
  ·simp[a]
  ·simp[a]⟩ h
 simpa using this
def afE:∀a b,NX a b=true->a=b:=by
 intro a b h;unfold NX at h;split at h
 ·split at h
  ·rename_i a b;simp at h;rw[h]
  ·cases h
 ·split at h
  ·rfl
  ·cases h
 ·split at h
  ·rfl
  ·cases h
 ·split at h
  ·rename_i a b;simp at h;rw[h.1,h.2]
  ·cases h
 ·cases h
def agK:∀a b,OY a b=true->a=b:=by
 intro a b h;unfold OY at h;split at h
 ·split at h
  ·simp at h;rw[h]
  ·cases h
 ·cases h
def afF:∀a b,xX a b=true->a=b:=by
 intro a b h;unfold xX at h;split at h<;>(try rfl)
 ·simp at h;rw[h]
 ·simp only[ap2,aEh] at h;obtain⟨⟨⟨rfl,rfl⟩,rfl⟩,rfl⟩:=h;rfl
 ·cases h
mutual
def zI:∀a b,ef a b=true->a=b
 | .int k a,b,h=>by cases b<;>simp only[ef,τ] at h;simp only[ap2,aDs,aEh] at h;rw[h.1,h.2]
 | .bool a,b,h=>by cases b<;>simp only[ef,τ] at h;simp only[aEh] at h;rw[h]
 | .str a,b,h=>by cases b<;>simp only[ef,τ] at h;simp only[aEh] at h;rw[h]
 | .agg xs,b,h=>by cases b<;>simp only[ef,τ] at h;rw[wk xs _ h]
 | .tup xs,b,h=>by cases b<;>simp only[ef,τ] at h;rw[wk xs _ h]
 | .rptr xs,b,h=>by cases b<;>simp only[ef,τ] at h;rw[wk xs _ h]
 | .ptr a c,b,h=>by cases b<;>simp only[ef,τ] at h;simp only[ap2,aEh] at h;rw[h.1,h.2]
 | .sl a c d e,b,h=>by cases b<;>simp only[ef,τ] at h;simp only[ap2,aEh] at h;rw[h.1.1.1,h.1.1.2,h.1.2,h.2]
 | .map a,b,h=>by cases b<;>simp only[ef,τ] at h;simp only[aEh] at h;rw[h]
 | .vec o xs,b,h=>by cases b<;>simp only[ef,τ] at h;simp only[ap2] at h;rw[afF _ _ h.1,wk xs _ h.2]
 | .val v,b,h=>by cases b<;>simp only[ef,τ] at h;rw[afE _ _ h]
 | .fn f xs ys,b,h=>by cases b<;>simp only[ef,τ] at h;simp only[ap2] at h;rw[agK _ _ h.1.1,wk xs _ h.1.2,wk ys _ h.2]
 | .rK,b,h=>by cases b<;>first|rfl|(simp only[ef,τ] at h)
 | .any,b,h=>by cases b<;>first|rfl|(simp only[ef,τ] at h)
 | .iface t x,b,h=>by cases b<;>simp only[ef,τ] at h;simp only[ap2,aDs] at h;rw[h.1,zI x _ h.2]
def wk:∀xs ys,iV xs ys=true->xs=ys
 |[],ys,h=>by cases ys with|nil=>rfl|cons=>simp[iV] at h
 |a::xs,ys,h=>by
  cases ys with
  |nil=>simp[iV] at h
  |cons b ys=>simp[iV] at h;rw[zI a b h.1,wk xs ys h.2]
end
def U9{o:Oper}{α}{v}{H}(h:reads E call o α v H=true):∃H',bz E call o.op (ev α) H=some (v,H'):=by
 unfold reads at h;split at h
 ·rename_i u H' a;exact⟨H',by rw[a,zI u v h]⟩
 ·cases h
def oE(E:Env)(call:ck)(ops:Array Oper)(o:Oper)(α:az)(H:ab):Option (Bool×AV×ab):=
 an (jG ops o.guard α) λb=>cY b (an (bz E call o.op (ev α) H) λr=>some (true,r.1,r.2)) (some (false,hM,H))
def tr(E:Env)(call:ck)(ops:Array Oper)(α:az)(H:ab):Nat->az×ab
 |0=>(α,H)
 |k+1=>match ops[k]? with
  |some o=>match oE E call ops o (tr E call ops α H k).1 (tr E call ops α H k).2 with
   |some r=>(put (tr E call ops α H k).1 o.dst r.2.1,r.2.2)
   |none=>tr E call ops α H k
  |none=>tr E call ops α H k
def pW(E:Env)(call:ck)(ops:Array Oper)(α:az)(H:ab)(m:Nat):Prop:=
 ∃o r,ops[m]? =some o/\oE E call ops o (tr E call ops α H m).1 (tr E call ops α H m).2=some r/\
  (r.1=true->bO E o.op=.rd->∀j c d,j<m->ops[j]? =some c->oE E call ops c (tr E call ops α H j).1 (tr E call ops α H j).2=some d->d.1=true->bO E c.op=.wr->
   behind ops ops.size m j=true\/reads E call o (tr E call ops α H m).1 r.2.1 (tr E call ops α H j).2=true)/\
  (r.1=true->bO E o.op=.wr->∀i a b,i<m->ops[i]? =some a->oE E call ops a (tr E call ops α H i).1 (tr E call ops α H i).2=some b->b.1=true->bO E a.op=.rd->
   behind ops ops.size m i=true\/reads E call a (tr E call ops α H i).1 b.2.1 r.2.2=true)
def SX{α}{H}:∀l k n g t H',(∀j,l[j]? =ops[k+j]?)->k+l.length=ops.size->
  (∀i f u,i<k->ops[i]? =some f->oE E call ops f (tr E call ops α H i).1 (tr E call ops α H i).2=some u->u.1=true->bO E f.op=.rd->(i,f,(tr E call ops α H i).1,u.2.1)∈n)->
  (∀j v w,j<k->ops[j]? =some v->oE E call ops v (tr E call ops α H j).1 (tr E call ops α H j).2=some w->w.1=true->bO E v.op=.wr->(j,(tr E call ops α H j).2)∈g)->
  eP E call ops k l n g (tr E call ops α H k).1 (tr E call ops α H k).2=some (t,H')->
  (∀m,k<=m->m<ops.size->pW E call ops α H m)/\tr E call ops α H ops.size=(t,H')
 |[],k,n,g,t,H',_,F,_,_,h=>by simp[eP] at h;simp at F;subst F;exact⟨λm d a=>absurd a aa,by rw[<-h.1,<-h.2]⟩
 |o::l,k,n,g,t,H',K,F,J,x,h=>by
  have s:ops[k]? =some o:=by simpa using(K 0).symm
  have T:∀j,l[j]? =ops[k+1+j]? :=λj=>by have:=K (j+1);simpa[aD9,aD6 1 j] using this
  simp at F;simp[eP] at h
  have key:∀r z y,oE E call ops o (tr E call ops α H k).1 (tr E call ops α H k).2=some r->
    (r.1=true->bO E o.op=.rd->(k,o,(tr E call ops α H k).1,r.2.1)∈z)->(∀q∈n,q∈z)->(r.1=true->bO E o.op=.wr->(k,(tr E call ops α H k).2)∈y)->(∀q∈g,q∈y)->
    eP E call ops (k+1) l z y (put (tr E call ops α H k).1 o.dst r.2.1) r.2.2=some (t,H')->pW E call ops α H k->
    (∀m,k<=m->m<ops.size->pW E call ops α H m)/\tr E call ops α H ops.size=(t,H'):=by
   intro r z y c M S N P R O;have Q:tr E call ops α H (k+1)=(put (tr E call ops α H k).1 o.dst r.2.1,r.2.2):=by simp[tr,s,c]
   have:=SX (α:=α) (H:=H) l (k+1) z y t H' T aa ?_ ?_ (by rw[Q];exact R)
   ·refine⟨λm d a=> ?_,this.2⟩;by_cases e:m=k
    ·subst e;exact O
    ·exact this.1 m aa a
   ·intro i f u hi D C d a;by_cases e:i=k
    ·subst e;rw[s] at D;cases D;rw[c] at C;cases C;exact M d a
    ·exact S _ (J i f u aa D C d a)
   ·intro j v w L A B d a;by_cases e:j=k
    ·subst e;rw[s] at A;cases A;rw[c] at B;cases B;exact N d a
    ·exact P _ (x j v w aa A B d a)
  cases hw:jG ops o.guard (tr E call ops α H k).1 with
  |none=>simp[hw,an] at h
  |some b=>
   simp[hw,an] at h
   cases b with
   |false=>
    simp[cY] at h;have c:oE E call ops o (tr E call ops α H k).1 (tr E call ops α H k).2=some (false,hM,(tr E call ops α H k).2):=by simp[oE,hw,an,cY]
    exact key _ n g c ai (λ_ h=>h) ai (λ_ h=>h) h ⟨o,_,s,c,ai,ai⟩
   |true=>
    simp[cY] at h
    cases hs:bz E call o.op (ev (tr E call ops α H k).1) (tr E call ops α H k).2 with
    |none=>simp[hs] at h
    |some p=>
     simp[hs] at h;have c:oE E call ops o (tr E call ops α H k).1 (tr E call ops α H k).2=some (true,p.1,p.2):=by simp[oE,hw,an,cY,hs]
     cases hk:bO E o.op with
     |ins=>simp[hk] at h;exact key _ n g c (by simp[hk]) (λ_ h=>h) (by simp[hk]) (λ_ h=>h) h ⟨o,_,s,c,by simp[hk],by simp[hk]⟩
     |rd=>
      simp only[hk] at h;split at h
      ·rename_i I;refine key _ _ g c (λ_ _=>ai) (λq G=>by simp[G]) (by simp[hk]) (λ_ h=>h) h ⟨o,_,s,c,λ_ _ j v w L A B d a=> ?_,by simp[hk]⟩;have:=aDn.1 I _ (x j v w L A B d a);simpa using this
      ·cases h
     |wr=>
      simp only[hk] at h;split at h
      ·rename_i I;refine key _ n _ c (by simp[hk]) (λ_ h=>h) (λ_ _=>ai) (λq G=>by simp[G]) h ⟨o,_,s,c,by simp[hk],λ_ _ i f u hi D C d a=> ?_⟩;have:=aDn.1 I _ (J i f u hi D C d a);simpa using this
      ·cases h
def AY(E:Env)(ops:Array Oper):Bool:=
 (List.range ops.size).all λk=>match ops[k]? with
  |some o=>o.after.all (λe=> !Region.binds .any e||decide (e.on<k))&&
    (List.range k).all λi=>behind ops ops.size k i||match ops[i]? with
     |some a=>a.apart ops o&& !(bO E a.op==.wr&&bO E o.op==.wr)
     |none=>false
  |none=>false
end
section
variable {E:Env} {call:ck} {ops:Array Oper} {α:az} {H:ab}
def ma(ops:Array Oper)(m:Nat):Option Tmp:=(ops[m]?).bind (·.dst)
def sJ(E:Env)(call:ck)(ops:Array Oper)(α:az)(H:ab)(m:Nat):Option (Bool×AV×ab):=
 an ops[m]? λo=>oE E call ops o (tr E call ops α H m).1 (tr E call ops α H m).2
def pb(E:Env)(call:ck)(ops:Array Oper)(α:az)(H:ab)(m:Nat):AV:=match sJ E call ops α H m with|some r=>r.2.1|none=>hM
def iH(E:Env)(call:ck)(ops:Array Oper)(α:az)(H:ab)(m:Nat):Bool:=
 match sJ E call ops α H m,ops[m]? with|some r,some o=>r.1&&decide (bO E o.op=.wr)|_,_=>false
def Fk(E:Env)(call:ck)(ops:Array Oper)(α:az)(H:ab)(p:Nat->Bool):Nat->az
 |0=>α
 |k+1=>if p k=true then put (Fk E call ops α H p k) (ma ops k) (pb E call ops α H k) else Fk E call ops α H p k
def Hk(E:Env)(call:ck)(ops:Array Oper)(α:az)(H:ab)(p:Nat->Bool):Nat->ab
 |0=>H
 |k+1=>if p k=true/\iH E call ops α H k=true then(tr E call ops α H (k+1)).2 else Hk E call ops α H p k
def afG{o:Oper}{r}{α}{H}(h:oE E call ops o α H=some r)(a:¬(r.1=true/\bO E o.op=.wr)):r.2.2=H:=by
 unfold oE at h
 cases hw:jG ops o.guard α with
 |none=>simp[hw,an] at h
 |some b=>
  simp[hw,an] at h
  cases b with
  |false=>simp[cY] at h;rw[<-h]
  |true=>
   simp[cY] at h
   cases hs:bz E call o.op (ev α) H with
   |none=>simp[hs] at h
   |some q=>
    simp[hs] at h;subst h
    cases py:bO E o.op with
    |ins=>exact(Ek py hs).1
    |rd=>exact HK py hs
    |wr=>exact absurd ⟨rfl,py⟩ a
def NZ{m:Nat}(h:pW E call ops α H m):tr E call ops α H (m+1)=(put (tr E call ops α H m).1 (ma ops m) (pb E call ops α H m),(tr E call ops α H (m+1)).2)/\
  (iH E call ops α H m=false->(tr E call ops α H (m+1)).2=(tr E call ops α H m).2):=by
 obtain⟨o,r,a,b,_,_⟩:=h;have c:sJ E call ops α H m=some r:=by simp[sJ,a,an,b]
 have e:tr E call ops α H (m+1)=(put (tr E call ops α H m).1 o.dst r.2.1,r.2.2):=by simp[tr,a,b]
 constructor
 ·rw[e];simp[ma,a,pb,c]
 ·intro d;rw[e];simp only[iH,c,a,aFl,decide_eq_false_iff_not] at d;exact afG b (by rintro⟨g,f⟩;rcases d with h|h;(rw[g] at h;cases h);exact h f)
def I8{i}(a:∀m,m<i->pW E call ops α H m):∀k,k<=i->Fk E call ops α H (λm=>decide (m<i)) k=(tr E call ops α H k).1
 |0,_=>rfl
 |k+1,hk=>by simp only[Fk];rw[ν aX,I8 a k aa];have:=(NZ (a k aa)).1;rw[this]
def abR{i}:∀k,i<=k->Fk E call ops α H (λm=>decide (m<i)) k=Fk E call ops α H (λm=>decide (m<i)) i
 |0,a=>by have:i=0:=aa;subst this;rfl
 |k+1,a=>by
  by_cases e:i=k+1
  ·subst e;rfl
  ·simp[Fk];rw[κ aX];exact abR k aa
def Ff{i}(b:∀m,m<i->pW E call ops α H m):∀k,k<=i->Hk E call ops α H (λm=>decide (m<i)) k=(tr E call ops α H k).2
 |0,_=>rfl
 |k+1,hk=>by
  simp only[Hk];by_cases a:iH E call ops α H k=true
  ·rw[ν ⟨aX,a⟩]
  ·rw[κ (λh=>a h.2),Ff b k aa];exact((NZ (b k aa)).2 (by simpa using a)).symm
def P9{i}:∀k,i<=k->Hk E call ops α H (λm=>decide (m<i)) k=Hk E call ops α H (λm=>decide (m<i)) i
 |0,a=>by have:i=0:=aa;subst this;rfl
 |k+1,a=>by
  by_cases e:i=k+1
  ·subst e;rfl
  ·simp[Hk];rw[κ aX];exact P9 k aa
def Hn{p q}{t:Tmp}:∀k,(∀m,m<k->p m≠q m->ma ops m≠some t)->Fk E call ops α H p k t=Fk E call ops α H q k t
 |0,_=>rfl
 |k+1,h=>by
  have ih:=Hn (p:=p) (q:=q) (t:=t) k λm hm=>h m aa
  have l:∀f:az,ma ops k≠some t->put f (ma ops k) (pb E call ops α H k) t=f t:=by
   intro f a
   cases hd:ma ops k with
   |none=>rfl
   |some d=>simp only[put];rw[κ];rintro rfl;exact a hd
  have j:∀f g:az,f t=g t->put f (ma ops k) (pb E call ops α H k) t=put g (ma ops k) (pb E call ops α H k) t:=by
   intro f g c
   cases hd:ma ops k with
   |none=>exact c
   |some d=>simp[put];split<;>simp_all
  simp[Fk];by_cases b:p k=q k
  ·rw[b];split
   ·exact j _ _ ih
   ·exact ih
  ·have a:=h k aa b;by_cases i:p k=true
   ·rw[ν i,κ (by rw[i] at b;exact λe=>b e.symm),l _ a];exact ih
   ·rw[κ i,ν (by cases hq:q k<;>simp_all),l _ a];exact ih
def BW{p q}:∀k,(∀m,m<k->iH E call ops α H m=true->p m=q m)->Hk E call ops α H p k=Hk E call ops α H q k
 |0,_=>rfl
 |k+1,h=>by
  have ih:=BW (p:=p) (q:=q) k λm hm=>h m aa;simp[Hk];by_cases a:iH E call ops α H k=true
  ·rw[h k aa a,ih]
  ·rw[κ (λh=>a h.2),κ (λh=>a h.2),ih]
def jM(p:Nat->Bool)(i:Nat):Nat->Bool:=λm=>if m=i then true else p m
def uM(p:Nat->Bool)(i:Nat):jM p i i=true:=by simp[jM]
def kV{p:Nat->Bool}{i m:Nat}(h:¬m=i):jM p i m=p m:=by simp[jM,h]
def MQ{p:Nat->Bool}{i:Nat}(e:p i=false):∀k,(∀m,i<m->m<k->p m=true->∀d,ma ops i=some d->ma ops m≠some d)->
  Fk E call ops α H (jM p i) k=if i<k then put (Fk E call ops α H p k) (ma ops i) (pb E call ops α H i) else Fk E call ops α H p k
 |0,_=>by simp[Fk]
 |k+1,h=>by
  have ih:=MQ e k λm f h2=>h m f aa;simp[Fk];rcases aEl k i with aN|b|c
  ·rw[kV (aa:¬k=i),ih,κ (aa:¬i<k),κ (aa:¬i<k+1)]
  ·subst b;rw[uM,ν rfl,ih];simp[e]
  ·rw[kV (aa:¬k=i),ih,ν c,ν (aa:i<k+1)];by_cases a:p k=true
   ·rw[ν a,ν a];exact put_comm _ _ _ (h k c aa a)
   ·rw[κ a,κ a]
def Mf{p:Nat->Bool}{i:Nat}(b:iH E call ops α H i=true):∀k,i<k->(∀m,i<m->m<k->p m=true->iH E call ops α H m=false)->
  Hk E call ops α H (jM p i) k=(tr E call ops α H (i+1)).2
 |0,d,_=>by omega
 |k+1,d,h=>by
  simp[Hk];by_cases e:k=i
  ·subst e;rw[ν ⟨uM _ _,b⟩]
  ·rw[κ (λa=>by
    have c:=a.1;rw[kV e] at c;have:=h k aa aa c;rw[this] at a
    exact absurd a.2 ai)]
   exact Mf b k aa λm f h2=>h m f aa
def Yj{p}:∀k,(∃j,j<k/\p j=true/\iH E call ops α H j=true/\Hk E call ops α H p k=(tr E call ops α H (j+1)).2/\∀m,j<m->m<k->¬(p m=true/\iH E call ops α H m=true))\/
  ((∀m,m<k->¬(p m=true/\iH E call ops α H m=true))/\Hk E call ops α H p k=H)
 |0=>.inr ⟨λm hm=>absurd hm aa,rfl⟩
 |k+1=>by
  simp only[Hk];by_cases c:p k=true/\iH E call ops α H k=true
  ·exact .inl ⟨k,aa,c.1,c.2,by rw[ν c],λm f d=>absurd f aa⟩
  ·rw[κ c];rcases Yj (p:=p) k with⟨j,f,d,i,g,h⟩|⟨f,d⟩
   ·refine .inl ⟨j,aa,d,i,g,λm a b=> ?_⟩;by_cases e:m=k
    ·subst e;exact c
    ·exact h m a aa
   ·refine .inr ⟨λm hm=> ?_,d⟩;by_cases e:m=k
    ·subst e;exact c
    ·exact f m aa
def Nh{a}:∀b,a<=b->(∀m,a<=m->m<b->pW E call ops α H m)->(∀m,a<=m->m<b->iH E call ops α H m=false)->(tr E call ops α H b).2=(tr E call ops α H a).2
 |0,h,_,_=>by have:a=0:=aa;subst this;rfl
 |b+1,h,f,d=>by
  by_cases e:a=b+1
  ·subst e;rfl
  ·rw[(NZ (f b aa aa)).2 (d b aa aa)];exact Nh b aa (λm c g=>f m c aa) (λm c g=>d m c aa)
def HL(f:Nat->Bool)(a:Nat):∀b,(∀m,a<=m->m<b->f m=false)\/∃m,a<=m/\m<b/\f m=true/\∀m',a<=m'->m'<m->f m'=false
 |0=>.inl λm _ h=>absurd h aa
 |b+1=>by
  rcases HL f a b with h|⟨m,c,d,i,g⟩
  ·by_cases hb:a<=b/\f b=true
   ·exact .inr ⟨b,hb.1,aa,hb.2,λm' c d=>h m' c d⟩
   ·refine .inl λm c d=> ?_;by_cases e:m=b
    ·subst e;simpa[c] using hb
    ·exact h m c aa
  ·exact .inr ⟨m,c,aa,i,g⟩
def u9(ops:Array Oper)(p:Nat->Bool):Prop:=∀j o e,p j=true->ops[j]? =some o->e∈o.after->Region.binds .any e=true->p e.on=true
def DY{p:Nat->Bool}(b:u9 ops p):∀n j k,p j=true->behind ops n j k=true->p k=true
 |0,j,k,_,h=>by simp[behind] at h
 |n+1,j,k,g,h=>by
  simp[behind] at h;split at h
  ·rename_i o d;obtain⟨e,f,hb⟩:=aE8.1 h;simp at hb;have c:=b j o e g d f hb.1;rcases hb.2 with a|a
   ·rw[<-a];exact c
   ·exact DY b n e.on k c a
  ·cases h
def Us{p:Nat->Bool}(c:u9 ops p){i:Nat}{o:Oper}(d:ops[i]? =some o)(g:∀e∈o.after,Region.binds .any e=true->p e.on=true)(n k:Nat)(h:behind ops n i k=true):p k=true:=by
 cases n with
 |zero=>simp[behind] at h
 |succ n=>
  simp only[behind,d] at h;obtain⟨e,f,hb⟩:=aE8.1 h;simp at hb;have b:=g e f hb.1;rcases hb.2 with a|a
  ·rw[<-a];exact b
  ·exact DY c n e.on k b a
def MR(h:AY E ops=true){k}{o:Oper}(j:ops[k]? =some o):(∀e∈o.after,Region.binds .any e=true->e.on<k)/\
  ∀i d,i<k->ops[i]? =some d->behind ops ops.size k i=true\/(d.apart ops o=true/\¬(bO E d.op=.wr/\bO E o.op=.wr)):=by
 unfold AY at h;rw[aDn] at h;have q:k<ops.size:=(Δ.1 j).1;have g:=h k (aDU.2 q);simp only[j,ap2,aDn,aDU,aD7] at g;obtain⟨n,m⟩:=g;refine⟨λe l hb=> ?_,λi d hi p=> ?_⟩
 ·have:=aDW.1 n e l;simp[hb] at this;exact this
 ·rcases m i hi with c|c
  ·exact .inl c
  ·right;simp[p,aEA] at c;refine⟨c.1,?_⟩;rintro⟨a,b⟩;rcases c.2 with f|f
   ·exact f a
   ·exact f b
def xL{x y:Oper}(h:x.apart ops y=true):(∀d,x.dst=some d->d∉y.looksAt ops)/\(∀d,x.dst=some d->y.dst≠some d)/\(∀d,y.dst=some d->d∉x.looksAt ops):=Oper.apart_spec h
def MS(y:∀m,m<ops.size->pW E call ops α H m){p:Nat->Bool}(hd:u9 ops p){i:Nat}{o:Oper}(w:ops[i]? =some o)(O:p i=false)
  (hr:∀e∈o.after,Region.binds .any e=true->p e.on=true)
  (W:∀m f,m<i->p m=false->behind ops ops.size i m=false->ops[m]? =some f->f.apart ops o=true/\¬(bO E f.op=.wr/\bO E o.op=.wr))
  (F:∀m f,i<m->p m=true->behind ops ops.size m i=false->ops[m]? =some f->o.apart ops f=true/\¬(bO E o.op=.wr/\bO E f.op=.wr)):
  ∃H',lD E call ops o (Fk E call ops α H p ops.size) (Hk E call ops α H p ops.size) (pb E call ops α H i) H'/\
   put (Fk E call ops α H p ops.size) o.dst (pb E call ops α H i)=Fk E call ops α H (jM p i) ops.size/\H'=Hk E call ops α H (jM p i) ops.size:=by
 have og:i<ops.size:=(Δ.1 w).1;have mh:ma ops i=o.dst:=by simp[ma,w]
 have J:∀m,m<i->p m=false->behind ops ops.size i m=false:=λm hm k=>by
  cases h:behind ops ops.size i m with
  |false=>rfl
  |true=>have:=Us hd w hr _ _ h;rw[k] at this;cases this
 have K:∀m,p m=true->behind ops ops.size m i=false:=λm k=>by
  cases h:behind ops ops.size m i with
  |false=>rfl
  |true=>have:=DY hd _ _ _ k h;rw[O] at this;cases this
 replace W:∀m f,m<i->p m=false->ops[m]? =some f->f.apart ops o=true/\¬(bO E f.op=.wr/\bO E o.op=.wr):=λm f hm k l=>W m f hm k (J m hm k) l;replace F:∀m f,i<m->p m=true->ops[m]? =some f->o.apart ops f=true/\¬(bO E o.op=.wr/\bO E f.op=.wr):=λm f hm k l=>F m f hm k (K m k) l
 have Q:∀t,t∈o.looksAt ops->Fk E call ops α H p ops.size t=(tr E call ops α H i).1 t:=by
  intro t C;rw[<-I8 (λm hm=>y m aa) i (μ _),<-abR ops.size aa];refine Hn _ λm hm T=> ?_;have l:ops[m]? =some ops[m]:=aDK hm;rcases aEl m i with I|s|N
  ·have k:p m=false:=by simpa[I] using T
   have:=(xL (W m _ I k l).1).1;simp[ma,l];intro ja;exact this t ja C
  ·subst s;simp[O] at T
  ·have k:p m=true:=by
    have:decide (m<i)=false:=aX;rw[this] at T;simpa using T
   have:=(xL (F m _ N k l).1).2.2;simp[ma,l];intro ja;exact this t ja C
 have AZ:∀x∈o.op.operands,ev (Fk E call ops α H p ops.size) x=ev (tr E call ops α H i).1 x:=λx hx=>ahL λt C=>Q t (by
  subst C
  exact aDo _ (aFA.2 ⟨.tmp t,by simpa using hx,rfl⟩))
 have P_:∀A,bz E call o.op (ev (Fk E call ops α H p ops.size)) A=bz E call o.op (ev (tr E call ops α H i).1) A:=λA=>Uq o.op AZ A
 have S:jG ops o.guard (Fk E call ops α H p ops.size)=jG ops o.guard (tr E call ops α H i).1:=by
  unfold jG
  cases hg:o.guard with
  |none=>rfl
  |some gw=>
   obtain⟨g,want⟩:=gw;simp only
   cases C:(ops[g]?).bind (·.dst) with
   |none=>rfl
   |some t=>simp only;rw[Q t (by simp[Oper.looksAt,hg,C])]
 obtain⟨o',r,P,u,vL,Bf⟩:=y i og;rw[w] at P;cases P;have R:sJ E call ops α H i=some r:=by simp[sJ,w,an,u]
 have L:pb E call ops α H i=r.2.1:=by simp[pb,R]
 have I_:(tr E call ops α H (i+1)).2=r.2.2:=by simp[tr,w,u]
 have Z:put (Fk E call ops α H p ops.size) o.dst (pb E call ops α H i)=Fk E call ops α H (jM p i) ops.size:=by rw[MQ O ops.size,ν og,mh];intro m hm yZ k d Dl;have l:ops[m]? =some ops[m]:=aDK yZ;have:=(xL (F m _ hm k l).1).2.1 d (by rw[<-mh];exact Dl);simpa[ma,l] using this
 have O0:iH E call ops α H i=false->Hk E call ops α H (jM p i) ops.size=Hk E call ops α H p ops.size:=λz=>BW _ λm hm v=>by
  by_cases e:m=i
  ·subst e;rw[z] at v;cases v
  ·rw[kV e]
 unfold oE at u
 cases z:jG ops o.guard (tr E call ops α H i).1 with
 |none=>simp[z,an] at u
 |some b=>
  simp[z,an] at u
  cases b with
  |false=>simp[cY] at u;subst u;refine⟨_,.inr ⟨by rw[S,z],L,rfl⟩,Z,?_⟩;rw[O0 (by simp[iH,R,w])]
  |true=>
   simp[cY] at u
   cases hs:bz E call o.op (ev (tr E call ops α H i).1) (tr E call ops α H i).2 with
   |none=>simp[hs] at u
   |some q=>
    simp[hs] at u;subst u;simp only at L I_ vL Bf
    cases hk:bO E o.op with
    |ins=>obtain⟨_,dY⟩:=Ek hk hs;refine⟨_,.inl ⟨by rw[S,z],?_⟩,Z,(O0 (by simp[iH,R,w,hk])).symm⟩;rw[P_,L];exact dY _
    |wr=>
     have b':iH E call ops α H i=true:=by simp[iH,R,w,hk]
     have P8:Hk E call ops α H p ops.size=(tr E call ops α H i).2:=by
      rw[<-Ff (λm hm=>y m aa) i (μ _),<-P9 ops.size aa];refine BW _ λm hm v=> ?_;obtain⟨f,V,l,G,_,_⟩:=y m hm;have Y:bO E f.op=.wr:=by simp[iH,sJ,l,an,G] at v;exact v.2
      rcases aEl m i with I|s|N
      ·cases k:p m with
       |true=>simp[I]
       |false=>exact absurd ⟨Y,hk⟩ (W m f I k l).2
      ·subst s;simp[O]
      ·cases k:p m with
       |false=>simp;omega
       |true=>exact absurd ⟨hk,Y⟩ (F m f N k l).2
     refine⟨q.2,.inl ⟨by rw[S,z],?_⟩,Z,?_⟩
     ·rw[P_,P8,hs,L]
     ·rw[Mf b' ops.size og,I_];intro m hm yZ k
      cases v:iH E call ops α H m with
      |false=>rfl
      |true=>
       obtain⟨f,V,l,G,_,_⟩:=y m yZ;have Y:bO E f.op=.wr:=by simp[iH,sJ,l,an,G] at v;exact v.2
       exact absurd ⟨hk,Y⟩ (F m f hm k l).2
    |rd=>
     have c':∃A,bz E call o.op (ev (tr E call ops α H i).1) (Hk E call ops α H p ops.size)=some (q.1,A):=by
      have look:∀a,a<=i->(∀m,a<=m->m<i->iH E call ops α H m=true->p m=false)->∃A,bz E call o.op (ev (tr E call ops α H i).1) (tr E call ops α H a).2=some (q.1,A):=by
       intro a ha jX;rcases HL (iH E call ops α H) a i with h|⟨m,B,n,U,h4⟩
       ·rw[<-Nh i ha (λm B n=>y m aa) h];exact⟨_,hs⟩
       ·have k:=jX m B n U;obtain⟨f,V,l,G,_,_⟩:=y m aa;have v:V.1=true/\bO E f.op=.wr:=by simpa only[iH,sJ,l,an,G,ap2,aDs] using U
        rcases vL trivial hk m f V n l G v.1 v.2 with D|D
        ·rw[J m n k] at D;cases D
        ·rw[<-Nh m B (λm' a1 a2=>y m' aa) h4];exact U9 D
      rcases Yj (call:=call) (ops:=ops) (α:=α) (H:=H) (p:=p) ops.size with⟨j,B,n,U,h4,D⟩|⟨B,n⟩
      ·rw[h4];rcases aEl j i with I|s|N
       ·refine look (j+1) aa λm a b c=> ?_
        cases k:p m with
        |false=>rfl
        |true=>exact absurd ⟨k,c⟩ (D m aa aa)
       ·subst s;rw[O] at n;cases n
       ·obtain⟨oj,rj,lT,yY,_,a'⟩:=y j B;have M:rj.1=true/\bO E oj.op=.wr:=by simpa only[iH,sJ,lT,an,yY,ap2,aDs] using U
        have vD:(tr E call ops α H (j+1)).2=rj.2.2:=by simp[tr,lT,yY]
        rcases a' M.1 M.2 i o (true,q.1,q.2) N w (by simp[oE,z,an,cY,hs]) rfl hk with X|X
        ·rw[K j n] at X;cases X
        ·rw[vD];exact U9 X
      ·rw[n];refine look 0 aa λm a b c=> ?_
       cases k:p m with
       |false=>rfl
       |true=>exact absurd ⟨k,c⟩ (B m aa)
     obtain⟨A,n⟩:=c';have oS:=HK hk n;subst oS;refine⟨_,.inl ⟨by rw[S,z],?_⟩,Z,(O0 (by simp[iH,R,w,hk])).symm⟩;rw[P_,L];exact n
def ak1(c:AY E ops=true)(k:∀m,m<ops.size->pW E call ops α H m){p:Nat->Bool}(f:u9 ops p){i}{o:Oper}(a:ops[i]? =some o)(j:p i=false)
  (g:∀e∈o.after,Region.binds .any e=true->p e.on=true):
  ∃H',lD E call ops o (Fk E call ops α H p ops.size) (Hk E call ops α H p ops.size) (pb E call ops α H i) H'/\
   put (Fk E call ops α H p ops.size) o.dst (pb E call ops α H i)=Fk E call ops α H (jM p i) ops.size/\H'=Hk E call ops α H (jM p i) ops.size:=
 MS k f a j g
  (λm d hm _ hb b=>by
   rcases(MR c a).2 m d hm b with h|h
   ·rw[hb] at h;cases h
   ·exact h)
  (λm d hm _ hb b=>by
   rcases(MR c b).2 i o hm a with h|h
   ·rw[hb] at h;cases h
   ·exact h)
def pX(p:Nat->Bool):Nat->Nat
 |0=>0
 |k+1=>pX p k+(if p k=true then 0 else 1)
def Ni{p}{i:Nat}(b:p i=false):∀k,pX (jM p i) k+(if i<k then 1 else 0)=pX p k
 |0=>by simp[pX]
 |k+1=>by
  have ih:=Ni b k;simp[pX];rcases aEl k i with aN|a|c
  ·rw[kV (aa:¬k=i),κ (aa:¬i<k+1)];rw[κ (aa:¬i<k)] at ih;omega
  ·subst a;rw[uM,ν rfl];simp only[b,τ,aDf];rw[κ (aa:¬k<k)] at ih;rw[ν (aa:k<k+1)];omega
  ·rw[kV (aa:¬k=i),ν (aa:i<k+1)];rw[ν c] at ih;omega
def MT{p:Nat->Bool}:∀k,pX p k=0->∀m,m<k->p m=true
 |0,_,m,hm=>by omega
 |k+1,h,m,hm=>by
  simp[pX] at h;by_cases e:m=k
  ·subst e
   cases hp:p m with
   |true=>rfl
   |false=>simp[hp] at h
  ·exact MT k aa m aa
def Nj{p:Nat->Bool}:∀k,(∀m,m<k->p m=true)->pX p k=0
 |0,_=>rfl
 |k+1,h=>by simp[pX,h k aa,Nj k λm hm=>h m aa]
def aeS(x:AY E ops=true)(u:∀m,m<ops.size->pW E call ops α H m){Q:az->ab->Prop}(F:Q (tr E call ops α H ops.size).1 (tr E call ops α H ops.size).2):∀fuel listed,listed.size=ops.size->
  u9 ops (λm=>listed.getD m false)->pX (λm=>listed.getD m false) ops.size=fuel->tH E call ops Q fuel listed (Fk E call ops α H (λm=>listed.getD m false) ops.size) (Hk E call ops α H (λm=>listed.getD m false) ops.size):=by
 have SY:∀listed:Array Bool,listed.size=ops.size->∀m,listed.getD m false=true->m<ops.size:=λlisted a m h=>by
  rcases aEo m listed.size with y|y
  ·omega
  ·simp[aEJ y] at h
 have r:∀listed:Array Bool,listed.size=ops.size->∀m,m<ops.size->listed.getD m true=listed.getD m false:=λlisted a m hm=>by have:m<listed.size:=aa;simp[this]
 intro fuel
 induction fuel with
 |zero=>
  intro listed a q B;have c:=MT _ B;refine⟨?_,?_⟩
  ·rw[aEF];intro j l;obtain⟨b,o,d,_⟩:=aEY.1 l;have A:j<ops.size:=(Δ.1 d).1;have f:listed.getD j false=true:=c j A;rw[r listed a j A,f] at b;cases b
  ·have k:Fk E call ops α H (λm=>listed.getD m false) ops.size=(tr E call ops α H ops.size).1:=by
    rw[<-I8 u ops.size (μ _)];funext t;refine Hn _ λm hm G=> ?_;have:listed.getD m false=true:=c m hm;simp[this,hm] at G
   have g:Hk E call ops α H (λm=>listed.getD m false) ops.size=(tr E call ops α H ops.size).2:=by rw[<-Ff u ops.size (μ _)];refine BW _ λm hm _=> ?_;have:listed.getD m false=true:=c m hm;simp[this,hm]
   rw[k,g];exact F
 |succ fuel ih=>
  intro listed a q B;refine⟨λD=> ?_,λi hi=> ?_⟩
  ·exfalso;rcases HL (λm=> !listed.getD m false) 0 ops.size with h|⟨m,_,f,K,I⟩
   ·have:=Nj (p:=λm=>listed.getD m false) ops.size λm hm=>by have:=h m aa hm;simpa using this
    omega
   ·have z:ops[m]? =some ops[m]:=aDK f
    have:m∈Region.ready .any ops listed:=aEY.2 ⟨by rw[r listed a m f];simpa using K,_,z,λe n hb=>by
     have:=I e.on aa ((MR x z).1 e n hb)
     simpa using this⟩
    rw[D] at this;cases this
  ·obtain⟨b,o,d,c⟩:=aEY.1 hi;have w:i<ops.size:=(Δ.1 d).1;rw[r listed a i w] at b;obtain⟨H',J,C,hH⟩:=ak1 (call:=call) (α:=α) (H:=H) x u q d b c
   have v:(λm=>(listed.setIfInBounds i true).getD m false)=jM (λm=>listed.getD m false) i:=by
    funext m;by_cases e:m=i
    ·subst e;have:m<listed.size:=aa;simp[this,jM]
    ·rw[kV e];exact getD_set_ne false (aEy e)
   refine J.mN d ?_;rw[C,hH]
   have:=ih (listed.setIfInBounds i true) (by simp[a]) (by
    rw[v];intro j L e l s n hb;by_cases k:e.on=i
    ·rw[k];exact uM _ _
    ·rw[kV k];by_cases g:j=i
     ·subst g;rw[d] at s;cases s;exact c e n hb
     ·rw[kV g] at l
      exact q j L e l s n hb) (by
    rw[v];have:=Ni (p:=λm=>listed.getD m false) b ops.size;rw[ν w] at this
    omega)
   rw[v] at this;exact this
def ak2(c:AY E ops=true){b}{H'}(h:eP E call ops 0 ops.toList [] [] α H=some (b,H')){Q:az->ab->Prop}(n:Q b H'):tH E call ops Q ops.size (Array.replicate ops.size false) α H:=by
 obtain⟨p,g⟩:=SX (call:=call) (ops:=ops) (α:=α) (H:=H) ops.toList 0 [] [] b H' ai ai (λi _ _ hi=>absurd hi aa) (λi _ _ hi=>absurd hi aa) h
 have l:∀m:Nat,(Array.replicate ops.size false).getD m false=false:=λm=>by
  by_cases hm:m<ops.size
  ·simp[hm]
  ·simp[hm]
 have a:(λm=>(Array.replicate ops.size false).getD m false)=λ_=>false:=by funext m;exact l m
 have:=aeS (call:=call) (α:=α) (H:=H) c (λm hm=>p m aa hm) (Q:=Q) (by rw[g];exact n) ops.size (Array.replicate ops.size false) ai (by rw[a];intro j o e d;cases d) (by
  rw[a]
  have:∀k,pX (λ_=>false) k=k:=λk=>by
   induction k with
   |zero=>rfl
   |succ k ih=>simp[pX,ih]
  exact this _)
 rw[a] at this
 have f:∀k,Fk E call ops α H (λ_=>false) k=α:=λk=>by
  induction k with
  |zero=>rfl
  |succ k ih=>simp[Fk,ih]
 have hH:∀k,Hk E call ops α H (λ_=>false) k=H:=λk=>by
  induction k with
  |zero=>rfl
  |succ k ih=>simp[Hk,ih]
 rw[f,hH] at this;exact this
end
structure jA(σ:St)(n:Nat)(ds:List Deferred)(a:Act)(α:az):Prop where
 size:a.tmps.size=n
 oT:∀i,ah σ (α i) (a.tmps.getD i undef)
 defers:a.defers=ds
section
variable {P:Program} {B:Nat->Prop} {W0:World} {H H':ab} {σ aR:St} {w w':World} {n:Nat} {a:Act} {α:az} {E:Env} {call:ck} {ops:Array Oper} {ds:List Deferred}
def jA.mono(h:jA σ n ds a α)(b:σ.le aR):jA aR n ds a α:=⟨h.size,λi=>(h.oT i).mono b,h.defers⟩
def jA.eval(h:jA σ n ds a α)(x):ah σ (ev α x) (a.eval x):=by
 cases x with
 |tmp t=>exact h.oT t
 |const v=>exact ah.od v
 |global g=>simp[ev,Act.eval,ah]
 |func f=>simp[ev,Act.eval,ah,aw]
def jA.put(h:jA σ n ds a α){dst}(b:∀d,dst=some d->d<n){v}{u}(e:ah σ v u):jA σ n ds (a.put dst u) (Ab.put α dst v):=by
 cases dst with
 |none=>exact h
 |some d=>
  have c:=b d rfl;refine⟨by simp[Act.put,h.size],λi=> ?_,h.defers⟩;simp[Act.put,Ab.put];by_cases hi:i=d
  ·subst hi;rw[ν rfl];simpa[h.size,c] using e
  ·rw[κ hi];have:=h.oT i;simpa[aDN (aEy hi)] using this
def D3:ah σ hM undef:=by simp[hM,ah,undef]
def D4(h:jA σ n ds a α){o:Oper}{b}(e:jG ops o.guard α=some b):Region.wanted o (yielded ops a.tmps)=b:=by
 unfold jG at e;unfold Region.wanted
 cases hg:o.guard with
 |none=>simp[hg] at e;simp[e]
 |some k=>
  obtain⟨j,g⟩:=k;simp[hg] at e⊢
  cases hd:(ops[j]?).bind (·.dst) with
  |none=>simp[hd] at e
  |some d=>
   simp[hd] at e;have f:=h.oT d;unfold yielded;rw[hd];simp;split at e
   ·rename_i c i;simp[i,ah] at f;simp at e
    have:a.tmps[d]? =some (.bool c):=by
     cases ht:a.tmps[d]? with
     |none=>simp[ht,undef] at f
     |some x=>simp[ht] at f;rw[f]
    simp only[this];rw[<-e];cases c<;>cases g<;>rfl
   ·rename_i vs i;simp[i,ah] at f;cases e
    cases ht:a.tmps[d]? with
    |none=>rfl
    |some x=>simp[ht] at f;subst f;rfl
   ·cases e
def vl(P:Program)(B:Nat->Prop)(W0:World)(σ:St)(n:Nat)(ds:List Deferred)(a:az)(H':ab)(a':Act)(w':World):Prop:=
 ∃aR,Ext B σ aR/\aW P B W0 H' aR w'/\jA aR n ds a' a
def vl.trans{a}{a'}(c:Ext B σ aR)(h:vl P B W0 aR n ds a H' a' w'):vl P B W0 σ n ds a H' a' w':=by obtain⟨b,e,d,f⟩:=h;exact⟨b,c.trans e,d,f⟩
def BE{o:Oper}{K}{Q}{R}(h:fc P ((execOp a.eval o).run P w) R)(b:∀u w',R u w'->K (a.put o.dst u) w'):o.wp P a w K Q:=by
 unfold Oper.wp;generalize(execOp a.eval o).run P w=r at h
 cases r with
 |ok c w1=>
  cases c<;>simp[fc] at h;case value u=>exact b _ _ h
  case skip=>exact b _ _ h
  case enter f args=>
   refine Calls.mono h ?_;rintro e w2 ⟨u,rfl,d⟩;exact b _ _ d
 |halt x w1=>simp[fc] at h
def MU(i:dN E.P call){Q}{j}{H'}:∀l α H σ a w,
  iS E call ops l α H=some (j,H')->aW E.P B W0 H σ w->jA σ n ds a α->(∀o∈l,∀d,o.dst=some d->d<n)->
  (∀a' w',vl E.P B W0 σ n ds j H' a' w'->Q .normal a' w')->wpList E.P ops Q l a w
 |[],α,H,σ,a,w,c,f,e,_,g=>by simp[iS] at c;obtain⟨rfl,rfl⟩:=c;exact g a w ⟨σ,Ext.refl _ _,f,e⟩
 |o::l,α,H,σ,a,w,c,f,e,h,g=>by
  simp[iS,an] at c;have k:∀o∈l,∀d,o.dst=some d->d<n:=λo s=>h o (by simp[s])
  cases hw:jG ops o.guard α with
  |none=>simp[hw] at c
  |some b=>
   simp[hw] at c;simp[wpList,D4 e hw]
   cases b with
   |true=>
    simp[cY] at c
    cases dg:bz E call o.op (ev α) H with
    |none=>simp[dg] at c
    |some p=>obtain⟨v,H1⟩:=p;simp[dg] at c;simp;refine .inl (BE (DX f i o (ev α) a.eval (λx _=>e.eval x) dg) ?_);rintro u w1 ⟨t,m,q,y⟩;exact MU i l _ _ t _ _ c q ((e.mono m.le).put (h o ai) y) k λa' w' r=>g a' w' (r.trans m)
   |false=>simp[cY] at c⊢;exact MU i l _ _ σ _ _ c f (e.put (h o ai) D3) k g
def aeT(y:dN E.P call){i}{K}{m}{Q:Exit->Act->World->Prop}(g:aW E.P B W0 H σ w)(b:jA σ n ds a α)(j:∀o,ops[i]? =some o->∀d,o.dst=some d->d<n)
  (h:mN E call ops i α H K) (f:∀k H' a' w' aR,Ext B σ aR->aW E.P B W0 H' aR w'->jA aR n ds a' k->K k H'->m a' w'):wpOp E.P ops Q i m a w:=by
 unfold mN at h;unfold wpOp;split
 ·rename_i c;simp[c] at h;exact f _ _ _ _ σ (Ext.refl _ _) g b h
 ·rename_i o c;simp[c] at h;split at h
  ·rename_i e;obtain⟨v,H1,r,q⟩:=h;rw[ν (D4 b e)];refine .inl (BE (DX g y o (ev α) a.eval (λx _=>b.eval x) r) ?_);rintro u w1 ⟨s,l,p,t⟩;exact f _ _ _ _ s l p ((b.mono l.le).put (j o c) t) q
  ·rename_i e;rw[κ (by rw[D4 b e];simp)];exact f _ _ _ _ σ (Ext.refl _ _) g (b.put (j o c) D3) h
  ·cases h
def G2(l:dN E.P call){k}{Q:Exit->Act->World->Prop}(j:∀(i:Nat) (o:Oper),ops[i]? =some o->∀d,o.dst=some d->d<n):∀fuel listed α H σ a w,
  tH E call ops k fuel listed α H->aW E.P B W0 H σ w->jA σ n ds a α->
  (∀c H' a' w' aR,Ext B σ aR->aW E.P B W0 H' aR w'->jA aR n ds a' c->k c H'->Q .normal a' w')->wpAny E.P .any ops Q fuel listed a w
 |0,listed,α,H,σ,a,w,h,f,e,g=>⟨h.1,g _ _ _ _ σ (Ext.refl _ _) f e h.2⟩
 |fuel+1,listed,α,H,σ,a,w,h,f,e,g=>
  ⟨λt=>g _ _ _ _ σ (Ext.refl _ _) f e (h.1 t),λi hi=>aeT l f e (j i) (h.2 i hi) λc H' a' w' aR u m b q=>
   G2 l j fuel _ c H' aR a' w' q m b λgH H2 a2 w2 r v s p x=>g _ _ _ _ r (u.trans v) s p x⟩
def aW.drew(h:aW P B W0 H σ w):aW P B W0 H σ {w with drawn:=w.drawn+1}:=by refine⟨h.below.drew,h.base,h.cells,h.one,h.fresh,h.keys,?_,h.inj⟩;intro id x a;exact(h.obj id x a).bU σ.le_refl (λb _=>⟨rfl,λ_=>rfl⟩) (λ_=>rfl)
end
def ac5(o:Oper):Bool:=match o.op,o.guard,o.dst with| .alloc _,none,some _=>true|_,_,_=>false
def pY(E:Env)(ops:Array Oper)(i0:Nat):Bool:=
 (match ops[i0]? with|some o=>ac5 o|none=>false)&&
 ((List.range ops.size).all λk=>match ops[k]? with
  |some o=>o.after.all (λe=> !Region.binds .any e||decide (e.on<k))&&
    (List.range k).all λi=>behind ops ops.size k i||match ops[i]? with
     |some a=>a.apart ops o&&(!(bO E a.op==.wr&&bO E o.op==.wr)||k==i0)
     |none=>false
  |none=>false)&&
 ((List.range ops.size).all λj=> !behind ops ops.size j i0||(List.range i0).all λm=>match ops[m]? with
  |some b=> !(bO E b.op==.wr)||behind ops ops.size j m
  |none=>true)
section
variable {P:Program} {B:Nat->Prop} {W0:World} {H:ab} {σ aR:St} {w w':World} {n:Nat} {a:Act} {α:az} {E:Env} {call:ck} {ops:Array Oper} {ds:List Deferred} {i0:Nat}
def ak3(h:pY E ops i0=true):∃o t d,ops[i0]? =some o/\o.op=.alloc t/\o.guard=none/\o.dst=some d:=by
 unfold pY at h;simp at h;have a:=h.1.1;split at a
 ·rename_i o b;unfold ac5 at a;split at a
  ·rename_i t d c f e;exact⟨o,t,d,b,c,f,e⟩
  ·cases a
 ·cases a
def wg(h:pY E ops i0=true){k}{o:Oper}(j:ops[k]? =some o):(∀e∈o.after,Region.binds .any e=true->e.on<k)/\
  ∀i f,i<k->ops[i]? =some f->behind ops ops.size k i=true\/(f.apart ops o=true/\(¬(bO E f.op=.wr/\bO E o.op=.wr)\/k=i0)):=by
 unfold pY at h;simp only[ap2] at h;have l:=h.1.2;rw[aDn] at l;have q:k<ops.size:=(Δ.1 j).1;have g:=l k (aDU.2 q);simp only[j,ap2,aDn,aDU,aD7] at g;obtain⟨m,g2⟩:=g;refine⟨λe n hb=> ?_,λi f hi p=> ?_⟩
 ·have:=aDW.1 m e n;simp[hb] at this;exact this
 ·rcases g2 i hi with d|d
  ·exact .inl d
  ·right;simp[p,aEA] at d;refine⟨d.1,?_⟩;rcases d.2 with c|c
   ·left;rintro⟨a,b⟩;rcases c with c|c
    ·exact c a
    ·exact c b
   ·exact .inr c
def WC(h:pY E ops i0=true){j m}{b:Oper}(e:j<ops.size)(hb:behind ops ops.size j i0=true)(hm:m<i0)(f:ops[m]? =some b)(d:bO E b.op=.wr):behind ops ops.size j m=true:=by unfold pY at h;simp only[ap2] at h;have c:=aDn.1 h.2 j (aDU.2 e);simp[hb,aDn,aDU] at c;have a:=c m hm;simp[f,d,BEq.rfl] at a;exact a
structure vp(σ:St)(n:Nat)(ds:List Deferred)(d0:Tmp)(a:Act)(α:az):Prop where
 size:a.tmps.size=n
 oT:∀i,i≠d0->ah σ (α i) (a.tmps.getD i undef)
 defers:a.defers=ds
def vp.mono{d0}(h:vp σ n ds d0 a α)(b:σ.le aR):vp aR n ds d0 a α:=⟨h.size,λi hi=>(h.oT i hi).mono b,h.defers⟩
def vp.put{d0}(h:vp σ n ds d0 a α){dst}(c:∀d,dst=some d->d<n){v}{u}(f:ah σ v u):vp σ n ds d0 (a.put dst u) (Ab.put α dst v):=by
 cases dst with
 |none=>exact h
 |some d=>
  have e:=c d rfl;refine⟨by simp[Act.put,h.size],λi b=> ?_,h.defers⟩;simp[Act.put,Ab.put];by_cases hi:i=d
  ·subst hi;rw[ν rfl];simpa[h.size,e] using f
  ·rw[κ hi];have:=h.oT i b;simpa[aDN (aEy hi)] using this
def UA{o:Oper}(l:∀g w,o.guard=some (g,w)->∀d,(ops[g]?).bind (·.dst)=some d->ah σ (α d) (a.tmps.getD d undef)){b}(e:jG ops o.guard α=some b):Region.wanted o (yielded ops a.tmps)=b:=by
 unfold jG at e;unfold Region.wanted
 cases hg:o.guard with
 |none=>simp[hg] at e;simp[e]
 |some k=>
  obtain⟨j,f⟩:=k;simp[hg] at e⊢
  cases hd:(ops[j]?).bind (·.dst) with
  |none=>simp[hd] at e
  |some d=>
   simp[hd] at e;have h:=l j f hg d hd;unfold yielded;rw[hd];simp;split at e
   ·rename_i c i;simp[i,ah] at h;simp at e
    have:a.tmps[d]? =some (.bool c):=by
     cases ht:a.tmps[d]? with
     |none=>simp[ht,undef] at h
     |some x=>simp[ht] at h;rw[h]
    simp only[this];rw[<-e];cases c<;>cases f<;>rfl
   ·rename_i vs i;simp[i,ah] at h;cases e
    cases ht:a.tmps[d]? with
    |none=>rfl
    |some x=>simp[ht] at h;subst h;rfl
   ·cases e
def aev(C:dN E.P call){d0}{o:Oper}{i}(r:ops[i]? =some o)(m:aW E.P B W0 H σ w)(c:vp σ n ds d0 a α)(h:∀d,o.dst=some d->d<n)(b:d0∉o.looksAt ops){v}{H'}
  (y:lD E call ops o α H v H') {K} {Q} (k:∀u w' aR,Ext B σ aR->aW E.P B W0 H' aR w'->vp aR n ds d0 (a.put o.dst u) (put α o.dst v)->K (a.put o.dst u) w'):wpOp E.P ops Q i K a w:=by
 have j:∀g w',o.guard=some (g,w')->∀d,(ops[g]?).bind (·.dst)=some d->ah σ (α d) (a.tmps.getD d undef):=λg w' hg d z=>c.oT d (by
  rintro rfl
  exact b (by simp[Oper.looksAt,hg,z]))
 have q:∀x∈o.op.operands,ah σ (ev α x) (a.eval x):=λx D=>by
  cases x with
  |tmp t=>exact c.oT t (by
    rintro rfl
    exact b (aDo _ (aFA.2 ⟨.tmp t,by simpa using D,rfl⟩)))
  |const v=>exact ah.od v
  |global g=>simp[ev,Act.eval,ah]
  |func f=>simp[ev,Act.eval,ah,aw]
 unfold wpOp;rw[r];simp only;rcases y with⟨e,F⟩|⟨e,rfl,rfl⟩
 ·rw[ν (UA j e)];refine .inl (BE (DX m C o (ev α) a.eval q F) ?_);rintro u w1 ⟨s,l,p,A⟩;exact k u w1 s l p ((c.mono l.le).put h A)
 ·rw[κ (by rw[UA j e];simp)];exact k _ _ σ (Ext.refl _ _) m (c.put h D3)
def ael(q:dN E.P call){o:Oper}{i}(k:ops[i]? =some o)(h:aW E.P B W0 H σ w)(b:jA σ n ds a α)(e:∀d,o.dst=some d->d<n){v}{H'}
  (m:lD E call ops o α H v H') {K} {Q} (f:∀u w' aR,Ext B σ aR->aW E.P B W0 H' aR w'->jA aR n ds (a.put o.dst u) (put α o.dst v)->K (a.put o.dst u) w'):wpOp E.P ops Q i K a w:=by
 unfold wpOp;rw[k];simp only;rcases m with⟨c,r⟩|⟨c,rfl,rfl⟩
 ·rw[ν (D4 b c)];refine .inl (BE (DX h q o (ev α) a.eval (λx _=>b.eval x) r) ?_);rintro u w1 ⟨l,g,j,p⟩;exact f u w1 l g j ((b.mono g.le).put e p)
 ·rw[κ (by rw[D4 b c];simp)];exact f _ _ σ (Ext.refl _ _) h (b.put e D3)
def mi(p:Nat->Bool)(i:Nat):Nat->Bool:=λm=>if m=i then false else p m
def BK(p)(i:Nat):mi p i i=false:=by simp[mi]
def uR{p}{i m:Nat}(h:¬m=i):mi p i m=p m:=by simp[mi,h]
def G3{p}{i m:Nat}(h:mi p i m=true):m≠i/\p m=true:=by
 unfold mi at h;split at h
 ·cases h
 ·rename_i e;exact⟨e,h⟩
def oF(E:Env)(ops:Array Oper)(i0:Nat)(p:Nat->Bool):Prop:=∀m a,m<i0->ops[m]? =some a->bO E a.op=.wr->p m=true
def I'(E:Env)(call:ck)(ops:Array Oper)(dJ:az)(H0:ab)(B:Nat->Prop)(W0:World)(σ:St)(n:Nat)(ds:List Deferred)(i0:Nat)(p:Nat->Bool)(a:Act)(w:World):Prop:=
 (p i0=true->oF E ops i0 p)/\∃b,Ext B σ b/\aW E.P B W0 (Hk E call ops dJ H0 p ops.size) b w/\jA b n ds a (Fk E call ops dJ H0 p ops.size)
def P'(E:Env)(call:ck)(ops:Array Oper)(dJ:az)(H0:ab)(B:Nat->Prop)(W0:World)(σ:St)(n:Nat)(ds:List Deferred)(i0:Nat)(d0:Tmp)(t0:TypeId)(zv:Value)(p:Nat->Bool)(a:Act)(w:World):Prop:=
 p i0=true/\¬oF E ops i0 p/\∃c b d,Ext B σ c/\gL B W0 d/\wQ E.P B W0/\¬B b/\d.heap[b]? =some (.cells zv.cells t0 (0,0))/\(∀o,c.cells b o=none)/\
  aW E.P (λk=>B k\/k=b) d (Hk E call ops dJ H0 (mi p i0) ops.size) c w/\vp c n ds d0 a (Fk E call ops dJ H0 (mi p i0) ops.size)/\a.tmps.getD d0 undef=.pointer (some ⟨b,0,none⟩)
def Ext.sub{A}{σ aR}(h:Ext B σ aR)(k:∀i,A i->B i):Ext A σ aR:=⟨h.le,λb o hb=>h.old b o (k b hb)⟩
def aW.aAi(g:aW P B W0 H σ w)(o):aW P (λk=>B k\/k=w.heap.size) (w.alloc o) H σ (w.alloc o):=by
 have f:∀b,b<w.heap.size->(w.alloc o).heap[b]? =w.heap[b]? :=λb hb=>zN w o hb;have y:(w.alloc o).heap.size=w.heap.size+1:=by show(w.heap.push o).size=_;simp
 refine⟨gL.refl _ _,⟨λk d=> ?_,λl n p d=> ?_⟩,λl n v h=> ?_,g.one,g.fresh,g.keys,λid x A=> ?_,g.inj⟩
 ·rw[y];rcases d with d|rfl
  ·have:=g.size k d;omega
  ·omega
 ·obtain⟨u,_⟩:=g.base.vC l n p d;obtain⟨_,v,D,z⟩:=g.xZ.vC l n p d;refine⟨.inl u,v,?_,z⟩;rw[cell_of_heap (f l (g.size l u))];exact D
 ·rw[cell_of_heap (f l (g.xS h))];exact g.cells l n v h
 ·have q:=g.obj id x A
  have d:tN P B σ (w.alloc o) id x:=q.bU σ.le_refl (λb hb=>⟨f b (by
   obtain⟨l,t,_,F⟩:=q.aS
   rw[hb] at t;cases t;exact F),λ_=>rfl⟩) (λ_=>rfl)
  obtain⟨bb,E,_,aDa⟩:=q.aS
  have up:∀{b:Nat},aS σ id x=some b->¬B b->¬(B b\/b=w.heap.size):=λ{b} hb C=>by
   rintro(h|rfl)
   ·exact C h
   ·rw[E] at hb;cases hb;omega
  cases x with
  |cells te cs=>obtain⟨b,c,e,a,i,j⟩:=d;exact⟨b,c,e,a,up a i,j⟩
  |bB m et=>obtain⟨b,cap,c,s,a,i,j⟩:=d;exact⟨b,cap,c,s,a,up (by simp[Ab.aS,a]) i,j⟩
  |mf m et=>obtain⟨b,cap,c,s,β,a,r,i,j⟩:=d;exact⟨b,cap,c,s,β,a,r,up (by simp[Ab.aS,a]) i,j⟩
  |row m et s cs=>obtain⟨b,cap,c,a,r,i,j⟩:=d;exact⟨b,cap,c,a,r,up a i,j⟩
  |map es cl=>obtain⟨b,ms,a,i,j⟩:=d;exact⟨b,ms,a,up a i,j⟩
def aW.aqG{b}{o}(g:aW P (λk=>B k\/k=b) o H σ w)(t:gL B W0 o)(q:wQ P B W0):aW P B W0 H σ w/\(∀id x,H.get id=some x->aS σ id x≠some b):=by
 refine⟨⟨t.trans (g.below.mono λi hi=>.inl hi),q,g.cells,g.one,g.fresh,g.keys,λid x n=> ?_,g.inj⟩,λid x n r=> ?_⟩
 ·have j:=g.obj id x n
  cases x with
  |cells te cs=>obtain⟨b,c,e,d,a,f⟩:=j;exact⟨b,c,e,d,λh=>a (.inl h),f⟩
  |bB m et=>obtain⟨b,cap,c,s,d,a,f⟩:=j;exact⟨b,cap,c,s,d,λh=>a (.inl h),f⟩
  |mf m et=>obtain⟨b,cap,c,s,β,d,l,a,f⟩:=j;exact⟨b,cap,c,s,β,d,l,λh=>a (.inl h),f⟩
  |row m et s cs=>obtain⟨b,cap,c,d,l,a,f⟩:=j;exact⟨b,cap,c,d,l,λh=>a (.inl h),f⟩
  |map es cl=>obtain⟨b,ms,d,a,f⟩:=j;exact⟨b,ms,d,λh=>a (.inl h),f⟩
 ·obtain⟨b',p,u,_⟩:=(g.obj id x n).aS;rw[r] at p;cases p;exact u (.inr rfl)
section
variable {dJ:az} {H0:ab} {o0:Oper} {t0:TypeId} {d0:Tmp} {zv:Value}
def abT{m}{b:Oper}(c:ops[m]? =some b)(h:iH E call ops dJ H0 m=true):bO E b.op=.wr:=by
 unfold iH at h;split at h
 ·rename_i r o hr a;rw[c] at a;cases a;simp at h;exact h.2
 ·cases h
def aak(a:pY E ops i0=true){p:Nat->Bool}(c:u9 ops p)(e:¬oF E ops i0 p){j}(d:j<ops.size)(f:p j=true):behind ops ops.size j i0=false:=by
 cases hb:behind ops ops.size j i0 with
 |false=>rfl
 |true=>exfalso;apply e;intro m om hm g b;exact DY c _ _ _ f (WC a d hb hm g b)
def aew(b:pY E ops i0=true){p:Nat->Bool}(d:u9 ops p)(g:¬oF E ops i0 p){j}{o:Oper}(a:ops[j]? =some o)(f:∀e∈o.after,Region.binds .any e=true->p e.on=true):behind ops ops.size j i0=false:=by
 cases hb:behind ops ops.size j i0 with
 |false=>rfl
 |true=>exfalso;apply g;intro m om hm h c;exact Us d a f _ _ (WC b (Δ.1 a).1 hb hm h c)
def N1(fz:pY E ops i0=true)(b:ops[i0]? =some o0)(e:o0.op=.alloc t0)(k:o0.guard=none)(l:pW E call ops dJ H0 i0):∃z zv i,dq E.P t0=some z/\E.P.info? t0=some i/\i.zero=some zv/\z=zv.cells.toList.map iG/\
  pb E call ops dJ H0 i0=.ptr (tr E call ops dJ H0 i0).2.next 0/\(tr E call ops dJ H0 (i0+1)).2=(tr E call ops dJ H0 i0).2.push (.cells (some t0) z)/\iH E call ops dJ H0 i0=true:=by
 obtain⟨o,r,d,a,_,_⟩:=l;rw[b] at d;cases d;have c:sJ E call ops dJ H0 i0=some r:=by simp[sJ,b,an,a]
 have j:(tr E call ops dJ H0 (i0+1)).2=r.2.2:=by simp[tr,b,a]
 unfold oE at a;rw[k] at a;simp[jG,an,cY,e,bz] at a
 cases y7:sB E.P t0 (tr E call ops dJ H0 i0).2 with
 |none=>simp[y7] at a
 |some q=>
  simp[y7] at a;subst a;unfold sB at y7;split at y7
  ·rename_i z f;obtain⟨i,zv,hi,g,h⟩:=D2 f;cases y7;exact⟨z,zv,i,f,hi,g,h,by simp[pb,c],j,by simp[iH,c,b,e,bO]⟩
  ·cases y7
def ahN{p}{i j:Nat}(h:j≠i):mi (jM p j) i=jM (mi p i) j:=by
 funext m;by_cases e:m=i
 ·subst e;rw[BK,kV (aEy h),BK]
 ·rw[uR e];by_cases a:m=j
  ·subst a;rw[uM,uM]
  ·rw[kV a,kV a,uR e]
def Yk{p}{i:Nat}(h:p i=true):jM (mi p i) i=p:=by
 funext m;by_cases e:m=i
 ·subst e;rw[uM,h]
 ·rw[kV e,uR e]
def ahO(v:pY E ops i0=true)(L:∀m,m<ops.size->pW E call ops dJ H0 m)(f:ops[i0]? =some o0)(M:o0.op=.alloc t0)(V:o0.guard=none)(mh:o0.dst=some d0)(my:d0<n){p:Nat->Bool}
  (K:p i0=true) (J:oF E ops i0 p) (g:∀m,i0<m->m<ops.size->p m=true->behind ops ops.size m i0=false) {q:St} {b} {D:World} (cW:Ext B σ q) (jk:gL B W0 D) (CG:wQ E.P B W0) (Q:¬B b)
  (CY:∀i,E.P.info? t0=some i->i.zero=some zv) (X:D.heap[b]? =some (.cells zv.cells t0 (0,0))) (O:∀o,q.cells b o=none)
  (N:aW E.P (λk=>B k\/k=b) D (Hk E call ops dJ H0 (mi p i0) ops.size) q w) (hr:vp q n ds d0 a (Fk E call ops dJ H0 (mi p i0) ops.size)) (U:a.tmps.getD d0 undef=.pointer (some ⟨b,0,none⟩)):
  I' E call ops dJ H0 B W0 σ n ds i0 p a w:=by
 have s:i0<ops.size:=(Δ.1 f).1;obtain⟨z,C,i,hz,hi,Z,FX,W,I_,Bf⟩:=N1 v f M V (L i0 s);have:C=zv:=by have:=CY i hi;rw[Z] at this;exact aDP this
 subst this
 have j:∀m,i0<m->m<ops.size->p m=true->iH E call ops dJ H0 m=false:=λm hm I e=>by
  cases hw:iH E call ops dJ H0 m with
  |false=>rfl
  |true=>
   have c:ops[m]? =some ops[m]:=aDK I;rcases(wg v c).2 i0 o0 hm f with h|⟨_,h⟩
   ·rw[g m hm I e] at h;cases h
   ·rcases h with h|h
    ·exact absurd ⟨by rw[M];rfl,abT c hw⟩ h
    ·omega
 have hH:Hk E call ops dJ H0 (mi p i0) ops.size=(tr E call ops dJ H0 i0).2:=by
  rw[<-Ff (λm hm=>L m aa) i0 (μ _),<-P9 ops.size aa];refine BW _ λm hm F=> ?_;have c:ops[m]? =some ops[m]:=aDK hm;rcases aEl m i0 with R|u|qi
  ·rw[uR aa,J m _ R c (abT c F)];simp[R]
  ·subst u;rw[BK];simp
  ·rw[uR aa]
   cases e:p m with
   |false=>simp;omega
   |true=>rw[j m qi hm e] at F;cases F
 have G:Hk E call ops dJ H0 p ops.size=(tr E call ops dJ H0 i0).2.push (.cells (some t0) z):=by have:=Mf (p:=mi p i0) Bf ops.size s λm r l e=>j m r l (G3 e).2;rw[Yk K] at this;rw[this,I_]
 have hF:Fk E call ops dJ H0 p ops.size=put (Fk E call ops dJ H0 (mi p i0) ops.size) (some d0) (.ptr (tr E call ops dJ H0 i0).2.next 0):=by
  have:=MQ (E:=E) (call:=call) (ops:=ops) (α:=dJ) (H:=H0) (p:=mi p i0) (i:=i0) (BK p i0) ops.size (λm r l e d Dl=>by
   have c:ops[m]? =some ops[m]:=aDK l;rcases(wg v c).2 i0 o0 r f with h|⟨h,_⟩
   ·rw[g m r l (G3 e).2] at h;cases h
   ·have:=(xL h).2.1 d (by simpa[ma,f] using Dl)
    simpa[ma,c] using this)
  rw[Yk K,ν s] at this;rw[this,W];simp[ma,f,mh]
 obtain⟨t,T⟩:=N.aqG jk CG;rw[hH] at t T;have F7:w.heap[b]? =some (.cells C.cells t0 (0,0)):=by rw[N.below.block b (.inr rfl)];exact X
 obtain⟨Y,S⟩:=t.OZ (b:=b) (cap:=0) (x:=.cells (some t0) z) (w':=w) Q (λ_ _ _=>rfl) t.below T O (by simp[aS,St.fQ]) ⟨b,C.cells,t0,by simp[St.fQ],Q,F7,by rw[FX];exact aw.iG _,O,λ_ h=>aDP h⟩;refine⟨λ_=>J,_,cW.trans S,by rw[G];exact Y,?_⟩;rw[hF];have y:=hr.mono S.le;refine⟨y.size,λk=> ?_,y.defers⟩;simp only[Ab.put];by_cases A:k=d0
 ·subst A;rw[ν rfl,U];simp only[ah];exact⟨b,by simp[St.fQ],rfl⟩
 ·rw[κ A];exact y.oT k A
def oF.ins{p}{j:Nat}(h:oF E ops i0 p):oF E ops i0 (jM p j):=λm c hm b a=>by
 by_cases e:m=j
 ·subst e;exact uM _ _
 ·rw[kV e];exact h m c hm b a
def UB{k}{o:Oper}{e:Edge}{i}{N}(hN:0<N)(b:ops[k]? =some o)(a:e∈o.after)(hb:Region.binds .any e=true)(h:e.on=i):behind ops N k i=true:=by
 cases N with
 |zero=>omega
 |succ N=>simp only[behind,b];rw[aE8];exact⟨e,a,by simp[hb,h]⟩
open Classical in
def aqH(hc:dN E.P call)(fz:pY E ops i0=true)(bK:∀m,m<ops.size->pW E call ops dJ H0 m)(my:∀(i:Nat) (o:Oper),ops[i]? =some o->∀d,o.dst=some d->d<n)(jn:ops[i0]? =some o0)(oh:o0.op=.alloc t0)(ql:o0.guard=none)(mh:o0.dst=some d0)
  (CY:∀i,E.P.info? t0=some i->i.zero=some zv) {p} (hd:u9 ops p) {j} {o:Oper} (ho:ops[j]? =some o) (vM:p j=false) (Ro:∀e∈o.after,Region.binds .any e=true->p e.on=true)
  (dg:I' E call ops dJ H0 B W0 σ n ds i0 p a w\/P' E call ops dJ H0 B W0 σ n ds i0 d0 t0 zv p a w) {Q} {K}
  (hK:∀a' w',I' E call ops dJ H0 B W0 σ n ds i0 (jM p j) a' w'\/P' E call ops dJ H0 B W0 σ n ds i0 d0 t0 zv (jM p j) a' w'->K a' w'):wpOp E.P ops Q j K a w:=by
 have og:i0<ops.size:=(Δ.1 jn).1;have vD:j<ops.size:=(Δ.1 ho).1;have ac7:d0<n:=my i0 o0 jn d0 mh;rcases dg with⟨hinv,bp,cW,hs,hr⟩|⟨SZ,uv,bp,b,W1,cW,jk,CG,hB,Bg,fW,hs,hr,Rn⟩
 ·by_cases rY:j=i0/\¬oF E ops i0 p
  ·obtain⟨rfl,uv⟩:=rY;rw[jn] at ho;cases ho;obtain⟨z,y8,i,hz,hi,JF,FX,_⟩:=N1 fz jn oh ql (bK j og);have hzz:y8=zv:=by have:=CY i hi;rw[JF] at this;exact aDP this
   subst hzz;have bE:(Instr.alloc t0 true (.tuple #[])).run E.P w=.ok (.pointer (some ⟨w.heap.size,0,none⟩)) (w.alloc (.cells y8.cells t0)):=by simp[Instr.alloc,zeroValue,typeInfo,hi,JF,newVar,newRow]
   unfold wpOp;rw[jn];simp only;rw[ν (by simp[Region.wanted,ql])];refine .inl (BE (R:=λu w'=>u=.pointer (some ⟨w.heap.size,0,none⟩)/\w'=w.alloc (.cells y8.cells t0)) ?_ ?_)
   ·obtain⟨dst,op,ty,pos,after,guard⟩:=o0;simp only at oh;subst oh;simp[execOp,Τ,bE,Γ,atG,fc]
   ·rintro u w' ⟨rfl,rfl⟩;refine hK _ _ (.inr ⟨uM _ _,λdY=>uv λm om hm dm hw=> ?_,bp,w.heap.size,w.alloc (.cells y8.cells t0),cW,hs.below.alloc hs.size _,hs.base,hs.rh,BV w _,λo=>hs.uL o,?_,?_,?_⟩)
    ·have:=dY m om hm dm hw;rwa [kV aa] at this
    ·have:mi (jM p j) j=p:=by
      funext m;by_cases e:m=j
      ·subst e;rw[BK,vM]
      ·rw[uR e,kV e]
     rw[this];exact hs.aAi _
    ·have:mi (jM p j) j=p:=by
      funext m;by_cases e:m=j
      ·subst e;rw[BK,vM]
      ·rw[uR e,kV e]
     rw[this,mh];refine⟨by simp[Act.put,hr.size],λk hk=> ?_,hr.defers⟩;have:=hr.oT k;simpa[Act.put,aDN (aEy hk)] using this
    ·rw[mh];have:d0<a.tmps.size:=by rw[hr.size];exact ac7
     simp[Act.put,this]
  ·obtain⟨H',hy,rM,hH⟩:=MS (call:=call) (α:=dJ) (H:=H0) bK hd ho vM Ro
    (λm om hm hp hb dm=>by
     rcases(wg fz ho).2 m om hm dm with h|⟨h1,h2⟩
     ·rw[hb] at h;cases h
     ·refine⟨h1,?_⟩;rcases h2 with h2|rfl
      ·exact h2
      ·rintro⟨hw,_⟩
       have dY:oF E ops j p:=by
        by_cases h:oF E ops j p
        ·exact h
        ·exact absurd ⟨rfl,h⟩ rY
       rw[dY m om hm dm hw] at hp
       cases hp)
    (λm om hm hp hb dm=>by
     rcases(wg fz dm).2 j o hm ho with h|⟨h1,h2⟩
     ·rw[hb] at h;cases h
     ·refine⟨h1,?_⟩;rcases h2 with h2|rfl
      ·exact h2
      ·rintro⟨hw,_⟩;have:=hinv hp j o hm ho hw;rw[vM] at this
       cases this)
   refine ael (K:=K) hc ho hs hr (my j o ho) hy ?_;intro u w' aR KM uf r7;refine hK _ _ (.inl ⟨λhp=> ?_,aR,cW.trans KM,hH▸uf,rM▸r7⟩)
   have dY:oF E ops i0 p:=by
    by_cases e:j=i0
    ·by_cases h:oF E ops i0 p
     ·exact h
     ·exact absurd ⟨e,h⟩ rY
    ·rw[kV (aEy e)] at hp;exact hinv hp
   exact dY.ins
 ·have mv:j≠i0:=by
   rintro rfl;rw[SZ] at vM;cases vM
  have KO:behind ops ops.size j i0=false:=aew fz hd uv ho Ro
  have hbi:behind ops ops.size i0 j=false:=by
   cases h:behind ops ops.size i0 j with
   |false=>rfl
   |true=>have:=DY hd _ _ _ SZ h;rw[vM] at this;cases this
  have ja:u9 ops (mi p i0):=by
   intro k ok e hk Rp he hb;obtain⟨yQ,iO⟩:=G3 hk;have h1:=hd k ok e iO Rp he hb;have qh:k<ops.size:=(Δ.1 Rp).1;by_cases h2:e.on=i0
   ·have:=aak fz hd uv qh iO;rw[UB aa Rp he hb h2] at this;cases this
   ·rw[uR h2];exact h1
  have av0:∀e∈o.after,Region.binds .any e=true->mi p i0 e.on=true:=by
   intro e he hb;by_cases h2:e.on=i0
   ·rw[UB aa ho he hb h2] at KO;cases KO
   ·rw[uR h2];exact Ro e he hb
  obtain⟨H',hy,rM,hH⟩:=MS (call:=call) (α:=dJ) (H:=H0) bK ja ho (by rw[uR mv];exact vM) av0
   (λm om hm hp hb dm=>by
    rcases(wg fz ho).2 m om hm dm with h|⟨h1,h2⟩
    ·rw[hb] at h;cases h
    ·refine⟨h1,?_⟩;rcases h2 with h2|h2
     ·exact h2
     ·exact absurd h2 mv)
   (λm om hm hp hb dm=>by
    rcases(wg fz dm).2 j o hm ho with h|⟨h1,h2⟩
    ·rw[hb] at h;cases h
    ·refine⟨h1,?_⟩;rcases h2 with h2|h2
     ·exact h2
     ·exact absurd h2 (G3 hp).1)
  have kM:d0∉o.looksAt ops/\o.dst≠some d0:=by
   rcases aEl i0 j with aN|heq|qi
   ·rcases(wg fz ho).2 i0 o0 aN jn with h|⟨h,_⟩
    ·rw[KO] at h;cases h
    ·exact⟨(xL h).1 d0 mh,(xL h).2.1 d0 mh⟩
   ·exact absurd heq.symm mv
   ·rcases(wg fz jn).2 j o qi ho with h|⟨h,_⟩
    ·rw[hbi] at h;cases h
    ·exact⟨(xL h).2.2 d0 mh,λe=>(xL h).2.1 d0 e mh⟩
  refine aev (d0:=d0) (K:=K) hc ho hs hr (my j o ho) kM.1 hy ?_;intro u w' aR KM uf r7
  have abU:(a.put o.dst u).tmps.getD d0 undef=.pointer (some ⟨b,0,none⟩):=by
   rw[<-Rn]
   cases Dl:o.dst with
   |none=>rfl
   |some d=>have:d≠d0:=λe=>kM.2 (by rw[Dl,e]);simp[Act.put,aDN this]
  have aal:∀o,aR.cells b o=none:=λo=>by rw[KM.old b o (.inr rfl)];exact fW o
  rw[hH] at uf;rw[rM] at r7;rw[<-ahN mv] at uf r7;have abV:Ext B σ aR:=cW.trans (KM.sub λ_ h=>.inl h);have ac8:jM p j i0=true:=by rw[kV (aEy mv)];exact SZ
  by_cases dY:oF E ops i0 (jM p j)
  ·refine hK _ _ (.inl (ahO (zv:=zv) fz bK jn oh ql mh ac7 ac8 dY ?_ abV jk CG hB CY Bg aal uf r7 abU));intro m hm yZ hpm;by_cases e:m=j
   ·subst e;exact KO
   ·rw[kV e] at hpm;exact aak fz hd uv yZ hpm
  ·exact hK _ _ (.inr ⟨ac8,dY,aR,b,W1,abV,jk,CG,hB,Bg,aal,uf,r7,abU⟩)
def oF.all{p}(h:∀m,m<ops.size->p m=true):oF E ops i0 p:=λm om _ a _=>h m (Δ.1 a).1
def aqI(X:dN E.P call)(H:pY E ops i0=true)(D:∀m,m<ops.size->pW E call ops dJ H0 m)(L:∀(i:Nat) (o:Oper),ops[i]? =some o->∀d,o.dst=some d->d<n)(T:ops[i0]? =some o0)(U:o0.op=.alloc t0)(M:o0.guard=none)(W:o0.dst=some d0)
  (Y:∀i,E.P.info? t0=some i->i.zero=some zv) {Q}
  (O:∀k a' w',Ext B σ k->aW E.P B W0 (tr E call ops dJ H0 ops.size).2 k w'->jA k n ds a' (tr E call ops dJ H0 ops.size).1->Q .normal a' w'):∀fuel listed a w,listed.size=ops.size->
  u9 ops (λm=>listed.getD m false)->pX (λm=>listed.getD m false) ops.size=fuel->
  (I' E call ops dJ H0 B W0 σ n ds i0 (λm=>listed.getD m false) a w\/P' E call ops dJ H0 B W0 σ n ds i0 d0 t0 zv (λm=>listed.getD m false) a w)->wpAny E.P .any ops Q fuel listed a w:=by
 have y:∀listed:Array Bool,listed.size=ops.size->∀m,m<ops.size->listed.getD m true=listed.getD m false:=λlisted g m hm=>by have:m<listed.size:=aa;simp[this]
 intro fuel
 induction fuel with
 |zero=>
  intro listed a w g x J C;have f:=MT _ J;refine⟨?_,?_⟩
  ·rw[aEF];intro j u;obtain⟨b,o,l,_⟩:=aEY.1 u;have K:j<ops.size:=(Δ.1 l).1;have c:listed.getD j false=true:=f j K;rw[y listed g j K,c] at b;cases b
  ·rcases C with⟨_,k,b,c,r⟩|⟨_,V,_⟩
   ·have s:Fk E call ops dJ H0 (λm=>listed.getD m false) ops.size=(tr E call ops dJ H0 ops.size).1:=by
     rw[<-I8 D ops.size (μ _)];funext t;refine Hn _ λm hm R=> ?_;have:listed.getD m false=true:=f m hm;simp[this,hm] at R
    have q:Hk E call ops dJ H0 (λm=>listed.getD m false) ops.size=(tr E call ops dJ H0 ops.size).2:=by rw[<-Ff D ops.size (μ _)];refine BW _ λm hm _=> ?_;have:listed.getD m false=true:=f m hm;simp[this,hm]
    rw[s] at r;rw[q] at c;exact O k a w b c r
   ·exact absurd (oF.all f) V
 |succ fuel ih=>
  intro listed a w g x J C;refine⟨λN=> ?_,λi hi=> ?_⟩
  ·exfalso;rcases HL (λm=> !listed.getD m false) 0 ops.size with h|⟨m,_,c,r,S⟩
   ·have:=Nj (p:=λm=>listed.getD m false) ops.size λm hm=>by have:=h m aa hm;simpa using this
    omega
   ·have I:ops[m]? =some ops[m]:=aDK c
    have:m∈Region.ready .any ops listed:=aEY.2 ⟨by rw[y listed g m c];simpa using r,_,I,λe v hb=>by
     have:=S e.on aa ((wg H I).1 e v hb)
     simpa using this⟩
    rw[N] at this;cases this
  ·obtain⟨b,o,l,f⟩:=aEY.1 hi;have G:i<ops.size:=(Δ.1 l).1;rw[y listed g i G] at b
   have F:(λm=>(listed.setIfInBounds i true).getD m false)=jM (λm=>listed.getD m false) i:=by
    funext m;by_cases e:m=i
    ·subst e;have:m<listed.size:=aa;simp[this,jM]
    ·rw[kV e];exact getD_set_ne false (aEy e)
   refine aqH X H D L T U M W Y x l b f C ?_;intro a' w' z;refine ih (listed.setIfInBounds i true) a' w' (by simp[g]) ?_ ?_ (by rw[F];exact z)
   ·rw[F];intro j Z e u A v hb;by_cases s:e.on=i
    ·rw[s];exact uM _ _
    ·rw[kV s];by_cases q:j=i
     ·subst q;rw[l] at A;cases A;exact f e v hb
     ·rw[kV q] at u;exact x j Z e u A v hb
   ·rw[F];have:=Ni (p:=λm=>listed.getD m false) b ops.size;rw[ν G] at this;omega
def ahP(I:dN E.P call)(c:pY E ops i0=true)(t:∀(i:Nat) (o:Oper),ops[i]? =some o->∀d,o.dst=some d->d<n){α}{H}{g}{H'}(h:eP E call ops 0 ops.toList [] [] α H=some (g,H'))
  (D:aW E.P B W0 H σ w) (C:jA σ n ds a α) {Q}
  (u:∀f a' w',Ext B σ f->aW E.P B W0 H' f w'->jA f n ds a' g->Q .normal a' w'):wpAny E.P .any ops Q ops.size (Array.replicate ops.size false) a w:=by
 obtain⟨b,A⟩:=SX (call:=call) (ops:=ops) (α:=α) (H:=H) ops.toList 0 [] [] g H' ai ai (λi _ _ hi=>absurd hi aa) (λi _ _ hi=>absurd hi aa) h;replace b:∀m,m<ops.size->pW E call ops α H m:=λm hm=>b m aa hm;obtain⟨o0,t0,d0,l,r,q,G⟩:=ak3 c;obtain⟨z,zv,i,hz,hi,y,_⟩:=N1 c l r q (b i0 (Δ.1 l).1)
 have v:∀m:Nat,(Array.replicate ops.size false).getD m false=false:=λm=>by
  by_cases hm:m<ops.size
  ·simp[hm]
  ·simp[hm]
 have p:(λm=>(Array.replicate ops.size false).getD m false)=λ_=>false:=by funext m;exact v m
 have x:∀k,Fk E call ops α H (λ_=>false) k=α:=λk=>by
  induction k with
  |zero=>rfl
  |succ k ih=>simp[Fk,ih]
 have hH:∀k,Hk E call ops α H (λ_=>false) k=H:=λk=>by
  induction k with
  |zero=>rfl
  |succ k ih=>simp[Hk,ih]
 refine aqI (t0:=t0) (zv:=zv) (σ:=σ) (dJ:=α) (H0:=H) I c b t l r q G (λi' s=>by rw[hi] at s;cases s;exact y) (Q:=Q) (by rw[A];exact u) ops.size (Array.replicate ops.size false) a w ai (by rw[p];intro j o e F;cases F) (by
  rw[p]
  have:∀k,pX (λ_=>false) k=k:=λk=>by
   induction k with
   |zero=>rfl
   |succ k ih=>simp[pX,ih]
  exact this _) (.inl ?_)
 rw[p];refine⟨λh=>by simp at h,σ,Ext.refl _ _,?_,?_⟩
 ·rw[hH];exact D
 ·rw[x];exact C
end
end
end Go.Ab
