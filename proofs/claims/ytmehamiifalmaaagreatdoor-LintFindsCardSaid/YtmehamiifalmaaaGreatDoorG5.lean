/- LintFinds: part 6 of its proof. -/
import Derived.Test.YtmehamiifalmaaaGreatDoorG4
set_option linter.all false
namespace Go.Ab
open Go
open Classical in
noncomputable def ia{S A O:Type}(g:S->O)(o:O)(k:S->A)(d:A):A:=if h:∃s,o=g s then k h.choose else d
def CQ{S A O:Type}{g:S->O}(hg:∀a b,g a=g b->a=b)(s:S)(k:S->A)(d:A):ia g (g s) k d=k s:=by have h:∃t,g s=g t:=⟨s,rfl⟩;unfold ia;rw[dif_pos h,<-hg _ _ h.choose_spec]
def rI{S A O:Type}{g:S->O}{o:O}{k:S->A}{x:A}(h:∀s,o=g s->x=k s):x=ia g o k x:=by
 unfold ia;split
 ·rename_i a;exact h _ a.choose_spec
 ·rfl
@[congr] theorem aD0 {S A O:Type} {g:S->O} {o a:O} {k:S->A} {d:A} (h:o=a):ia g o k d=ia g a k d:=by rw[h]
def wm{A B:Type}(o:Option A)(k:A->B)(d:B):B:=match o with|some a=>k a|none=>d
def aU{A B:Type}(a:A)(k:A->B)(d:B):wm (some a) k d=k a:=(rfl)
@[congr] theorem aD1 {A B:Type} {o a:Option A} {k:A->B} {d:B} (h:o=a):wm o k d=wm a k d:=by rw[h]
def Ct{A B:Type}{o}{k:A->B}{x:B}(h:∀a,o=some a->x=k a):x=wm o k x:=by
 cases o with
 |none=>rfl
 |some a=>exact h a rfl
def ai3(n)(l)(i):ab.get ⟨n,l⟩ i=if i<n then cg l i else none:=(rfl)
def aC{l}{i}{te}{cs}(h:cg l i=some (.c te cs)):eF l i=some cs:=by simp[eF,h]
def fV(l)(i)(te)(cs)(k):eF (aH l i (.c te cs)) k=if i=k then(cg l k).bind λ_=>some cs else eF l k:=by
 simp[eF,aR];by_cases h:i=k
 ·subst h;simp;cases cg l i<;>rfl
 ·simp[κ h]
def sK{A B:Type}(a:A)(f:A->Option B):(some a).bind f=f a:=(rfl)
def aBs(id off)(H:ab):eQ (.ptr id off) H=some (.ptr H.next 0,H.push (.z [.ptr id off])):=by simp[eQ,AV.width,AV.cells]
def axg(k)(n):(AV.int k n).width=some 1:=(rfl)
def arZ(b):(AV.bool b).width=some 1:=(rfl)
def axh(l):(AV.str l).width=some 1:=(rfl)
def axi(o)(l):(AV.vec o l).width=some 1:=(rfl)
def axj(cs:List AV):(AV.agg cs).width=some cs.length:=(rfl)
def axk(i o):(AV.ptr i o).width=some 1:=(rfl)
def axl(i):(AV.map i).width=some 1:=(rfl)
def axm(k)(n):(AV.int k n).cells=[.int k n]:=(rfl)
def ar0(b):(AV.bool b).cells=[.bool b]:=(rfl)
def axn(l):(AV.str l).cells=[.str l]:=(rfl)
def axo(o)(l):(AV.vec o l).cells=[.vec o l]:=(rfl)
def axp(cs):(AV.agg cs).cells=cs:=(rfl)
def axq(i o):(AV.ptr i o).cells=[.ptr i o]:=(rfl)
def axr(i):(AV.map i).cells=[.map i]:=(rfl)
def ar1:eo []=true:=(rfl)
def ar2(k)(n)(r):eo (.int k n::r)=eo r:=(rfl)
def amj(b)(r):eo (.bool b::r)=eo r:=(rfl)
def ar3(l)(r):eo (.str l::r)=eo r:=(rfl)
def ar4(o)(l)(r):eo (.vec o l::r)=eo r:=(rfl)
def ar5(i o)(r):eo (.ptr i o::r)=eo r:=(rfl)
def gO:AV.aq.go []=true:=(rfl)
def amk{x:AV}(h:x.aq=true)(r):AV.aq.go (x::r)=AV.aq.go r:=by show(x.aq&&AV.aq.go r)=_;rw[h,aF6]
def ai4(c)(cs)(v):eg (c::cs) 0 [v]=v::cs:=by simp[eg]
def ai5(c)(cs)(k)(vs):eg (c::cs) (k+1) vs=c::eg cs k vs:=by simp[eg,Nat.add_right_comm]
def Zd(cs a:List AV)(h:a.length=cs.length):eg cs 0 a=a:=by simp[eg,h]
def ai6(place)(cs):aQ place cs []=some cs:=(rfl)
def ai7(k):Own.bare (.own k)=.ro:=(rfl)
def XH:Own.bare .nil=.nil:=(rfl)
def aml:Own.bare .ro=.ro:=(rfl)
def ahB:Own.bare .full=.ro:=(rfl)
attribute [go_sem] ai4 ai5 Zd
def ai{n}{l}{i}{x}:ab.get ⟨n,l⟩ i=some x↔i<n/\cg l i=some x:=by
 simp only[ab.get];split
 ·rename_i h;simp[h]
 ·rename_i h;simp[h]
attribute [go_sem] axg arZ axh axi axj axk axl axm ar0 axn axo axp axq axr ar1 ar2 amj ar3 ar4 ar5 gO ai6 ai7 XH aml ahB
attribute [go_sem] Wb heap_set ai3 tW Xh HQ HC Nc aBs
def ai8{E}{call}{α}{H}(all)(k)(dst)(op)(ty)(pos)(after)(rest)(rs)(ws)(j)(b):
  eY E call all k (⟨dst,op,ty,pos,after,some (j,b)⟩::rest) rs ws α H=an (A3 b α (CL all j)) λc=>
   c_ c (an (bh E call op (ev α) H) λr=>BI (bT E op) E call all k ⟨dst,op,ty,pos,after,some (j,b)⟩ rest rs ws α H r) (eY E call all (k+1) rest rs ws (put α dst gz) H):=by
 rw[<-VB];rfl
def afN{E}(x):bT E (.nilCheck x)=.ins:=(rfl)
def ai9{E}(t)(x i):bT E (.index t x i)=.ins:=(rfl)
def amm{E}(a b c):bT E (.pick a b c)=.ins:=(rfl)
def aja{E}(op)(t)(a b)(c):bT E (.binOp op t a b c)=.ins:=(rfl)
def ajb{E}(t)(l)(d_):bT E (.call ⟨.value (.tmp t),l,d_⟩)=.wr:=(rfl)
def aa5{E}(l)(d_)(h:zh E.P d_=false):bT E (.call ⟨.builtin .len,l,d_⟩)=.ins:=by simp[bT,h]
def ajc{E}{call}{ρ}{H}(t)(x)(f):bh E call (.field t x f) ρ H=an (AN E.P t f (ρ x)) λv=>some (v,H):=(rfl)
def ahC{E}{call}{ρ}{H}(t)(m k)(ok):bh E call (.lookup t m k ok) ρ H=an (Aw E.P H t (ρ m) (ρ k) ok) λv=>some (v,H):=(rfl)
attribute [go_sem ↓] ajc ahC
def ar6(a b):dt (.ptr a b) (.ptr a b)=true:=by simp[dt]
attribute [go_sem] ar6
def PW(n k):Ca (.ptr n k)=some (.ptr n k):=(rfl)
def PX(b):xF .not (.bool b)=some (.bool (!b)):=by cases b<;>exact(rfl)
def dF(a b:Nat):((a:Int)==(b:Int))=decide (a=b):=by
 by_cases h:a=b
 ·subst h;simp
 ·rw[ξ h,aEp];omega
def sf(a b:Nat):((a:Int) != (b:Int))= !decide (a=b):=by show(!((a:Int)==(b:Int)))=_;rw[dF]
def agC:qG []=.tup []:=(rfl)
def fo{A:Type}{s:List A}{i}(h:i<s.length):∃c,s[i]? =some c:=⟨_,Ν h⟩
attribute [go_sem ↓] ai8 afN ai9 amm aja ajb aa5
attribute [go_sem ↓] Xg QH QI PI Nb
attribute [go_sem] PW PX agC sK
def aeX{E:Env}(t)(n)(l):bT E (.buildSlice t n l)=.ins:=(rfl)
def afg{E:Env}(t)(x i):bT E (.indexAddr t x i)=.ins:=(rfl)
def ajd{E:Env}(t)(x)(i):bT E (.field t x i)=.ins:=(rfl)
def aje{E:Env}(f)(l)(d_)(h:E.cl f=false):bT E (.call ⟨.value (.func f),l,d_⟩)=.wr:=by simp[bT,h]
def ajf{E:Env}(f)(l)(d_)(h:E.cl f=true):bT E (.call ⟨.value (.func f),l,d_⟩)=.ins:=by simp[bT,h]
def ahD{E}(l)(d_):bT E (.call ⟨.builtin .append,l,d_⟩)=.wr:=(rfl)
attribute [go_sem ↓] aeX afg ajd aje ajf ahD
def y9(r:Option (AV×ab)):Option (AV×Option TypeId×List AV):=an r λp=>match p.2.get 0 with|some (.cells te cs)=>some (p.1.erase,te,cs.map AV.bare)|_=>none
def RZ(v:AV)(o:Option bB):Option (AV×Option TypeId×List AV):=match o with|some (.cells te cs)=>some (v.erase,te,cs.map AV.bare)|_=>none
def agD(v:AV)(H:ab):y9 (some (v,H))=RZ v (H.get 0):=by unfold y9 RZ;simp[an]
@[congr] theorem aDV {r a:Option (AV×ab)} (h:r=a):y9 r=y9 a:=by rw[h]
def ahE(v:AV)(te:Option TypeId)(cs:List AV):RZ v (some (.c te cs))=some (v.erase,te,cs.map AV.bare):=(rfl)
attribute [go_sem] agD ahE
def Io(E:Env)(f:FuncId)(args:List AV)(cs:List AV)(v:AV)(a:List AV):Prop:=∀te,oG (run E) f (.ptr 0 0::args) te cs=some (v,te,a)
def Lz(E:Env)(f:FuncId)(cs:List AV)(v:AV)(a:List AV):Prop:=∀tb te,oC (run E) f [.ptr 1 0] tb te cs=some (v,tb,te,a)
def fX{E:Env}{f}{fn:Func}{c}{args:List AV}{cs b:List AV}{v:AV}(o:E.G f=true)(g:E.df f=false)(l:E.P.funcs[f]? =some fn)(i:fn.body=some c)(q:args.length+1<=fn.ntmps)
  (j:∀te,aF (aN E (run E) aL c (jq (.ptr 0 0::args)) ⟨1,[(0,.c te cs)]⟩) λe d H'=>y9 (finish E.P fn.results.toList (e,d,H'))=some (v,te,b)) (h:v.aq=true) (n:AV.aq.go b=true):Io E f args cs v b:=by
 intro te;obtain⟨e,d,H',h3,a⟩:=ke (j te);unfold oG;rw[Cr o g l i (by simpa using q),h3];simp[an];unfold y9 at a
 cases hf:finish E.P fn.results.toList (e,d,H') with
 |none=>rw[hf] at a;cases a
 |some p=>
  rw[hf] at a;simp[an] at a;simp only;split at a
  ·rename_i Gy Gz hg;simp at a;obtain⟨k,r,m⟩:=a;rw[hg];simp only;rw[k,m,r,μ ⟨h,n⟩]
  ·cases a
def CR(r:Option (AV×ab)):Option (AV×Option bB×Option TypeId×List AV):=an r λp=>match p.2.get 0 with|some (.cells te cs)=>some (p.1.erase,p.2.get 1,te,cs.map AV.bare)|_=>none
def QK(v:AV)(b:Option bB)(o:Option bB):Option (AV×Option bB×Option TypeId×List AV):=match o with|some (.cells te cs)=>some (v.erase,b,te,cs.map AV.bare)|_=>none
def afO(v:AV)(H:ab):CR (some (v,H))=QK v (H.get 1) (H.get 0):=by unfold CR QK;simp[an]
@[congr] theorem aDQ {r a:Option (AV×ab)} (h:r=a):CR r=CR a:=by rw[h]
def agE(v:AV)(b)(te:Option TypeId)(cs:List AV):QK v b (some (.c te cs))=some (v.erase,b,te,cs.map AV.bare):=(rfl)
attribute [go_sem] afO agE
def PY{E:Env}{f}{fn:Func}{c}{cs b:List AV}{v:AV}(q:E.G f=true)(h:E.df f=false)(m:E.P.funcs[f]? =some fn)(j:fn.body=some c)(r:1<=fn.ntmps)
  (k:∀tb te,aF (aN E (run E) aL c (jq [.ptr 1 0]) ⟨2,[(1,.cells tb [.ptr 0 0]),(0,.c te cs)]⟩) λe d H'=>CR (finish E.P fn.results.toList (e,d,H'))=some (v,some (.cells tb [.ptr 0 0]),te,b)) (i:v.aq=true) (o:AV.aq.go b=true):Lz E f cs v b:=by
 intro tb te;obtain⟨e,d,H',h3,a⟩:=ke (k tb te);unfold oC;rw[Cr q h m j (by simpa using r),h3];simp[an];unfold CR at a
 cases hf:finish E.P fn.results.toList (e,d,H') with
 |none=>rw[hf] at a;cases a
 |some p=>
  rw[hf] at a;simp[an] at a;simp only;split at a
  ·rename_i Gy Gz hg;simp at a;obtain⟨l,g,s,n⟩:=a;rw[g,hg];simp only;rw[l,n,s,μ ⟨i,o⟩]
  ·cases a
def HV{k}:∀{l:List AV},AV.aq.go l=true->∀{i:Nat},gH k (.ptr i 0::l)=some (i,.ptr k 0::l):=by intro l h i;simp[gH,h]
def sQ{E:Env}{f}{first ar args:List AV}{cs a:List AV}{v}{i}{te}{H:ab}(g:E.cl f=false)(k:E.io f=true)(l:first++ar=.ptr i 0::args)(e:AV.aq.go (args.map AV.erase)=true)
  (hb:∀p,cs≠[.ptr p 0]) (b:cs.map AV.bare=cs) (j:AV.aq.go cs=true) (hg:H.get i=some (.c te cs)) (h:Io E f (args.map AV.erase) cs v a):dD E (run E) (.fn (.func f) first []) ar H=some (v,H.set i (.c te a)):=by
 rw[Xk g k,Η,l];have d:((AV.ptr i 0::args).map AV.erase)=.ptr i 0::args.map AV.erase:=rfl;exact NB (x:=(v,te,a)) (by rw[d];exact HV e) (by rw[d,HV e];rfl) hg hb (by rw[b];exact j) (by rw[b];exact h te)
def ajg{E:Env}{f}{cs a:List AV}{v}{b p}{tb te}{H:ab}(g:E.cl f=false)(l:E.io f=true)
  (i:p≠b) (d:cs.map AV.bare=cs) (j:AV.aq.go cs=true) (k:H.get b=some (.cells tb [.ptr p 0])) (hg:H.get p=some (.c te cs)) (h:Lz E f cs v a):
  dD E (run E) (.fn (.func f) [] [.ptr b 0]) [] H=some (v,(H.set p (.c te a)).set b (.cells tb [.ptr p 0])):=by
 rw[Xk g l];have e:(([]++[]++[AV.ptr b 0]:List AV).map AV.erase)=.ptr b 0::([]:List AV).map AV.erase:=rfl;exact M8 (x:=(v,tb,te,a)) (by rw[e,HV rfl];rfl) (by rw[e];exact HV rfl) k hg i (by rw[d];exact j) (by rw[d];exact h tb te)
structure jD(P:Program)(t:TypeId)(et:TypeId)(s b:Nat):Prop where
 el:fk P t=some et
 sz:bX P et=some s
 fQ:jS P et=some b
 zero:∃z,dz P et=some z/\z.length=s
 s0:s≠0
def cQ(s:Nat)(es:List AV):Prop:=∀e∈es,e.width=some s
def cQ.lr{P}{t et}{s b}(a:jD P t et s b){es:List AV}(h:cQ s es):ou P t es=true:=by
 cases es with
 |nil=>simp[ou,a.el,a.sz]
 |cons e r=>simp[ou,a.el,a.sz,h e Ρ]
def cQ.app{s}{es fs:List AV}(h:cQ s es)(b:cQ s fs):cQ s (es++fs):=λe a=>(aEo.1 a).elim (h e) (b e)
def cY(H:ab)(et:TypeId)(o:Own)(n:Nat):Prop:=(o=.nil/\n=0)\/(o=.full/\n≠0)\/(n≠0/\∃j,o=.own j/\H.get j=some (.bQ n et))
def cY.cj{H H':ab}{et}{o:Own}{n:Nat}(h:cY H et o n)(b:∀j m,H.get j=some (.bQ m et)->H'.get j=some (.bQ m et)):cY H' et o n:=by
 rcases h with h|h|⟨c,j,d,a⟩
 ·exact .inl h
 ·exact .inr (.inl h)
 ·exact .inr (.inr ⟨c,j,d,b _ _ a⟩)
def cY.bare{H}{et:TypeId}{o:Own}{n:Nat}(h:cY H et o n):o.bare=if n=0 then .nil else .ro:=by rcases h with⟨rfl,rfl⟩|⟨rfl,h⟩|⟨h,j,rfl,_⟩<;>simp[Own.bare, *]
def y_(H H':ab):Prop:=H.next<=H'.next/\∀i te cs,H.get i=some (.c te cs)->H'.get i=some (.c te cs)
def y_.refl(H:ab):y_ H H:=⟨ν _,λ_ _ _ h=>h⟩
def y_.trans{H H' a:ab}(h:y_ H H')(b:y_ H' a):y_ H a:=⟨atB h.1 b.1,λi te cs c=>b.2 _ _ _ (h.2 _ _ _ c)⟩
def Ch{m}{P}{t et}{s b:Nat}(a:jD P t et s b)(hm:m t=false){H:ab}{o o2:Own}{es xs:List AV}(h:cY H et o es.length)(v:cQ s es)(y:cQ s xs)(A:xs≠[])(hb:(es.length+xs.length)*b<=140737488355328)(r:es.length+xs.length<=9223372036854775807):
  ∃j H',cH m P t t (.vec o es) (.vec o2 xs) H=some (.vec (.own j) (es++xs),H')/\cY H' et (.own j) (es++xs).length/\y_ H H'/\(∀k n d,H.get k=some (.bQ n d)->o≠.own k->H'.get k=some (.bQ n d)):=by
 have l:=v.lr a;have g:=y.lr a;obtain⟨z,u,x⟩:=a.zero;have e:xs.length≠0:=λh=>A (Ξ.1 h);have q:s≠0/\z.length=s:=⟨a.s0,x⟩;rcases h with⟨rfl,p⟩|⟨rfl,p⟩|⟨p,j,rfl,f⟩
 ·have:es=[]:=Ξ.1 p;subst this;refine⟨H.next,H.push (.bQ xs.length et),?_,.inr (.inr ⟨by simpa using e,H.next,rfl,by rw[ab.fL,μ rfl,Ο]⟩),⟨aEg _,λi te cs hi=> ?_⟩,λk n d c _=> ?_⟩
  ·simp only[cH,a.el,a.sz,a.fQ,u,aGh,μ q,jK,hm,υ,ap1,nH,l,g];rw[μ ⟨hb,r⟩];simp[e]
  ·rw[ab.fL,κ (by have:=ab.ep hi;omega)];exact hi
  ·rw[ab.fL,κ (by have:=ab.ep c;omega)];exact c
 ·refine⟨H.next,H.push (.bQ (es.length+xs.length) et),?_,.inr (.inr ⟨by rw[τ];omega,H.next,rfl,by rw[ab.fL,μ rfl,τ]⟩),⟨aEg _,λi te cs hi=> ?_⟩,λk n d c _=> ?_⟩
  ·simp only[cH,a.el,a.sz,a.fQ,u,aGh,μ q,jK,hm,υ,ap1,nH,l,g];rw[μ ⟨hb,r⟩,κ e]
  ·rw[ab.fL,κ (by have:=ab.ep hi;omega)];exact hi
  ·rw[ab.fL,κ (by have:=ab.ep c;omega)];exact c
 ·refine⟨j,H.set j (.bQ (es.length+xs.length) et),?_,.inr (.inr ⟨by rw[τ];omega,j,rfl,by rw[ab.eE,μ rfl,f,τ];rfl⟩),⟨ν _,λi te cs hi=> ?_⟩,λk n d c w=> ?_⟩
  ·simp only[cH,a.el,a.sz,a.fQ,u,aGh,μ q,jK,nH,l,g,f];rw[μ ⟨hb,r⟩];simp
  ·rw[ab.eE,κ (by rintro rfl;rw[f] at hi;cases hi)];exact hi
  ·rw[ab.eE,κ (by rintro rfl;exact w rfl)];exact c
def append_nil{m}{P}{t et}{s b}(a:jD P t et s b)(hm:m t=false){H:ab}{o2:Own}{xs:List AV}(k:cQ s xs)(l:xs≠[])(hb:xs.length*b<=140737488355328)(j:xs.length<=9223372036854775807):
  cH m P t t (.vec .nil []) (.vec o2 xs) H=some (.vec (.own H.next) xs,H.push (.bQ xs.length et)):=by
 have f:ou P t []=true:=cQ.lr a (s:=s) (λe d=>by cases d);obtain⟨z,n,g⟩:=a.zero;have c:xs.length≠0:=λh=>l (Ξ.1 h);have i:s≠0/\z.length=s:=⟨a.s0,g⟩;simp only[cH,a.el,a.sz,a.fQ,n,aGh,μ i,jK,hm,υ,ap1,nH,f,k.lr a,Χ,aEF];rw[μ ⟨hb,j⟩];simp[c]
def M2{m}{P}{t et}{s b}(a:jD P t et s b)(hm:m t=false){H:ab}{o2:Own}{es xs:List AV}(c:cQ s es)(i:cQ s xs)(j:xs≠[])(hb:(es.length+xs.length)*b<=140737488355328)(g:es.length+xs.length<=9223372036854775807):
  cH m P t t (.vec .full es) (.vec o2 xs) H=some (.vec (.own H.next) (es++xs),H.push (.bQ (es.length+xs.length) et)):=by
 obtain⟨z,k,e⟩:=a.zero;have d:xs.length≠0:=λh=>j (Ξ.1 h);have f:s≠0/\z.length=s:=⟨a.s0,e⟩;simp only[cH,a.el,a.sz,a.fQ,k,aGh,μ f,jK,hm,υ,ap1,nH,c.lr a,i.lr a];rw[μ ⟨hb,g⟩,κ d]
def HG{m}{P}{t et}{s b}(a:jD P t et s b){H:ab}{o2}{j:Nat}{es xs:List AV}(d:H.get j=some (.bQ es.length et))(c:cQ s es)(h:cQ s xs)(hb:(es.length+xs.length)*b<=140737488355328)(g:es.length+xs.length<=9223372036854775807):
  cH m P t t (.vec (.own j) es) (.vec o2 xs) H=some (.vec (.own j) (es++xs),H.set j (.bQ (es.length+xs.length) et)):=by
 obtain⟨z,i,e⟩:=a.zero;have f:s≠0/\z.length=s:=⟨a.s0,e⟩;simp only[cH,a.el,a.sz,a.fQ,i,aGh,μ f,jK,nH,c.lr a,h.lr a,d];rw[μ ⟨hb,g⟩];simp
def N1{H:ab}{i}{x}(h:H.get i=some x):H.set i x=H:=by
 have hg:cg H.jo i=some x:=by
  unfold ab.get at h;split at h
  ·exact h
  ·cases h
 unfold ab.set;rw[qA _ _ _ hg]
def Up(H:ab)(i:Nat)(x:bB)(H':ab):Prop:=H.next<=H'.next/\H'.get i=some x/\∀j y,j≠i->H.get j=some y->H'.get j=some y
def Up.set{H:ab}{i}{x y}(h:H.get i=some y):Up H i x (H.set i x):=⟨ν _,by rw[ab.eE,μ rfl,h];rfl,λj y a b=>by rw[ab.eE,κ (λe=>a e.symm)];exact b⟩
def Up.trans{H H' c:ab}{i}{x y}(h:Up H i x H')(a:Up H' i y c):Up H i y c:=⟨atB h.1 a.1,a.2.1,λj z b d=>a.2.2 j z b (h.2.2 j z b d)⟩
def Up.push{H H':ab}{i}{x y}(h:Up (H.push y) i x H'):Up H i x H':=⟨atB (aEg _) h.1,h.2.1,λj z b a=>h.2.2 j z b (by rw[ab.fL,κ (by have:=ab.ep a;omega)];exact a)⟩
attribute [go_sem] aEQ aFa aFB aFb List.drop_nil
def bW{A B C:Type}(x)(f:A->Option B)(g:B->Option C):an (an x f) g=an x (λa=>an (f a) g):=by cases x<;>rfl
def bz{A:Type}{x}{f:A->Option ef}{P}{Q:A->Prop}(h:∃r,x=some r/\Q r)(k:∀r,Q r->aF (f r) P):aF (an x f) P:=by obtain⟨r,rfl,a⟩:=h;exact k r a
def iter{S:Type}(step:S->Option (Bool×S)):Nat->S->Option S
 |0,_=>none
 |n+1,s=>match step s with|some (true,t)=>iter step n t|some (false,t)=>some t|none=>none
def Ao{S:Type}{step:S->Option (Bool×S)}{Inv:Nat->S->az->ab->Prop}{g:az->ab->Option ef}{id:Nat}
  (i:∀n s b t α H,step s=some (b,t)->Inv (n+1) s α H->aF (g α H) λy a H'=>y=(if b then .normal else .exit id)/\Inv n t a H'):∀n s r α H,iter step n s=some r->Inv n s α H->aF (aL g α H) λy a H'=>y=.exit id/\∃m,Inv m r a H'
 |0,s,r,α,H,h,d=>by cases h
 |n+1,s,r,α,H,h,d=>by
  rw[iter] at h;split at h
  ·rename_i t j;obtain⟨y,a,H',e,c,f⟩:=ke (i n s true t α H j d);rw[μ rfl] at c;subst c;rw[aJ,e];exact Ao i n t r a H' h f
  ·rename_i t j;obtain⟨y,a,H',e,c,f⟩:=ke (i n s false t α H j d);rw[κ aA] at c;subst c;rw[aJ,e];cases h;exact⟨rfl,n,f⟩
  ·cases h
section
variable {E:Env}
def XI:∀x α H r,ik E (run E) aL x α H=some r->∃n,ik E (eL E n) (λg=>gZ g n) x α H=some r
 | .seq a b,α,H,r,c=>by
  simp[ik] at c⊢
  cases hd:A1 a with
  |some p=>obtain⟨o,d⟩:=p;simp[hd] at c⊢;obtain⟨q,h,c⟩:=iH c;obtain⟨s,k,c⟩:=iH c;obtain⟨n1,f⟩:=HP h;obtain⟨n2,j⟩:=wD b _ _ _ k;refine⟨max n1 n2,?_⟩;rw[tV (nr n1 _ (aFK _ _)) f];simp[an];rw[pO (nr n2 _ (aFE _ _)) (zK n2 _ (aFE _ _)) b _ _ _ j];exact c
  |none=>
   simp[hd] at c⊢;obtain⟨q,h,c⟩:=iH c;obtain⟨n1,f⟩:=wD a _ _ _ h;obtain⟨e,ae,H'⟩:=q
   cases e with
   |normal=>simp only at c;obtain⟨n2,j⟩:=XI b _ _ _ c;refine⟨max n1 n2,?_⟩;rw[pO (nr n1 _ (aFK _ _)) (zK n1 _ (aFK _ _)) a _ _ _ f];simp[an];exact N8 (nr n2 _ (aFE _ _)) (zK n2 _ (aFE _ _)) b _ _ _ j
   |exit i=>simp at c
   |ret=>simp at c
 | .skip,_,_,_,c=>by simp[ik] at c
 | .region _ _ _,_,_,_,c=>by simp[ik] at c
 | .cond _ _ _,_,_,_,c=>by simp[ik] at c
 | .block _ _,_,_,_,c=>by simp[ik] at c
 | .loop _,_,_,_,c=>by simp[ik] at c
 | .exit _,_,_,_,c=>by simp[ik] at c
 | .ret,_,_,_,c=>by simp[ik] at c
 | .rangeFunc _ _ _ _,_,_,_,c=>by simp[ik] at c
 | .scope _,_,_,_,c=>by simp[ik] at c
 | .label _,_,_,_,c=>by simp[ik] at c
 | .goto _,_,_,_,c=>by simp[ik] at c
 | .refuse _,_,_,_,c=>by simp[ik] at c
def ar7{f}{fn:Func}{c}(m:E.G f=true)(e:E.df f=true)(j:E.P.funcs[f]? =some fn)(i:fn.body=some c){args:List AV}(n:args.length<=fn.ntmps){H H1}{ex}{α}{b}
  (h:ik E (run E) aL c (jq args) H=some ((ex,α,H1),b)) (a:ex=.normal\/ex=.ret) {g} {first cap} (ht:target b=some (g,first,cap)) (hg:E.G g=true) (qq:E.df g=false) {q v} (k:run E g (first++cap) H1=some q)
  (hf:finish E.P fn.results.toList (.ret,α,q.2)=some v):run E f args H=some v:=by
 obtain⟨n1,d⟩:=XI c _ _ _ h;obtain⟨n2,l⟩:=me.1 k;refine me.2 ⟨max n1 n2+1,?_⟩;have d2:=nr n2 _ (aFE n1 n2) _ _ _ _ l;simp[eL,m,e,AP,j,i,μ n,N8 (nr n1 _ (aFK n1 n2)) (zK n1 _ (aFK n1 n2)) c _ _ _ d,an];rcases a with rfl|rfl
 ·grind
 ·grind
end
end Go.Ab
