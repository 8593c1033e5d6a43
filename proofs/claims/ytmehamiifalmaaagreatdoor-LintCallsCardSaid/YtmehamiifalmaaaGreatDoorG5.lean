/- LintCalls: part 6 of its proof. -/
import Derived.Test.YtmehamiifalmaaaGreatDoorG4
set_option linter.all false
namespace Go.Ab
open Go
open Classical in
noncomputable def ir{S A O:Type}(g:S->O)(o:O)(k:S->A)(d:A):A:=if h:∃s,o=g s then k h.choose else d
def Cq{S A O:Type}{g:S->O}(hg:∀a b,g a=g b->a=b)(s:S)(k:S->A)(d:A):ir g (g s) k d=k s:=by have h:∃t,g s=g t:=⟨s,rfl⟩;unfold ir;rw[dif_pos h,<-hg _ _ h.choose_spec]
def qW{S A O:Type}{g:S->O}{o:O}{k:S->A}{x:A}(h:∀s,o=g s->x=k s):x=ir g o k x:=by
 unfold ir;split
 ·rename_i a;exact h _ a.choose_spec
 ·rfl
@[congr] theorem aCZ {S A O:Type} {g:S->O} {o a:O} {k:S->A} {d:A} (h:o=a):ir g o k d=ir g a k d:=by rw[h]
def vO{A B:Type}(o:Option A)(k:A->B)(d:B):B:=match o with|some a=>k a|none=>d
def aV{A B:Type}(a:A)(k:A->B)(d:B):vO (some a) k d=k a:=(rfl)
@[congr] theorem aC0 {A B:Type} {o a:Option A} {k:A->B} {d:B} (h:o=a):vO o k d=vO a k d:=by rw[h]
def BZ{A B:Type}{o}{k:A->B}{x:B}(h:∀a,o=some a->x=k a):x=vO o k x:=by
 cases o with
 |none=>rfl
 |some a=>exact h a rfl
def aiq(n)(l)(i):ab.get ⟨n,l⟩ i=if i<n then cq l i else none:=(rfl)
def aF{l}{i}{te}{cs}(h:cq l i=some (.c te cs)):e_ l i=some cs:=by simp[e_,h]
def fU(l)(i)(te)(cs)(k):e_ (aH l i (.c te cs)) k=if i=k then(cq l k).bind λ_=>some cs else e_ l k:=by
 simp[e_,bg];by_cases h:i=k
 ·subst h;simp;cases cq l i<;>rfl
 ·simp[κ h]
def sg{A B:Type}(a:A)(f:A->Option B):(some a).bind f=f a:=(rfl)
def aAm(id off)(H:ab):fY (.ptr id off) H=some (.ptr H.next 0,H.push (.z [.ptr id off])):=by simp[fY,AV.width,AV.cells]
def awb(k)(n):(AV.int k n).width=some 1:=(rfl)
def arc(b):(AV.bool b).width=some 1:=(rfl)
def awc(l):(AV.str l).width=some 1:=(rfl)
def awd(o)(l):(AV.vec o l).width=some 1:=(rfl)
def awe(cs:List AV):(AV.agg cs).width=some cs.length:=(rfl)
def awf(i o):(AV.ptr i o).width=some 1:=(rfl)
def awg(i):(AV.map i).width=some 1:=(rfl)
def awh(k)(n):(AV.int k n).cells=[.int k n]:=(rfl)
def ard(b):(AV.bool b).cells=[.bool b]:=(rfl)
def awi(l):(AV.str l).cells=[.str l]:=(rfl)
def awj(o)(l):(AV.vec o l).cells=[.vec o l]:=(rfl)
def awk(cs):(AV.agg cs).cells=cs:=(rfl)
def awl(i o):(AV.ptr i o).cells=[.ptr i o]:=(rfl)
def awm(i):(AV.map i).cells=[.map i]:=(rfl)
def arf:eE []=true:=(rfl)
def arh(k)(n)(r):eE (.int k n::r)=eE r:=(rfl)
def alD(b)(r):eE (.bool b::r)=eE r:=(rfl)
def ari(l)(r):eE (.str l::r)=eE r:=(rfl)
def arj(o)(l)(r):eE (.vec o l::r)=eE r:=(rfl)
def ark(i o)(r):eE (.ptr i o::r)=eE r:=(rfl)
def gS:AV.aq.go []=true:=(rfl)
def alE{x:AV}(h:x.aq=true)(r):AV.aq.go (x::r)=AV.aq.go r:=by show(x.aq&&AV.aq.go r)=_;rw[h,Bool.true_and]
def air(c)(cs)(v):eD (c::cs) 0 [v]=v::cs:=by simp[eD]
def ais(c)(cs)(k)(vs):eD (c::cs) (k+1) vs=c::eD cs k vs:=by simp[eD,Nat.add_right_comm]
def YH(cs a:List AV)(h:a.length=cs.length):eD cs 0 a=a:=by simp[eD,h]
def ait(place)(cs):aZ place cs []=some cs:=(rfl)
def aiu(k):Own.bare (.own k)=.ro:=(rfl)
def W_:Own.bare .nil=.nil:=(rfl)
def YI:Own.bare .ro=.ro:=(rfl)
def ag0:Own.bare .full=.ro:=(rfl)
attribute [go_sem] air ais YH
def aj{n}{l}{i}{x}:ab.get ⟨n,l⟩ i=some x↔i<n/\cq l i=some x:=by
 simp only[ab.get];split
 ·rename_i h;simp[h]
 ·rename_i h;simp[h]
attribute [go_sem] awb arc awc awd awe awf awg awh ard awi awj awk awl awm arf arh alD ari arj ark gS ait aiu W_ YI ag0
attribute [go_sem] VQ heap_set aiq tj WG G6 GR MA aAm
def aiv{E}{call}{α}{H}(all)(k)(dst)(op)(ty)(pos)(after)(rest)(rs)(ws)(j)(b):
  eP E call all k (⟨dst,op,ty,pos,after,some (j,b)⟩::rest) rs ws α H=an (Az b α (yl all j)) λc=>
   cY c (an (bz E call op (ev α) H) λr=>Bj (bO E op) E call all k ⟨dst,op,ty,pos,after,some (j,b)⟩ rest rs ws α H r) (eP E call all (k+1) rest rs ws (put α dst hM) H):=by
 rw[<-Ve];rfl
def afa{E}(x):bO E (.nilCheck x)=.ins:=(rfl)
def aiw{E}(t)(x i):bO E (.index t x i)=.ins:=(rfl)
def alF{E}(a b c):bO E (.pick a b c)=.ins:=(rfl)
def aix{E}(op)(t)(a b)(c):bO E (.binOp op t a b c)=.ins:=(rfl)
def aiy{E}(t)(l)(dV):bO E (.call ⟨.value (.tmp t),l,dV⟩)=.wr:=(rfl)
def aas{E}(l)(dV)(h:yE E.P dV=false):bO E (.call ⟨.builtin .len,l,dV⟩)=.ins:=by simp[bO,h]
def aiz{E}{call}{ρ}{H}(t)(x)(f):bz E call (.field t x f) ρ H=an (Af E.P t f (ρ x)) λv=>some (v,H):=(rfl)
def ag1{E}{call}{ρ}{H}(t)(m k)(ok):bz E call (.lookup t m k ok) ρ H=an (wo E.P H t (ρ m) (ρ k) ok) λv=>some (v,H):=(rfl)
attribute [go_sem ↓] aiz ag1
def arl(a b):ef (.ptr a b) (.ptr a b)=true:=by simp[ef]
attribute [go_sem] arl
def Pa(n k):BJ (.ptr n k)=some (.ptr n k):=(rfl)
def Pc(b):xj .not (.bool b)=some (.bool (!b)):=by cases b<;>exact(rfl)
def ez(a b:Nat):((a:Int)==(b:Int))=decide (a=b):=by
 by_cases h:a=b
 ·subst h;simp
 ·rw[ξ h,aDL];omega
def rO(a b:Nat):((a:Int) != (b:Int))= !decide (a=b):=by show(!((a:Int)==(b:Int)))=_;rw[ez]
def afZ:qz []=.tup []:=(rfl)
def fG{A:Type}{s:List A}{i}(h:i<s.length):∃c,s[i]? =some c:=⟨_,Φ h⟩
attribute [go_sem ↓] aiv afa aiw alF aix aiy aas
attribute [go_sem ↓] WE Qa Qb O1 Mz
attribute [go_sem] Pa Pc afZ sg
def aen{E:Env}(t)(n)(l):bO E (.buildSlice t n l)=.ins:=(rfl)
def aeH{E:Env}(t)(x i):bO E (.indexAddr t x i)=.ins:=(rfl)
def aiA{E:Env}(t)(x)(i):bO E (.field t x i)=.ins:=(rfl)
def alG{E:Env}(op:UnOp)(t)(x):bO E (.unOp op t x)=.ins:=(rfl)
def aiB{E:Env}(f)(l)(dV)(h:E.cl f=false):bO E (.call ⟨.value (.func f),l,dV⟩)=.wr:=by simp[bO,h]
def aiC{E:Env}(f)(l)(dV)(h:E.cl f=true):bO E (.call ⟨.value (.func f),l,dV⟩)=.ins:=by simp[bO,h]
def ag2{E}(l)(dV):bO E (.call ⟨.builtin .append,l,dV⟩)=.wr:=(rfl)
attribute [go_sem ↓] aen aeH aiA alG aiB aiC ag2
def yz(r:Option (AV×ab)):Option (AV×Option TypeId×List AV):=an r λp=>match p.2.get 0 with|some (.cells te cs)=>some (p.1.erase,te,cs.map AV.bare)|_=>none
def Rt(v:AV)(o:Option bH):Option (AV×Option TypeId×List AV):=match o with|some (.cells te cs)=>some (v.erase,te,cs.map AV.bare)|_=>none
def af0(v:AV)(H:ab):yz (some (v,H))=Rt v (H.get 0):=by unfold yz Rt;simp[an]
@[congr] theorem aCU {r a:Option (AV×ab)} (h:r=a):yz r=yz a:=by rw[h]
def ag3(v:AV)(te:Option TypeId)(cs:List AV):Rt v (some (.c te cs))=some (v.erase,te,cs.map AV.bare):=(rfl)
attribute [go_sem] af0 ag3
def Io(E:Env)(f:FuncId)(args:List AV)(cs:List AV)(v:AV)(a:List AV):Prop:=∀te,oD (run E) f (.ptr 0 0::args) te cs=some (v,te,a)
def KS(E:Env)(f:FuncId)(cs:List AV)(v:AV)(a:List AV):Prop:=∀tb te,oA (run E) f [.ptr 1 0] tb te cs=some (v,tb,te,a)
def fX{E:Env}{f}{fn:Func}{c}{args:List AV}{cs d:List AV}{v:AV}(q:E.G f=true)(l:E.df f=false)(k:E.P.funcs[f]? =some fn)(h:fn.body=some c)(r:args.length+1<=fn.ntmps)
  (i:∀te,aD (aP E (run E) aJ c (jy (.ptr 0 0::args)) ⟨1,[(0,.c te cs)]⟩) λe b H'=>yz (finish E.P fn.results.toList (e,b,H'))=some (v,te,d)) (g:v.aq=true) (o:AV.aq.go d=true):Io E f args cs v d:=by
 intro te;obtain⟨e,b,H',m,a⟩:=kf (i te);unfold oD;rw[BX q l k h (by simpa using r),m];simp[an];unfold yz at a
 cases hf:finish E.P fn.results.toList (e,b,H') with
 |none=>rw[hf] at a;cases a
 |some p=>
  rw[hf] at a;simp[an] at a;simp only;split at a
  ·rename_i F0 F1 hg;simp at a;obtain⟨j,s,n⟩:=a;rw[hg];simp only;rw[j,n,s,ν ⟨g,o⟩]
  ·cases a
def Cr(r:Option (AV×ab)):Option (AV×Option bH×Option TypeId×List AV):=an r λp=>match p.2.get 0 with|some (.cells te cs)=>some (p.1.erase,p.2.get 1,te,cs.map AV.bare)|_=>none
def Qd(v:AV)(b:Option bH)(o:Option bH):Option (AV×Option bH×Option TypeId×List AV):=match o with|some (.cells te cs)=>some (v.erase,b,te,cs.map AV.bare)|_=>none
def afb(v:AV)(H:ab):Cr (some (v,H))=Qd v (H.get 1) (H.get 0):=by unfold Cr Qd;simp[an]
@[congr] theorem aCP {r a:Option (AV×ab)} (h:r=a):Cr r=Cr a:=by rw[h]
def af1(v:AV)(b)(te:Option TypeId)(cs:List AV):Qd v b (some (.c te cs))=some (v.erase,b,te,cs.map AV.bare):=(rfl)
attribute [go_sem] afb af1
def Pd{E:Env}{f}{fn:Func}{c}{cs d:List AV}{v:AV}(r:E.G f=true)(m:E.df f=false)(l:E.P.funcs[f]? =some fn)(i:fn.body=some c)(s:1<=fn.ntmps)
  (j:∀tb te,aD (aP E (run E) aJ c (jy [.ptr 1 0]) ⟨2,[(1,.cells tb [.ptr 0 0]),(0,.c te cs)]⟩) λe b H'=>Cr (finish E.P fn.results.toList (e,b,H'))=some (v,some (.cells tb [.ptr 0 0]),te,d)) (h:v.aq=true) (q:AV.aq.go d=true):KS E f cs v d:=by
 intro tb te;obtain⟨e,b,H',n,a⟩:=kf (j tb te);unfold oA;rw[BX r m l i (by simpa using s),n];simp[an];unfold Cr at a
 cases hf:finish E.P fn.results.toList (e,b,H') with
 |none=>rw[hf] at a;cases a
 |some p=>
  rw[hf] at a;simp[an] at a;simp only;split at a
  ·rename_i F0 F1 hg;simp at a;obtain⟨k,g,t,o⟩:=a;rw[g,hg];simp only;rw[k,o,t,ν ⟨h,q⟩]
  ·cases a
def G_{k}:∀{l:List AV},AV.aq.go l=true->∀{i:Nat},gN k (.ptr i 0::l)=some (i,.ptr k 0::l):=by intro l h i;simp[gN,h]
def sr{E:Env}{f}{first ar args:List AV}{cs a:List AV}{v}{i}{te}{H:ab}(j:E.cl f=false)(l:E.io f=true)(k:first++ar=.ptr i 0::args)(b:AV.aq.go (args.map AV.erase)=true)
  (hb:∀p,cs≠[.ptr p 0]) (e:cs.map AV.bare=cs) (g:AV.aq.go cs=true) (hg:H.get i=some (.c te cs)) (h:Io E f (args.map AV.erase) cs v a):dX E (run E) (.fn (.func f) first []) ar H=some (v,H.set i (.c te a)):=by
 rw[WJ j l,aDi,k];have d:((AV.ptr i 0::args).map AV.erase)=.ptr i 0::args.map AV.erase:=rfl;exact MV (x:=(v,te,a)) (by rw[d];exact G_ b) (by rw[d,G_ b];rfl) hg hb (by rw[e];exact g) (by rw[e];exact h te)
def aiD{E:Env}{f}{cs a:List AV}{v}{b p}{tb te}{H:ab}(k:E.cl f=false)(l:E.io f=true)
  (g:p≠b) (e:cs.map AV.bare=cs) (j:AV.aq.go cs=true) (i:H.get b=some (.cells tb [.ptr p 0])) (hg:H.get p=some (.c te cs)) (h:KS E f cs v a):
  dX E (run E) (.fn (.func f) [] [.ptr b 0]) [] H=some (v,(H.set p (.c te a)).set b (.cells tb [.ptr p 0])):=by
 rw[WJ k l];have d:(([]++[]++[AV.ptr b 0]:List AV).map AV.erase)=.ptr b 0::([]:List AV).map AV.erase:=rfl;exact Mt (x:=(v,tb,te,a)) (by rw[d,G_ rfl];rfl) (by rw[d];exact G_ rfl) i hg g (by rw[e];exact j) (by rw[e];exact h tb te)
structure iZ(P:Program)(t:TypeId)(et:TypeId)(s b:Nat):Prop where
 el:eW P t=some et
 sz:bF P et=some s
 fq:jN P et=some b
 zero:∃z,dq P et=some z/\z.length=s
 s0:s≠0
def cB(s:Nat)(es:List AV):Prop:=∀e∈es,e.width=some s
def cB.jU{P}{t et}{s b}(a:iZ P t et s b){es:List AV}(h:cB s es):ow P t es=true:=by
 cases es with
 |nil=>simp[ow,a.el,a.sz]
 |cons e r=>simp[ow,a.el,a.sz,h e as1]
def cB.app{s}{es fs:List AV}(h:cB s es)(b:cB s fs):cB s (es++fs):=λe a=>(Ω.1 a).elim (h e) (b e)
def bY(H:ab)(et:TypeId)(o:Own)(n:Nat):Prop:=(o=.nil/\n=0)\/(o=.full/\n≠0)\/(n≠0/\∃j,o=.own j/\H.get j=some (.bB n et))
def bY.bU{H H':ab}{et}{o:Own}{n:Nat}(h:bY H et o n)(b:∀j m,H.get j=some (.bB m et)->H'.get j=some (.bB m et)):bY H' et o n:=by
 rcases h with h|h|⟨c,j,d,a⟩
 ·exact .inl h
 ·exact .inr (.inl h)
 ·exact .inr (.inr ⟨c,j,d,b _ _ a⟩)
def bY.bare{H}{et:TypeId}{o:Own}{n:Nat}(h:bY H et o n):o.bare=if n=0 then .nil else .ro:=by rcases h with⟨rfl,rfl⟩|⟨rfl,h⟩|⟨h,j,rfl,_⟩<;>simp[Own.bare, *]
def yA(H H':ab):Prop:=H.next<=H'.next/\∀i te cs,H.get i=some (.c te cs)->H'.get i=some (.c te cs)
def yA.refl(H:ab):yA H H:=⟨μ _,λ_ _ _ h=>h⟩
def yA.trans{H H' a:ab}(h:yA H H')(b:yA H' a):yA H a:=⟨aDj h.1 b.1,λi te cs c=>b.2 _ _ _ (h.2 _ _ _ c)⟩
def BP{m}{P}{t et}{s b:Nat}(a:iZ P t et s b)(hm:m t=false){H:ab}{o o2:Own}{es xs:List AV}(h:bY H et o es.length)(w:cB s es)(y:cB s xs)(A:xs≠[])(hb:(es.length+xs.length)*b<=140737488355328)(r:es.length+xs.length<=9223372036854775807):
  ∃j H',cj m P t t (.vec o es) (.vec o2 xs) H=some (.vec (.own j) (es++xs),H')/\bY H' et (.own j) (es++xs).length/\yA H H'/\(∀k n d,H.get k=some (.bB n d)->o≠.own k->H'.get k=some (.bB n d)):=by
 have p:=w.jU a;have l:=y.jU a;obtain⟨z,u,x⟩:=a.zero;have g:xs.length≠0:=λh=>A (Ψ.1 h);have e:s≠0/\z.length=s:=⟨a.s0,x⟩;rcases h with⟨rfl,q⟩|⟨rfl,q⟩|⟨q,j,rfl,f⟩
 ·have:es=[]:=Ψ.1 q;subst this;refine⟨H.next,H.push (.bB xs.length et),?_,.inr (.inr ⟨by simpa using g,H.next,rfl,by rw[ab.dT,ν rfl,aDl]⟩),⟨awF _,λi te cs hi=> ?_⟩,λk n d c _=> ?_⟩
  ·simp only[cj,a.el,a.sz,a.fq,u,aEB,ν e,jt,hm,τ,aDf,lC,p,l];rw[ν ⟨hb,r⟩];simp[g]
  ·rw[ab.dT,κ (by have:=ab.eg hi;omega)];exact hi
  ·rw[ab.dT,κ (by have:=ab.eg c;omega)];exact c
 ·refine⟨H.next,H.push (.bB (es.length+xs.length) et),?_,.inr (.inr ⟨by rw[χ];omega,H.next,rfl,by rw[ab.dT,ν rfl,χ]⟩),⟨awF _,λi te cs hi=> ?_⟩,λk n d c _=> ?_⟩
  ·simp only[cj,a.el,a.sz,a.fq,u,aEB,ν e,jt,hm,τ,aDf,lC,p,l];rw[ν ⟨hb,r⟩,κ g]
  ·rw[ab.dT,κ (by have:=ab.eg hi;omega)];exact hi
  ·rw[ab.dT,κ (by have:=ab.eg c;omega)];exact c
 ·refine⟨j,H.set j (.bB (es.length+xs.length) et),?_,.inr (.inr ⟨by rw[χ];omega,j,rfl,by rw[ab.ec,ν rfl,f,χ];rfl⟩),⟨μ _,λi te cs hi=> ?_⟩,λk n d c v=> ?_⟩
  ·simp only[cj,a.el,a.sz,a.fq,u,aEB,ν e,jt,lC,p,l,f];rw[ν ⟨hb,r⟩];simp
  ·rw[ab.ec,κ (by rintro rfl;rw[f] at hi;cases hi)];exact hi
  ·rw[ab.ec,κ (by rintro rfl;exact v rfl)];exact c
def append_nil{m}{P}{t et}{s b}(a:iZ P t et s b)(hm:m t=false){H:ab}{o2:Own}{xs:List AV}(k:cB s xs)(l:xs≠[])(hb:xs.length*b<=140737488355328)(j:xs.length<=9223372036854775807):
  cj m P t t (.vec .nil []) (.vec o2 xs) H=some (.vec (.own H.next) xs,H.push (.bB xs.length et)):=by
 have g:ow P t []=true:=cB.jU a (s:=s) (λe d=>by cases d);obtain⟨z,n,i⟩:=a.zero;have f:xs.length≠0:=λh=>l (Ψ.1 h);have c:s≠0/\z.length=s:=⟨a.s0,i⟩;simp only[cj,a.el,a.sz,a.fq,n,aEB,ν c,jt,hm,τ,aDf,lC,g,k.jU a,Χ,aDz];rw[ν ⟨hb,j⟩];simp[f]
def Mm{m}{P}{t et}{s b}(a:iZ P t et s b)(hm:m t=false){H:ab}{o2:Own}{es xs:List AV}(c:cB s es)(i:cB s xs)(j:xs≠[])(hb:(es.length+xs.length)*b<=140737488355328)(g:es.length+xs.length<=9223372036854775807):
  cj m P t t (.vec .full es) (.vec o2 xs) H=some (.vec (.own H.next) (es++xs),H.push (.bB (es.length+xs.length) et)):=by
 obtain⟨z,k,f⟩:=a.zero;have e:xs.length≠0:=λh=>j (Ψ.1 h);have d:s≠0/\z.length=s:=⟨a.s0,f⟩;simp only[cj,a.el,a.sz,a.fq,k,aEB,ν d,jt,hm,τ,aDf,lC,c.jU a,i.jU a];rw[ν ⟨hb,g⟩,κ e]
def GW{m}{P}{t et}{s b}(a:iZ P t et s b){H:ab}{o2}{j:Nat}{es xs:List AV}(e:H.get j=some (.bB es.length et))(c:cB s es)(h:cB s xs)(hb:(es.length+xs.length)*b<=140737488355328)(g:es.length+xs.length<=9223372036854775807):
  cj m P t t (.vec (.own j) es) (.vec o2 xs) H=some (.vec (.own j) (es++xs),H.set j (.bB (es.length+xs.length) et)):=by
 obtain⟨z,i,f⟩:=a.zero;have d:s≠0/\z.length=s:=⟨a.s0,f⟩;simp only[cj,a.el,a.sz,a.fq,i,aEB,ν d,jt,lC,c.jU a,h.jU a,e];rw[ν ⟨hb,g⟩];simp
def Nc{H:ab}{i}{x}(h:H.get i=some x):H.set i x=H:=by
 have hg:cq H.jx i=some x:=by
  unfold ab.get at h;split at h
  ·exact h
  ·cases h
 unfold ab.set;rw[qu _ _ _ hg]
def Up(H:ab)(i:Nat)(x:bH)(H':ab):Prop:=H.next<=H'.next/\H'.get i=some x/\∀j y,j≠i->H.get j=some y->H'.get j=some y
def Up.set{H:ab}{i}{x y}(h:H.get i=some y):Up H i x (H.set i x):=⟨μ _,by rw[ab.ec,ν rfl,h];rfl,λj y a b=>by rw[ab.ec,κ (λe=>a e.symm)];exact b⟩
def Up.trans{H H' b:ab}{i}{x y}(h:Up H i x H')(a:Up H' i y b):Up H i y b:=⟨aDj h.1 a.1,a.2.1,λj z c d=>a.2.2 j z c (h.2.2 j z c d)⟩
def Up.push{H H':ab}{i}{x y}(h:Up (H.push y) i x H'):Up H i x H':=⟨aDj (awF _) h.1,h.2.1,λj z b a=>h.2.2 j z b (by rw[ab.dT,κ (by have:=ab.eg a;omega)];exact a)⟩
attribute [go_sem] aEk aEb aEU aEc List.drop_nil
def cg{A B C:Type}(x)(f:A->Option B)(g:B->Option C):an (an x f) g=an x (λa=>an (f a) g):=by cases x<;>rfl
def bL{A:Type}{x}{f:A->Option dZ}{P}{Q:A->Prop}(h:∃r,x=some r/\Q r)(k:∀r,Q r->aD (f r) P):aD (an x f) P:=by obtain⟨r,rfl,a⟩:=h;exact k r a
def iter{S:Type}(step:S->Option (Bool×S)):Nat->S->Option S
 |0,_=>none
 |n+1,s=>match step s with|some (true,t)=>iter step n t|some (false,t)=>some t|none=>none
def zK{S:Type}{step:S->Option (Bool×S)}{Inv:Nat->S->az->ab->Prop}{g:az->ab->Option dZ}{id:Nat}
  (i:∀n s b t α H,step s=some (b,t)->Inv (n+1) s α H->aD (g α H) λy a H'=>y=(if b then .normal else .exit id)/\Inv n t a H'):∀n s r α H,iter step n s=some r->Inv n s α H->aD (aJ g α H) λy a H'=>y=.exit id/\∃m,Inv m r a H'
 |0,s,r,α,H,h,d=>by cases h
 |n+1,s,r,α,H,h,d=>by
  rw[iter] at h;split at h
  ·rename_i t j;obtain⟨y,a,H',e,c,f⟩:=kf (i n s true t α H j d);rw[ν rfl] at c;subst c;rw[aG,e];exact zK i n t r a H' h f
  ·rename_i t j;obtain⟨y,a,H',e,c,f⟩:=kf (i n s false t α H j d);rw[κ aA] at c;subst c;rw[aG,e];cases h;exact⟨rfl,n,f⟩
  ·cases h
section
variable {E:Env}
def Xa:∀x α H r,iB E (run E) aJ x α H=some r->∃n,iB E (eI E n) (λg=>h_ g n) x α H=some r
 | .seq a b,α,H,r,c=>by
  simp[iB] at c⊢
  cases hd:Aw a with
  |some p=>obtain⟨o,d⟩:=p;simp[hd] at c⊢;obtain⟨q,h,c⟩:=iR c;obtain⟨s,k,c⟩:=iR c;obtain⟨n1,f⟩:=G5 h;obtain⟨n2,j⟩:=v8 b _ _ _ k;refine⟨max n1 n2,?_⟩;rw[ti (nG n1 _ (aEM _ _)) f];simp[an];rw[pL (nG n2 _ (aEH _ _)) (za n2 _ (aEH _ _)) b _ _ _ j];exact c
  |none=>
   simp[hd] at c⊢;obtain⟨q,h,c⟩:=iR c;obtain⟨n1,f⟩:=v8 a _ _ _ h;obtain⟨e,ae,H'⟩:=q
   cases e with
   |normal=>simp only at c;obtain⟨n2,j⟩:=Xa b _ _ _ c;refine⟨max n1 n2,?_⟩;rw[pL (nG n1 _ (aEM _ _)) (za n1 _ (aEM _ _)) a _ _ _ f];simp[an];exact Nl (nG n2 _ (aEH _ _)) (za n2 _ (aEH _ _)) b _ _ _ j
   |exit i=>simp at c
   |ret=>simp at c
 | .skip,_,_,_,c=>by simp[iB] at c
 | .region _ _ _,_,_,_,c=>by simp[iB] at c
 | .cond _ _ _,_,_,_,c=>by simp[iB] at c
 | .block _ _,_,_,_,c=>by simp[iB] at c
 | .loop _,_,_,_,c=>by simp[iB] at c
 | .exit _,_,_,_,c=>by simp[iB] at c
 | .ret,_,_,_,c=>by simp[iB] at c
 | .rangeFunc _ _ _ _,_,_,_,c=>by simp[iB] at c
 | .scope _,_,_,_,c=>by simp[iB] at c
 | .label _,_,_,_,c=>by simp[iB] at c
 | .goto _,_,_,_,c=>by simp[iB] at c
 | .refuse _,_,_,_,c=>by simp[iB] at c
def arn{f}{fn:Func}{c}(n:E.G f=true)(k:E.df f=true)(j:E.P.funcs[f]? =some fn)(i:fn.body=some c){args:List AV}(o:args.length<=fn.ntmps){H d}{ex}{α}{b}
  (h:iB E (run E) aJ c (jy args) H=some ((ex,α,d),b)) (a:ex=.normal\/ex=.ret) {g} {first cap} (ht:target b=some (g,first,cap)) (hg:E.G g=true) (ql:E.df g=false) {q v} (l:run E g (first++cap) d=some q)
  (hf:finish E.P fn.results.toList (.ret,α,q.2)=some v):run E f args H=some v:=by
 obtain⟨n1,e⟩:=Xa c _ _ _ h;obtain⟨n2,m⟩:=nO.1 l;refine nO.2 ⟨max n1 n2+1,?_⟩;have d2:=nG n2 _ (aEH n1 n2) _ _ _ _ m;simp[eI,n,k,Ag,j,i,ν o,Nl (nG n1 _ (aEM n1 n2)) (za n1 _ (aEM n1 n2)) c _ _ _ e,an];rcases a with rfl|rfl
 ·grind
 ·grind
end
end Go.Ab
