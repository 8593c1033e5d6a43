/- LintFinds: part 33 of its proof. -/
import Derived.Test.YtmehamiifalmaaaGreatDoorG29
import Derived.Test.YtmehamiifalmaaaGreatDoorG24
import Derived.Test.YtmehamiifalmaaaGreatDoorG31
import Derived.ProofKit
import Derived.OpenShut
set_option linter.all false
namespace Go.Proofs.YtmehamiifalmaaaGreatDoor
open Go Go.Ab Go.Proofs.Tryz
open Go.ChangeShapes Go.WideShapes Go.ChangeAt Go.RowKit
set_option maxRecDepth 100000
def given:xl:=⟨K.aq9,alc,S.alG,S.alF,S.alE,S.alH⟩
def wB(W:World):St:={cells:=λb o=>match W.cell? ⟨b,o,none⟩ with|some v=>if v.oneCell'=true then some v else none|none=>none,loc:=λ_=>none,own:=λ_ _=>none}
def YH{W:World}{b o}{v:Value}(h:W.cell? ⟨b,o,none⟩=some v)(a:v.oneCell'=true):(wB W).cells b o=some v:=by simp[wB,h,a]
def aga{E}(i:ir E){f}{args}{us:List Value}(w:World)(j:au (wB w) args us)(h:aK E.P (run E) f args=some (.bool true))(hb:xm E.P (·<w.heap.size) w):
  Calls E.P f us.toArray w λe w'=>e=.returned (.bool true)/\Below w.heap.size w w':=by
 have k1:∀b o v,(wB w).cells b o=some v->w.cell? ⟨b,o,none⟩=some v:=by
  intro b o v a;simp[wB] at a;split at a
  ·rename_i x c;split at a
   ·cases a;exact c
   ·cases a
  ·cases a
 have k2:∀b o v,(wB w).cells b o=some v->v.oneCell'=true:=by
  intro b o v a;simp[wB] at a;split at a
  ·split at a
   ·rename_i k;cases a;exact k
   ·cases a
  ·cases a
 have l:aY E.P (·<w.heap.size) w .empty (wB w) w:=
  ⟨gN.refl _ _,hb,k1,k2,λ_ _=>⟨rfl,λ_=>rfl⟩,λid x c=>by simp[ab.get,ab.empty] at c,λid x c=>by simp[ab.get,ab.empty] at c,
   λid gD x x' c=>by simp[ab.get,ab.empty] at c⟩
 refine(MU l (EI i) j h).2.mono ?_;rintro e w' ⟨u,rfl,bt,dg,d,g⟩;simp[aj] at g;subst g;exact⟨rfl,d.below.os,d.below.tape,d.below.output,d.below.size,d.below.block⟩
def YI{σ:St}{b}:∀(l:List Md) (off:Nat),(∀j x,l[j]? =some x->σ.cells b (off+j*2)=some (.string ⟨x.1.toArray⟩)/\σ.cells b (off+j*2+1)=some (.string ⟨x.2.toArray⟩))->b_ σ b 2 off (l.map fK)
 |[],_,_=>by simp[b_]
 |x::l,off,h=>by
  show b_ σ b 2 off (.agg [.str x.1,.str x.2]::l.map fK);simp[b_];refine⟨⟨.agg #[.string ⟨x.1.toArray⟩,.string ⟨x.2.toArray⟩],by simp[aj,au],rfl,λj v a=> ?_⟩,YI l (off+2) λj y a=> ?_⟩
  ·obtain⟨d,c⟩:=h 0 x rfl;simp at d c
   match j,a with
   |0,a=>simp[Value.cells] at a;subst a;exact d
   |1,a=>simp[Value.cells] at a;subst a;exact c
   |j+2,a=>simp[Value.cells] at a
  ·have:=h (j+1) y (by simpa using a);rw[show off+(j+1)*2=off+2+j*2 by omega] at this;exact this
def ag2{W:World}{base}{a:Addr}{H:Type}{enc}{n}{y:DataW H×List MemPlace}(h:(W.cells? base a (prog.cellsOf 65)).bind (DataW.trod enc prog W base (λ_=>true) true n 65)=some y):
  ∃x:Md,W.cell? (a.add 0)=some (.string ⟨x.1.toArray⟩)/\W.cell? (a.add 1)=some (.string ⟨x.2.toArray⟩):=by
 have s:prog.cellsOf 65=2:=af;have d:prog.cellsOf 9=1:=af;rw[s,Option.bind_eq_some_iff] at h;obtain⟨cs,k,p⟩:=h;obtain⟨hb,o,i⟩:=World.cells?_some k;obtain⟨xs,m,rfl,_,_,j,f⟩:=DataW.trod_struct underlying65 p
 match cs,o with
 |[x0,b],_=>
  match xs,j with
  |[y0,g],_=>
   have f0:DataW.trod enc prog W base (λ_=>true) true m 9 [x0]=some y0:=by have q:DataW.trod enc prog W base (λ_=>true) true m 9 (([x0,b].drop 0).take (prog.cellsOf 9))=some y0:=f 0 _ rfl;rw[d] at q;exact q
   have l:DataW.trod enc prog W base (λ_=>true) true m 9 [b]=some g:=by have q:DataW.trod enc prog W base (λ_=>true) true m 9 (([x0,b].drop 1).take (prog.cellsOf 9))=some g:=f 1 _ rfl;rw[d] at q;exact q
   obtain⟨s0,c,_,_⟩:=DataW.trod_string underlying9 f0;obtain⟨r,e,_,_⟩:=DataW.trod_string underlying9 l;simp at c e;subst c e;exact⟨(s0.data.toList,r.data.toList),i 0 aa,i 1 aa⟩
def aAO{W}{v}{base}{H:Type}{enc}{d:DataW H}{p}(J:Value.okWide prog W .any base 22 v)(h:DataW.Trod enc prog W 0 (λ_=>true) true 22 v d p):
  ∃(k:Nat) (l:List Md),l.length<=9223372036854775807/\au (wB W) [.vec (aD k) (l.map fK)] [v]:=by
 obtain⟨fuel,hf⟩:=h;obtain⟨a0,c,y,rfl⟩:=okWide_slice underlying22 J;rcases DataW.trod_slice underlying22 hf with⟨g,_⟩|⟨a,len,cap,elems,rest,n,_,g,_,hb,G,hm,hlen,E,_,_⟩
 ·simp[Value.cells,Value.slice.injEq] at g;obtain⟨rfl,rfl,rfl⟩:=g;exact⟨0,[],ah,by simp[au,aj,nO,aD]⟩
 ·simp[Value.cells,Value.slice.injEq] at g;obtain⟨rfl,rfl,rfl⟩:=g;by_cases F:c=0
  ·subst F;exact⟨1,[],ah,by simp[au,aj,nO,aD]⟩
  ·have C:prog.cellsOf 65=2:=af;have e:∀i,i<c->∃x:Md,W.cell? ((a.add (i*2)).add 0)=some (.string ⟨x.1.toArray⟩)/\W.cell? ((a.add (i*2)).add 1)=some (.string ⟨x.2.toArray⟩):=by intro i hi;have q:=E i hi;rw[Ν aa] at q;rw[C] at q;exact ag2 (a:=a.add (i*2)) (by rw[C];exact q)
   obtain⟨b,off,z⟩:=a
   have u:z=none:=by
    obtain⟨x,t,_⟩:=e 0 aa
    cases z with
    |none=>rfl
    |some s=>exfalso;simp[Addr.add,World.cell?] at t;split at t<;>simp at t
   subst u;have m:∀i,i<c->∃x:Md,W.cell? ⟨b,off+i*2,none⟩=some (.string ⟨x.1.toArray⟩)/\W.cell? ⟨b,off+i*2+1,none⟩=some (.string ⟨x.2.toArray⟩):=by intro i hi;obtain⟨x,o,r⟩:=e i hi;simp[Addr.qF] at o r;exact⟨x,o,r⟩
   let f:Nat->Md:=λi=>if h:i<c then Classical.choose (m i h) else([],[]);have I:∀i,i<c->W.cell? ⟨b,off+i*2,none⟩=some (.string ⟨(f i).1.toArray⟩)/\W.cell? ⟨b,off+i*2+1,none⟩=some (.string ⟨(f i).2.toArray⟩):=by intro i hi;have q:=aFR (m i hi);simp[f,hi];exact q
   let l:List Md:=(List.range c).map f;have A:l.length=c:=by simp[l]
   have D:(l.map fK).length=c:=by simp[l]
   refine⟨1,l,by rw[A];unfold maxLen at hm;omega,?_⟩;simp only[au,aj];refine⟨_,_,rfl,⟨some ⟨b,off,none⟩,y,by rw[D],by rw[D];exact G,trivial,.inr ⟨b,off,2,rfl,YI l off λj x w=> ?_⟩⟩,rfl⟩;have B:j<c:=by rw[<-A];exact(φ.1 w).1
   have:x=f j:=by simp[l,aEt,List.getElem?_range B] at w;exact w.symm
   subst this;obtain⟨o,r⟩:=I j B;exact⟨YH o rfl,YH r rfl⟩
def aAP{W:World}{v}{k}{l:List Md}(a:l.length<=9223372036854775807)(b:au (wB W) [.vec (aD k) (l.map fK)] [v])(hb:xm prog (·<W.heap.size) W):
  Calls prog 3 #[v] W λe w'=>e=.returned (.bool true)/\Below W.heap.size W w':=
 aga (av5 given) (us:=[v]) W b (aCV k l a) hb
end Go.Proofs.YtmehamiifalmaaaGreatDoor
