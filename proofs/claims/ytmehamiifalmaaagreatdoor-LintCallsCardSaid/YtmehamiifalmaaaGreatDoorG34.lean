/- LintCalls: part 35 of its proof. -/
import Derived.Test.YtmehamiifalmaaaGreatDoorG31
import Derived.Test.YtmehamiifalmaaaGreatDoorG33
import Derived.ProofKit
import Derived.OpenShut
import Derived.Test.YtmehamiifalmaaaGreatDoorG26
set_option linter.all false
namespace Go.Proofs.YtmehamiifalmaaaGreatDoor
open Go Go.Ab Go.Proofs.Tryz
open Go.ChangeShapes Go.WideShapes Go.ChangeAt Go.RowKit
set_option maxRecDepth 100000
def given:CS:=⟨K.aqs,akv,S.akX,S.akW⟩
def s_(W:World):St:={cells:=λb o=>match W.cell? ⟨b,o,none⟩ with|some v=>if v.oneCell'=true then some v else none|none=>none,loc:=λ_=>none,own:=λ_ _=>none}
def X9{W:World}{b o}{v:Value}(h:W.cell? ⟨b,o,none⟩=some v)(a:v.oneCell'=true):(s_ W).cells b o=some v:=by simp[s_,h,a]
def afu{E}(i:ia E){f}{args}{us:List Value}(w:World)(j:aw (s_ w) args us)(h:aI E.P (run E) f args=some (.bool true))(hb:wQ E.P (·<w.heap.size) w):
  Calls E.P f us.toArray w λe w'=>e=.returned (.bool true)/\Below w.heap.size w w':=by
 have k1:∀b o v,(s_ w).cells b o=some v->w.cell? ⟨b,o,none⟩=some v:=by
  intro b o v a;simp[s_] at a;split at a
  ·rename_i x c;split at a
   ·cases a;exact c
   ·cases a
  ·cases a
 have k2:∀b o v,(s_ w).cells b o=some v->v.oneCell'=true:=by
  intro b o v a;simp[s_] at a;split at a
  ·split at a
   ·rename_i k;cases a;exact k
   ·cases a
  ·cases a
 have l:aW E.P (·<w.heap.size) w .empty (s_ w) w:=
  ⟨gL.refl _ _,hb,k1,k2,λ_ _=>⟨rfl,λ_=>rfl⟩,λid x c=>by simp[ab.get,ab.empty] at c,λid x c=>by simp[ab.get,ab.empty] at c,
   λid gg x x' c=>by simp[ab.get,ab.empty] at c⟩
 refine(GN l (G4 i) j h).2.mono ?_;rintro e w' ⟨u,rfl,bp,cW,d,g⟩;simp[ah] at g;subst g;exact⟨rfl,d.below.os,d.below.tape,d.below.output,d.below.size,d.below.block⟩
def X_{σ:St}{b}:∀(l:List Md) (off:Nat),(∀j x,l[j]? =some x->σ.cells b (off+j*2)=some (.string ⟨x.1.toArray⟩)/\σ.cells b (off+j*2+1)=some (.string ⟨x.2.toArray⟩))->bM σ b 2 off (l.map fN)
 |[],_,_=>by simp[bM]
 |x::l,off,h=>by
  show bM σ b 2 off (.agg [.str x.1,.str x.2]::l.map fN);simp[bM];refine⟨⟨.agg #[.string ⟨x.1.toArray⟩,.string ⟨x.2.toArray⟩],by simp[ah,aw],rfl,λj v a=> ?_⟩,X_ l (off+2) λj y a=> ?_⟩
  ·obtain⟨d,c⟩:=h 0 x rfl;simp at d c
   match j,a with
   |0,a=>simp[Value.cells] at a;subst a;exact d
   |1,a=>simp[Value.cells] at a;subst a;exact c
   |j+2,a=>simp[Value.cells] at a
  ·have:=h (j+1) y (by simpa using a);rw[show off+(j+1)*2=off+2+j*2 by omega] at this;exact this
def agr{W:World}{base}{a:Addr}{H:Type}{enc}{n}{y:DataW H×List MemPlace}(h:(W.cells? base a (prog.cellsOf 65)).bind (DataW.trod enc prog W base (λ_=>true) true n 65)=some y):
  ∃x:Md,W.cell? (a.add 0)=some (.string ⟨x.1.toArray⟩)/\W.cell? (a.add 1)=some (.string ⟨x.2.toArray⟩):=by
 have r:prog.cellsOf 65=2:=af;have d:prog.cellsOf 9=1:=af;rw[r,Option.bind_eq_some_iff] at h;obtain⟨cs,o,l⟩:=h;obtain⟨hb,k,i⟩:=World.cells?_some o;obtain⟨xs,m,rfl,_,_,s,f⟩:=DataW.trod_struct underlying65 l
 match cs,k with
 |[x0,b],_=>
  match xs,s with
  |[y0,g],_=>
   have f0:DataW.trod enc prog W base (λ_=>true) true m 9 [x0]=some y0:=by have q:DataW.trod enc prog W base (λ_=>true) true m 9 (([x0,b].drop 0).take (prog.cellsOf 9))=some y0:=f 0 _ rfl;rw[d] at q;exact q
   have j:DataW.trod enc prog W base (λ_=>true) true m 9 [b]=some g:=by have q:DataW.trod enc prog W base (λ_=>true) true m 9 (([x0,b].drop 1).take (prog.cellsOf 9))=some g:=f 1 _ rfl;rw[d] at q;exact q
   obtain⟨s0,c,_,_⟩:=aFH underlying9 f0;obtain⟨p,e,_,_⟩:=aFH underlying9 j;simp at c e;subst c e;exact⟨(s0.data.toList,p.data.toList),i 0 aa,i 1 aa⟩
def azx{W}{v}{base}{H:Type}{enc}{d:DataW H}{p}(K:Value.okWide prog W .any base 22 v)(h:DataW.Trod enc prog W 0 (λ_=>true) true 22 v d p):
  ∃(k:Nat) (l:List Md),l.length<=9223372036854775807/\aw (s_ W) [.vec (au k) (l.map fN)] [v]:=by
 obtain⟨fuel,G⟩:=h;obtain⟨a0,c,t,rfl⟩:=okWide_slice underlying22 K;rcases DataW.trod_slice underlying22 G with⟨g,_⟩|⟨a,len,cap,elems,rest,n,_,g,_,hb,I,hm,hlen,E,_,_⟩
 ·simp[Value.cells,Value.slice.injEq] at g;obtain⟨rfl,rfl,rfl⟩:=g;exact⟨0,[],ai,by simp[aw,ah,nV,au]⟩
 ·simp[Value.cells,Value.slice.injEq] at g;obtain⟨rfl,rfl,rfl⟩:=g;by_cases F:c=0
  ·subst F;exact⟨1,[],ai,by simp[aw,ah,nV,au]⟩
  ·have D:prog.cellsOf 65=2:=af;have e:∀i,i<c->∃x:Md,W.cell? ((a.add (i*2)).add 0)=some (.string ⟨x.1.toArray⟩)/\W.cell? ((a.add (i*2)).add 1)=some (.string ⟨x.2.toArray⟩):=by intro i hi;have q:=E i hi;rw[Φ aa] at q;rw[D] at q;exact agr (a:=a.add (i*2)) (by rw[D];exact q)
   obtain⟨b,off,z⟩:=a
   have w:z=none:=by
    obtain⟨x,u,_⟩:=e 0 aa
    cases z with
    |none=>rfl
    |some s=>exfalso;simp[Addr.add,World.cell?] at u;split at u<;>simp at u
   subst w;have m:∀i,i<c->∃x:Md,W.cell? ⟨b,off+i*2,none⟩=some (.string ⟨x.1.toArray⟩)/\W.cell? ⟨b,off+i*2+1,none⟩=some (.string ⟨x.2.toArray⟩):=by intro i hi;obtain⟨x,o,r⟩:=e i hi;simp[Addr.ox] at o r;exact⟨x,o,r⟩
   let f:Nat->Md:=λi=>if h:i<c then Classical.choose (m i h) else([],[]);have J:∀i,i<c->W.cell? ⟨b,off+i*2,none⟩=some (.string ⟨(f i).1.toArray⟩)/\W.cell? ⟨b,off+i*2+1,none⟩=some (.string ⟨(f i).2.toArray⟩):=by intro i hi;have q:=aEv (m i hi);simp[f,hi];exact q
   let l:List Md:=(List.range c).map f;have C:l.length=c:=by simp[l]
   have A:(l.map fN).length=c:=by simp[l]
   refine⟨1,l,by rw[C];unfold maxLen at hm;omega,?_⟩;simp only[aw,ah];refine⟨_,_,rfl,⟨some ⟨b,off,none⟩,t,by rw[A],by rw[A];exact I,trivial,.inr ⟨b,off,2,rfl,X_ l off λj x y=> ?_⟩⟩,rfl⟩;have B:j<c:=by rw[<-C];exact(ο.1 y).1
   have:x=f j:=by simp[l,aDC,List.getElem?_range B] at y;exact y.symm
   subst this;obtain⟨o,r⟩:=J j B;exact⟨X9 o rfl,X9 r rfl⟩
def P3:ia dv:=nS QZ rfl (λ_=>rfl) (by simp[QZ,aDI,aEq,ayd,aye,ayf,ayg,ayh,ayi,aBw]) (mK given.sI (mI (aby given) rfl))
def avK:ia cX:=nS PQ rfl (λ_=>rfl) (by simp[PQ,aDI,aEq,ayp,ayq,ayr,ays,ayt,ayu]) (mI avc rfl)
def avL:ia fZ:=nS Q0 rfl (λ_=>rfl) (by simp[Q0,aDI,aEq,ayC,ayD,ayE]) (mK S.akY (mK (mI P3 rfl) (mI (aby given) rfl)))
def avM:ia oK:=nS PV rfl (λ_=>rfl) (by simp[PV,aDI,aEq,ayO]) (mI P3 rfl)
def avN:ia fp:=nS Q4 rfl (λ_=>rfl) (by simp[Q4,aDI,aEq,aBK,ayV]) (mK (mI (abz given) rfl) (mK (mI (avg given) rfl) (mK (mI P3 rfl) (mK (mI avL rfl) (mK (mI avK rfl) (mI avM rfl))))))
def azy{W}{v}{base}{H:Type}{enc}{d:DataW H}{p}(m:Value.okWide prog W .any base 44 v)(h:DataW.Trod enc prog W 0 (λ_=>true) true 44 v d p):
  ∃s:Sp,ah (s_ W) (.agg [.str s.1,.i s.2]) v:=by
 obtain⟨cs,rfl,bZ⟩:=okWide_struct underlying44 m;obtain⟨fuel,j⟩:=h;obtain⟨xs,n,rfl,_,a,w,b⟩:=DataW.trod_struct underlying44 j;have t:prog.cellsOf 44=2:=af;have k:prog.cellsOf 9=1:=af;have o:prog.cellsOf 3=1:=af;obtain⟨u⟩:=cs;simp only[Value.cells] at a b;rw[t] at a
 match u,a with
 |[x0,c],_=>
  match xs,w with
  |[y0,g],_=>
   have f0:DataW.trod enc prog W 0 (λ_=>true) true n 9 [x0]=some y0:=by have q:DataW.trod enc prog W 0 (λ_=>true) true n 9 (([x0,c].drop 0).take (prog.cellsOf 9))=some y0:=b 0 _ rfl;rw[k] at q;exact q
   have l:DataW.trod enc prog W 0 (λ_=>true) true n 3 [c]=some g:=by have q:DataW.trod enc prog W 0 (λ_=>true) true n 3 (([x0,c].drop 1).take (prog.cellsOf 3))=some g:=b 1 _ rfl;rw[o] at q;exact q
   obtain⟨s0,e,_⟩:=aFH underlying9 f0;obtain⟨r,f,_⟩:=DataW.trod_int underlying3 l;simp only[List.cons.injEq,and_true] at e f;subst e f;refine⟨(s0.data.toList,r),?_⟩;simp[ah,aw]
def azz{W:World}{v a}{k}{l:List Md}{s:Sp}(d:l.length<=9223372036854775807)(b:aw (s_ W) [.vec (au k) (l.map fN)] [v])(c:ah (s_ W) (.agg [.str s.1,.i s.2]) a)(hb:wQ prog (·<W.heap.size) W):
  Calls prog 4 #[v,a] W λe w'=>e=.returned (.bool true)/\Below W.heap.size W w':=
 afu avN (us:=[v,a]) W (by
  simp only[aw] at b⊢;obtain⟨u,us,h,f,h2⟩:=b;cases h
  exact⟨_,_,rfl,f,_,_,rfl,c,rfl⟩) (aBM k l d s) hb
end Go.Proofs.YtmehamiifalmaaaGreatDoor
