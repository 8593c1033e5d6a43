/- LintCalls: part 5 of its proof. -/
import Derived.Test.YtmehamiifalmaaaGreatDoorG3
import Derived.Lib.UnsafeStr
import Derived.Lib.Fields
import Derived.Lib.Bytealg
import Derived.Shelf.Unicode.DecodeAny
import Derived.Lib.ParseIntB
set_option linter.all false
namespace Go.Ab
open Go Go.RowKit
def aW.under{P}{B}{W0}{H}{σ}{w w':World}(a:aW P B W0 H σ w)(h:Below w.heap.size w w'):aW P B W0 H σ w':=by
 refine⟨a.below.trans (.of h a.size),a.base,λb o v e=> ?_,a.one,a.fresh,a.keys,λid x g=> ?_,a.inj⟩
 ·rw[h.cell (a.xS e)];exact a.cells b o v e
 ·have c:=a.obj id x g;refine c.bU σ.le_refl (λb hb=> ?_) (λ_=>rfl);obtain⟨b',d,_,f⟩:=c.aS;rw[hb] at d;cases d;exact⟨h.block b f,λo=>rfl⟩
def wE:List AV->Option (List UInt8)
 |[]=>some []
 | .int .u8 n::r=>if 0<=n/\n<256 then an (wE r) λl=>some (UInt8.ofNat n.toNat::l) else none
 |_::_=>none
def UI:∀{es:List AV} {l:List UInt8},wE es=some l->es=l.map λx=>.int .u8 x.toNat
 |[],l,h=>by simp[wE] at h;subst h;rfl
 |e::es,l,h=>by
  unfold wE at h;split at h
  ·rename_i a;cases a
  ·rename_i n r a;cases a;split at h
   ·rename_i d
    cases hb:wE es with
    |none=>rw[hb] at h;cases h
    |some l'=>rw[hb] at h;cases h;have c:(n.toNat:Int)=n:=aE3 d.1;have b:n.toNat<256:=aa;simp only[aDm,List.cons.injEq,AV.int.injEq,aEB];refine⟨?_,(@UI es) hb⟩;rw[UInt8.toNat_ofNat',Nat.mod_eq_of_lt (by simpa using b),c]
   ·cases h
  ·cases h
section
variable {P:Program} {B:Nat->Prop} {W0:World} {H:ab} {σ:St} {w:World}
def ES:AV->Bool| .val (.pointer none)=>true|_=>false
def Iy(id:Nat):AV->Bool| .ptr i 0=>i==id|_=>false
def tQ(f0:FuncId)(T:TypeId):ck:=λf args H=>
 if f=f0 then
  match args with
  |[.ptr id 0]=>match H.get id with
   |some (.cells (some t) [c,v])=>
    if t=T then(if ES c=true then some (.tup [],H.set id (.k t [.ptr id 0,v])) else if Iy id c=true then some (.tup [],H) else none) else none
   |_=>none
  |_=>none
 else none
def ae7{c}(h:ES c=true):c=.val (.pointer none):=by
 unfold ES at h;split at h
 ·rfl
 ·cases h
def ae8{c}{id}(h:Iy id c=true):c=.ptr id 0:=by
 unfold Iy at h;split at h
 ·simp at h;rw[h]
 ·cases h
def ae9(w:World)(b)(c:Array Value)(e)(v)(h:w.heap[b]? =some (.cells c e (0,0))):w.setCell ⟨b,0,none⟩ v=w.setRow b (c.setIfInBounds 0 v):=by
 have hb:b<w.heap.size:=(Δ.1 h).1;have hg:w.heap[b]=.cells c e (0,0):=(Δ.1 h).2;unfold World.setCell World.setRow;congr 1;apply Array.ext
 ·simp
 ·intro i h1 h2;simp[Array.getElem_modify];by_cases hi:b=i
  ·subst hi;simp[hg]
  ·simp[hi]
def ah6{f0}{T}(J:kG P f0)
  (z:∀(b) (w:World),w.cell? ⟨b,0,none⟩=some (.pointer (some ⟨b,0,none⟩))->Calls P f0 #[.pointer (some ⟨b,0,none⟩)] w λe w'=>e=.returned (.tuple #[])/\w'=w)
  (q:∀(b) (w:World),w.cell? ⟨b,0,none⟩=some (.pointer none)->w.shape? b=some (T,2)->w.frozen? ⟨b,0,none⟩=false->Calls P f0 #[.pointer (some ⟨b,0,none⟩)] w λe w'=>e=.returned (.tuple #[])/\w'=w.setCell ⟨b,0,none⟩ (.pointer (some ⟨b,0,none⟩))):
  dN P (tQ f0 T):=by
 intro f args H v H' a;unfold tQ at a;split at a
 ·rename_i E;subst E;refine⟨J,?_⟩;split at a
  ·rename_i id;split at a
   ·rename_i t c x hg;split at a
    ·rename_i s;subst s;intro B W0 σ w us h o;simp only[aw] at o;obtain⟨u,dW,rfl,p,rfl⟩:=o;simp[ah] at p;obtain⟨b,hb,rfl⟩:=p;obtain⟨b',r,e,j,q2,g,n,q5,y⟩:=h.obj id _ hg;rw[hb] at j;cases j;have:=y _ rfl;subst this;simp only[aw] at n;obtain⟨l,r1,G,d,D,r2,A,C,I⟩:=n;subst I A;have F:r=#[l,D]:=by apply aE7;simpa using G
     subst F;have k:w.cell? ⟨b,0,none⟩=some l:=by rw[cell_of_row g];rfl
     split at a
     ·rename_i i;rw[ae7 i] at d;simp[ah] at d;subst d;cases a;refine(q b w k (by simp[World.shape?,g]) (by simp[World.frozen?,g])).mono ?_;rintro e w' ⟨rfl,rfl⟩;refine⟨_,rfl,σ,Ext.refl B σ,?_,by simp[ah,aw]⟩;rw[ae9 w b _ _ _ g];refine h.VH hg hb g ?_;simp only[aw];exact⟨_,_,rfl,by simp[ah,hb],_,_,rfl,C,rfl⟩
     ·split at a
      ·rename_i i;rw[ae8 i] at d;simp[ah] at d;obtain⟨b2,m,rfl⟩:=d;rw[hb] at m;cases m;cases a;refine(z b w k).mono ?_;rintro e w' ⟨rfl,rfl⟩;exact⟨_,rfl,σ,Ext.refl B σ,h,by simp[ah,aw]⟩
      ·cases a
    ·cases a
   ·cases a
  ·cases a
 ·cases a
def wt(f0:FuncId)(T:TypeId):ck:=λf args H=>
 if f=f0 then
  match args with
  |[.ptr id 0]=>match H.get id with
   |some (.cells (some t) [_,.vec o es])=>
    if t=T then
     match o with
     | .nil=>if es.length=0 then some (.str [],H) else none
     | .own k=>match H.get k with
      |some (.bB n et)=>if et=5/\n=es.length/\n≠0 then an (wE es) λl=>some (.str l,H.del k) else none
      |_=>none
     |_=>none
    else none
   |_=>none
  |_=>none
 else none
def aeF(d:aW P B W0 H σ w){k n}{et}(l:H.get k=some (.bB n et)){g cap}(hg:σ.own k n=some (g,cap))(m):aW P B W0 (H.del k) σ (w.drew.freeze ⟨g,0,none⟩ m):=by
 have u:¬B g:=by obtain⟨b,vm,c,s,p,v,_⟩:=d.obj k _ l;rw[hg] at p;cases p;exact v
 have f:∀i,i≠g->(w.drew.freeze ⟨g,0,none⟩ m).heap[i]? =w.heap[i]? :=λi hi=>by
  unfold World.freeze;split
  ·rfl
  ·simp[aEO];rw[κ (λe=>hi e.symm)];rfl
 refine(d.del k).avW (b:=g) f (λo=> ?_) (d.below.trans ⟨?_,?_,?_,?_,λi hi=>f i (by rintro rfl;exact u hi)⟩) (λid y a t=> ?_)
 ·unfold World.freeze;split
  ·rfl
  ·simp[World.cell?,aEO];have r:w.drew.heap[g]? =w.heap[g]? :=rfl;rw[r]
   cases h:w.heap[g]? with
   |none=>rfl
   |some x=>cases x<;>rfl
 ·unfold World.freeze;split<;>rfl
 ·unfold World.freeze;split<;>rfl
 ·unfold World.freeze;split<;>rfl
 ·unfold World.freeze;split
  ·exact μ _
  ·show w.heap.size<=(Array.modify w.heap g _).size;simp
 ·have j:H.get id=some y/\id≠k:=by
   rw[ab.tz] at a;split at a
   ·cases a
   ·rename_i q;exact⟨a,λe=>q e.symm⟩
  exact j.2 (d.inj id k y _ j.1 l (by rw[t];simp[aS,hg]))
def afV{f0}{T}(hc:kG P f0)(V:bF P 5=some 1)
  (Y:∀(b) (p) (w:World),w.heap[b]? =some (.cells #[p,.slice none 0 0] T (0,0))->Calls P f0 #[.pointer (some ⟨b,0,none⟩)] w λe w'=>e=.returned (.string ⟨#[]⟩)/\w'=w.drew)
  (N:∀(b g cap) (p) (h:Array Value) (l:List UInt8) (w:World),w.heap[b]? =some (.cells #[p,.slice (some ⟨g,0,none⟩) l.length cap] T (0,0))->w.heap[g]? =some (.cells h 5 (0,0))->h.size=cap->l.length<=cap->cap<=maxLen->l≠[]->
   (∀j x,l[j]? =some x->w.cell? ⟨g,j,none⟩=some (.int .u8 x.toNat))->Calls P f0 #[.pointer (some ⟨b,0,none⟩)] w λe w'=>e=.returned (.string ⟨l.toArray⟩)/\w'=w.drew.freeze ⟨g,0,none⟩ l.length):
  dN P (wt f0 T):=by
 intro f args H v H' d;unfold wt at d;split at d
 ·rename_i hf;subst hf;refine⟨hc,?_⟩;split at d
  ·rename_i id;split at d
   ·rename_i t c o es hg;split at d
    ·rename_i R;subst R;intro B W0 σ w us q K;simp only[aw] at K;obtain⟨u,dW,rfl,A,rfl⟩:=K;simp[ah] at A;obtain⟨b,hb,rfl⟩:=A;obtain⟨b',O,e,I,q2,z,J,q5,W⟩:=q.obj id _ hg;rw[hb] at I;cases I;have:=W _ rfl;subst this;simp only[aw] at J;obtain⟨C,r1,e1,zd,u1,F,Z,D,e3⟩:=J;subst e3 Z;have eZ:O=#[C,u1]:=by apply aE7;simpa using e1
     subst eZ;have E:=D;simp[ah] at D;obtain⟨a,cap,rfl,hle,y,qG⟩:=D;split at d
     ·split at d
      ·rename_i S;simp[nV] at y;obtain⟨rfl,_,rfl⟩:=y;rw[S] at z;cases d;refine(Y b C w z).mono ?_;rintro e w' ⟨rfl,rfl⟩;exact⟨_,rfl,σ,Ext.refl B σ,q.drew,by simp[ah]⟩
      ·cases d
     ·rename_i k;split at d
      ·rename_i n et G;split at d
       ·rename_i X;obtain⟨rfl,rfl,M⟩:=X
        cases oN:wE es with
        |none=>simp[oN,an] at d
        |some l=>
         simp[oN,an] at d;obtain⟨rfl,rfl⟩:=d;have r:=UI oN;have i:es.length=l.length:=by rw[r];simp
         simp[nV] at y;obtain⟨g,m,rfl⟩:=y;obtain⟨g',vm,h,s,p1,p2,p3,p4,p5,p6,p7,p8,p9⟩:=q.obj k _ G;rw[m] at p1;cases p1;rw[V] at p4;cases p4;have Q:l≠[]:=by rintro rfl;exact M (by rw[i];rfl)
         have oz:∀j x,l[j]? =some x->w.cell? ⟨g,j,none⟩=some (.int .u8 x.toNat):=by
          intro j x hj;have hw:fF 1 es=true:=by rw[r];exact Ug l
          obtain⟨a2,aAl,us,e4,_,_,F,_,iN,_⟩:=MP q E hw;cases e4;have S4:es.flatMap AV.cells=es:=by rw[r];exact Uo l
          rw[S4] at F;have U:es[j]? =some (.int .u8 x.toNat):=by rw[r];simp[hj]
          obtain⟨u,A,L⟩:=F.get U;simp[ah] at L;subst L;have:=iN _ rfl j _ A;rw[Addr.ox] at this;simpa using this
         rw[i] at z;refine(N b g cap C h l w z p3 (by simpa using p5) aa p7 Q oz).mono ?_;rintro e w' ⟨rfl,rfl⟩;exact⟨_,rfl,σ,Ext.refl B σ,aeF q G m _,by simp[ah]⟩
       ·cases d
      ·cases d
     ·cases d
    ·cases d
   ·cases d
  ·cases d
 ·cases d
def bQ(a b:ck):ck:=λf args H=>match a f args H with|some r=>some r|none=>b f args H
def mK{a b:ck}(c:dN P a)(hb:dN P b):dN P (bQ a b):=by
 intro f args H v H' h;unfold bQ at h;split at h
 ·rename_i r d;cases h;exact c f args H v H' d
 ·exact hb f args H v H' h
end
section
variable {P:Program} {B:Nat->Prop} {W0:World} {H:ab} {σ:St} {w:World}
def Ai(f0:FuncId):ck:=λf args H=>
 match args with
 |[.str l,.int .u8 c]=>if f=f0 then some (.i (Lib.indexByte l c.toNat.toUInt8),H) else none
 |_=>none
def agQ{f0}(m:kG P f0)(h:∀(s:ByteArray) (c:Int) (w),Calls P f0 #[.string s,.int .u8 c] w λe w'=>e=.returned (.i (Lib.indexByte s.data.toList c.toNat.toUInt8))/\w'=w):dN P (Ai f0):=by
 intro f args H v H' a;unfold Ai at a;split at a
 ·rename_i l c;split at a
  ·rename_i j;subst j;cases a;refine⟨m,?_⟩;intro B W0 σ w us k d;simp only[aw] at d;obtain⟨u,dW,rfl,g,u2,Df,rfl,b,rfl⟩:=d;simp only[ah] at g b;subst g b;refine(h ⟨l.toArray⟩ c w).mono ?_;rintro e w' ⟨rfl,rfl⟩;exact⟨_,rfl,σ,Ext.refl B σ,k,by simp[ah]⟩
  ·cases a
 ·cases a
end
section
variable {P:Program} {B:Nat->Prop} {W0:World} {H:ab} {σ:St} {w:World}
end
end Go.Ab
namespace Go.Ab
open Go
def dec:List UInt8->Nat×Nat
 |[]=>(65533,0)
 |a::l=>Lib.decodeN (l.length+1) a.toNat ((l[0]?).getD 0).toNat ((l[1]?).getD 0).toNat ((l[2]?).getD 0).toNat
def ah7(l:List UInt8)(i):(⟨l.toArray⟩:ByteArray).get! i=(l[i]?).getD 0:=by show l.toArray[i]! =_;rw[getElem!_def];simp[aEu];cases l[i]? <;>rfl
def aq6(l:List UInt8):Lib.decodeGo ⟨l.toArray⟩=dec l:=by
 cases l with
 |nil=>rfl
 |cons a l=>unfold Lib.decodeGo;rw[κ (by simp[ByteArray.size]),Lib.decode_at];simp[ah7,dec];simp[ByteArray.size]
def zT(f0:FuncId):ck:=λf args H=>
 match args with
 |[.str l]=>if f=f0 then some (.tup [.int .i32 (dec l).1,.i (dec l).2],H) else none
 |_=>none
section
open Go.RowKit
variable {P:Program}
def afW{f0}{g3 a}(k:kG P f0)(r:P.globalNamed "unicode/utf8.first" =some g3)(m:P.globalNamed "unicode/utf8.acceptRanges" =some a)
  (h:∀(s) (w:World),Lib.Utf8Tabs g3 a w->Calls P f0 #[.string s] w λe w'=>e=.returned (.tuple #[.int .i32 (Lib.decodeGo s).1,.i (Lib.decodeGo s).2])/\Below w.heap.size w w'):dN P (zT f0):=by
 intro f args H v H' b;unfold zT at b;split at b
 ·rename_i l;split at b
  ·rename_i p;subst p;cases b;refine⟨k,?_⟩;intro B W0 σ w us j n;simp only[aw] at n;obtain⟨u,dW,rfl,o,rfl⟩:=n;simp only[ah] at o;subst o
   have q:Lib.Utf8Tabs g3 a w:=by
    refine⟨λc k=> ?_,λi hi=>⟨?_,?_⟩⟩
    ·obtain⟨_,v,g,d⟩:=j.xZ.vC g3 c _ (.first g3 c r k);rw[g,d]
    ·obtain⟨_,v,g,d⟩:=j.xZ.vC a (2*i) _ (.lo a i m hi);rw[g,d]
    ·obtain⟨_,v,g,d⟩:=j.xZ.vC a (2*i+1) _ (.hi a i m hi);rw[g,d]
   refine(h ⟨l.toArray⟩ w q).mono ?_;rintro e w' ⟨rfl,hb⟩;rw[aq6];exact⟨_,rfl,σ,Ext.refl B σ,j.under hb,by simp[ah,aw]⟩
  ·cases b
 ·cases b
def yy(l:List UInt8):Bool:=match Lib.parseUintB 63 l with| .ok _=>true|_=>false
def Cm(f0:FuncId)(t:TypeId):ck:=λf args H=>
 match args with
 |[.str l,.int .i64 10,.int .i64 63]=>
  if f=f0/\l.length<=1099511627776 then
   match Lib.parseUintB 63 l with
   | .ok u=>some (.tup [.int .u64 u,.val .nilIface],H)
   |_=>some (.tup [.any,.iface t .any],H)
  else none
 |_=>none
def agR{f0}{t}{d c}(A:kG P f0)(z:P.globalNamed "strconv.ErrSyntax" =some d)(y:P.globalNamed "strconv.ErrRange" =some c)
  (x:∀s u w,s.size<=1099511627776->Lib.parseUintB 63 s.data.toList=.ok u->Calls P f0 #[.string s,.i 10,.i 63] w λe w'=>e=.returned (.tuple #[.int .u64 u,.nilIface])/\Below w.heap.size w w')
  (k1:∀s w,s.size<=1099511627776->(∀u,Lib.parseUintB 63 s.data.toList≠.ok u)->(∃v,w.cell? ⟨d,0,none⟩=some v/\(v=.nilIface\/∃t p,v=.iface t p))->(∃v,w.cell? ⟨c,0,none⟩=some v/\(v=.nilIface\/∃t p,v=.iface t p))->
   Calls P f0 #[.string s,.i 10,.i 63] w λe w'=>(∃(n:Int) (a:Addr),e=.returned (.tuple #[.int .u64 n,.iface t (.pointer (some a))]))/\Below w.heap.size w w'):dN P (Cm f0 t):=by
 intro f args H v H' b;unfold Cm at b;split at b
 ·rename_i l;split at b
  ·rename_i q;obtain⟨rfl,r⟩:=q;refine⟨A,?_⟩;intro B W0 σ w us g o;simp only[aw] at o;obtain⟨u,dW,rfl,m,u2,Df,rfl,h,u3,us3,rfl,k,rfl⟩:=o;simp only[ah] at m h k;subst m h k;have j:(⟨l.toArray⟩:ByteArray).size<=1099511627776:=by simpa[ByteArray.size] using r
   cases hp:Lib.parseUintB 63 l with
   |ok n=>simp[hp] at b;obtain⟨rfl,rfl⟩:=b;refine(x ⟨l.toArray⟩ n w j (by simpa using hp)).mono ?_;rintro e w' ⟨rfl,hb⟩;exact⟨_,rfl,σ,Ext.refl B σ,g.under hb,by simp[ah,aw]⟩
   |_=>simp[hp] at b;obtain⟨rfl,rfl⟩:=b;refine(k1 ⟨l.toArray⟩ w j (λu=>by simp[hp]) (g.xZ.vC d 0 _ (.syn d z)).2 (g.xZ.vC c 0 _ (.ran c y)).2).mono ?_;rintro e w' ⟨⟨n,a,rfl⟩,hb⟩;exact⟨_,rfl,σ,Ext.refl B σ,g.under hb,by simp[ah,aw];exact⟨_,_,⟨rfl,rfl⟩,rfl,_,rfl,_,rfl,rfl⟩⟩
  ·cases b
 ·cases b
end
attribute [go_sem] ne_eq aDX aFB Ι Χ
def Aj{E:Env}(n){P}{f}{args:List AV}{v}(h:aI P (eI E n) f args=some v):aI P (run E) f args=some v:=
 UC (λf args H r a=>nO.2 ⟨n,a⟩) h
def g_{E:Env}{f}{fn:Func}{c}(l:E.G f=true)(i:E.df f=false)(g:E.P.funcs[f]? =some fn)(b:fn.body=some c){args:List AV}(m:args.length<=fn.ntmps){H}{Q:AV×ab->Prop}
  (h:aD (aP E (run E) aJ c (jy args) H) λe a H'=>∃r,finish E.P fn.results.toList (e,a,H')=some r/\Q r):∃r,run E f args H=some r/\Q r:=by
 rw[BX l i g b m];obtain⟨e,a,H',k,r,d,j⟩:=kf h;rw[k];exact⟨r,d,j⟩
def qY{E:Env}{f}{fn:Func}{c}(l:E.G f=true)(j:E.df f=false)(g:E.P.funcs[f]? =some fn)(b:fn.body=some c){args:List AV}(k:args.length<=fn.ntmps){H}{r}
  (h:aD (aP E (run E) aJ c (jy args) H) λe a H'=>finish E.P fn.results.toList (e,a,H')=some r):run E f args H=some r:=by
 rw[BX l j g b k];obtain⟨e,a,H',i,d⟩:=kf h;rw[i];exact d
def fk{E:Env}{f}{fn:Func}{c}{args bW:List AV}{a:AV}(p:E.G f=true)(m:E.df f=false)(l:E.P.funcs[f]? =some fn)(h:fn.body=some c)(q:args.length<=fn.ntmps)(g:args.map AV.erase=bW)
  (d:AV.aq.go bW=true) (k:aD (aP E (run E) aJ c (jy bW) .empty) λe b H'=>∃v,pQ (finish E.P fn.results.toList (e,b,H'))=some v/\v.erase=a) (i:a.aq=true):
  aI E.P (run E) f args=some a:=by
 obtain⟨e,b,H',o,v,j,n⟩:=kf k;exact G7 p m l h q g d (aq5 (by rw[o];exact j)) n i
def tc{E:Env}{f}{fn:Func}{c}{args bW:List AV}{v:AV}(l:E.G f=true)(j:E.df f=false)(i:E.P.funcs[f]? =some fn)(e:fn.body=some c)(k:args.length<=fn.ntmps)(d:args.map AV.erase=bW)
  (a:AV.aq.go bW=true) (h:pQ (an (aP E (run E) aJ c (jy bW) .empty) (finish E.P fn.results.toList))=some v) (b:v.erase=v) (g:v.aq=true):aI E.P (run E) f args=some v:=G7 l j i e k d a h b g
def lW{g}(I:Nat->az->ab->Prop)(P:Ex->az->ab->Prop)
  (l:∀d α H,I d α H->aD (g α H) λe b H'=>(e=.normal/\∃c,c<d/\I c b H')\/(e≠.normal/\P e b H')) (d):∀α H,I d α H->aD (aJ g α H) P:=by
 induction d using Nat.strongRecOn with
 |_ d ih=>
  intro α H h;obtain⟨e,b,H',i,a⟩:=kf (l d α H h);rcases a with⟨a,c,f,k⟩|⟨a,f⟩
  ·subst a;rw[aG,i];exact ih c f b H' k
  ·rw[aG,i]
   cases e with
   |normal=>exact(a rfl).elim
   |exit j=>exact f
   |ret=>exact f
def jE{E}{call}{loop}{id}{c}{k}{α}{H}{P}
  (h:aD (aP E call loop c α H) λe d H'=>((e=.normal\/e=.exit id)/\aD (k d H') P)\/(e=.ret/\P .ret d H')):aD (an (aP E call loop (.block id c) α H) λr=>andThen r k) P:=by
 obtain⟨e,d,H',f,a⟩:=kf h;rw[Nq,f];rcases a with⟨a|a,b⟩|⟨a,b⟩
 ·subst a;exact b
 ·subst a;simp[an,tw];exact b
 ·subst a;exact b
def zJ{E}{call}{loop}{id}{c}{α}{H}{P}
  (h:aD (aP E call loop c α H) λe d H'=>((e=.normal\/e=.exit id)/\P .normal d H')\/(e=.ret/\P .ret d H')):aD (aP E call loop (.block id c) α H) P:=by
 obtain⟨e,d,H',f,a⟩:=kf h;rw[Nq,f];rcases a with⟨a|a,b⟩|⟨a,b⟩
 ·subst a;exact b
 ·subst a;simp[an,tw];exact b
 ·subst a;exact b
def gh(l)(k)(x y):aH (aH l k x) k y=aH l k y:=by
 induction l with
 |nil=>simp[aH]
 |cons p r ih=>obtain⟨a,z⟩:=p;by_cases h:a=k<;>simp_all [aH]
def eqo:Ab.Own->Ab.Own->Bool
 | .ro,.ro=>true
 | .nil,.nil=>true
 | .full,.full=>true
 |_,_=>false
def aq7:∀{a b:Ab.Own},eqo a b=true->a=b
 | .ro,.ro,_=>rfl
 | .nil,.nil,_=>rfl
 | .full,.full,_=>rfl
def S6:Value->Value->Bool
 | .nilIface,.nilIface=>true
 | .nilFunc,.nilFunc=>true
 | .pointer none,.pointer none=>true
 | .map none,.map none=>true
 |_,_=>false
def aq8{a b}(h:S6 a b=true):a=b:=by
 unfold S6 at h;split at h<;>first|rfl|cases h
mutual
def eqv(a:AV):AV->Bool:=
 match a with
 | .int k n=>λb=>match b with
  | .int k' n'=>decide (k=k')&&decide (n=n')
  |_=>false
 | .bool x=>λb=>match b with
  | .bool y=>x==y
  |_=>false
 | .str x=>λb=>match b with
  | .str y=>decide (x=y)
  |_=>false
 | .agg x=>λb=>match b with
  | .agg y=>CZ x y
  |_=>false
 | .tup x=>λb=>match b with
  | .tup y=>CZ x y
  |_=>false
 | .vec o x=>λb=>match b with
  | .vec o' y=>eqo o o'&&CZ x y
  |_=>false
 | .val x=>λb=>match b with
  | .val y=>S6 x y
  |_=>false
 |_=>λ_=>false
def CZ(a:List AV):List AV->Bool:=
 match a with
 |[]=>λb=>b.isEmpty
 |x::a=>λb=>match b with
  |y::b=>eqv x y&&CZ a b
  |[]=>false
end
mutual
def aap(a b:AV)(h:eqv a b=true):a=b:=by
 match a,b with
 | .int k n,.int k' n'=>simp[eqv] at h;rw[h.1,h.2]
 | .bool x,.bool y=>simp[eqv] at h;rw[h]
 | .str x,.str y=>simp[eqv] at h;rw[h]
 | .agg x,.agg y=>simp[eqv] at h;rw[HO x y h]
 | .tup x,.tup y=>simp[eqv] at h;rw[HO x y h]
 | .vec o x,.vec o' y=>simp[eqv] at h;rw[aq7 h.1,HO x y h.2]
 | .val x,.val y=>simp[eqv] at h;rw[aq8 h]
 | .rK,_=>simp[eqv] at h
 | .any,_=>simp[eqv] at h
 | .ptr _ _,_=>simp[eqv] at h
 | .rptr _,_=>simp[eqv] at h
 | .fn _ _ _,_=>simp[eqv] at h
 | .iface _ _,_=>simp[eqv] at h
 | .sl _ _ _ _,_=>simp[eqv] at h
 | .map _,_=>simp[eqv] at h
def HO(a b:List AV)(h:CZ a b=true):a=b:=by
 match a,b with
 |[],[]=>rfl
 |x::a,y::b=>simp[CZ] at h;rw[aap x y h.1,HO a b h.2]
end
def isV(v:AV):Option AV->Bool
 |some u=>eqv u v
 |none=>false
def O8{v}{o:Option AV}(h:isV v o=true):o=some v:=by
 cases o with
 |none=>cases h
 |some u=>exact Λ some (aap u v h)
def b8(l:List Nat):List UInt8:=l.map UInt8.ofNat
def okF(E:Env)(f:FuncId):Bool:=
 match E.P.funcs[f]? with
 |some fn=>match fn.body with
  |some c=> !(fn.name== "runtime.NumGoroutine")&&nF E fn.ntmps c
  |none=>false
 |none=>false
def WL{E:Env}{f:FuncId}(h:okF E f=true):∃fn c,E.P.funcs[f]? =some fn/\fn.body=some c/\(fn.name== "runtime.NumGoroutine")=false/\nF E fn.ntmps c=true:=by
 unfold okF at h
 cases h1:E.P.funcs[f]? with
 |none=>simp[h1] at h
 |some fn=>grind
def xK{E:Env}{f}(d:E.G f=false){args:List AV}{v:AV}{H}(a:AV.aq.go (args.map AV.erase)=true)(c:E.ext f (args.map AV.erase) .empty=some (v,H))(b:v.erase.aq=true):aI E.P (run E) f args=some v.erase:=by unfold aI;rw[ν a,zS d,c];simp only;rw[ν b]
def L8{E}(b:ia E){f}{args}{v}(h:aI E.P (run E) f args=some v)(H):Is E.P f args H v H:=by intro B W0 σ w us a c;exact(GN a (G4 b) c h).2
end Go.Ab
namespace Go.Proofs.YtmehamiifalmaaaGreatDoor
open Go Go.Ab
def isLet(b:UInt8):Bool:=decide (97<=b.toNat/\b.toNat<=122)||decide (65<=b.toNat/\b.toNat<=90)||decide (b.toNat=95)
def jK(b:UInt8):Bool:=decide (48<=b.toNat/\b.toNat<=57)
def kj(b:UInt8):Bool:=decide (b.toNat=32)||decide (b.toNat=9)||decide (b.toNat=10)||decide (b.toNat=13)
def bj(b:UInt8):Bool:=isLet b||jK b
def wK:Nat->List UInt8->List UInt8
 |0,r=>r
 |_+1,[]=>[]
 |n+1,c::t=>if kj c=true then wK n t else if c.toNat=35 then wK n (t.dropWhile λb=>decide (b.toNat≠10)) else c::t
def Mh:∀n m r,r.length<=n->r.length<=m->wK n r=wK m r
 |0,m,r,a,_=>by have:r=[]:=Ψ.1 aa;subst this;cases m<;>rfl
 |n+1,0,r,_,hm=>by have:r=[]:=Ψ.1 aa;subst this;rfl
 |n+1,m+1,[],_,_=>rfl
 |n+1,m+1,c::t,a,hm=>by simp at a hm;have hl:=(aEP (l:=t) (λb:UInt8=>decide (b.toNat≠10))).length_le;rw[wK,wK,Mh n m t aa aa,Mh n m _ aa aa]
def lead(r:List UInt8):List UInt8:=wK r.length r
def WM:lead []=[]:=rfl
def BL(c:UInt8)(t:List UInt8):lead (c::t)=if kj c=true then lead t else if c.toNat=35 then lead (t.dropWhile λb=>decide (b.toNat≠10)) else c::t:=by show wK (t.length+1) (c::t)=_;rw[wK,Mh t.length _ (t.dropWhile λb=>decide (b.toNat≠10)) ((aEP (l:=t) (λb:UInt8=>decide (b.toNat≠10))).length_le) (μ _)];rfl
def Yq:∀r:List UInt8,lead (r.dropWhile kj)=lead r
 |[]=>rfl
 |c::t=>by
  rw[BL];by_cases h:kj c=true
  ·rw[ν h,aEm,ν h,Yq t]
  ·rw[aEm,κ h,BL]
def WN(r):∃a,r=a++lead r:=by
 induction h:r.length using Nat.strongRecOn generalizing r with
 |_ n ih=>
  cases r with
  |nil=>exact⟨[],by rw[WM];rfl⟩
  |cons c t=>
   rw[BL];simp at h;split
   ·grind
   ·split
    ·have hl:=(aEP (l:=t) (λb:UInt8=>decide (b.toNat≠10))).length_le;obtain⟨a,d⟩:=ih _ aa (t.dropWhile λb=>decide (b.toNat≠10)) rfl;refine⟨c::t.takeWhile (λb=>decide (b.toNat≠10))++a,?_⟩;rw[adv,<-d,aD8,aFj]
    ·exact⟨[],rfl⟩
def Hp(r:List UInt8):(lead r).length<=r.length:=by obtain⟨a,b⟩:=WN r;have:=Λ List.length b;simp at this;omega
def agS(r:List UInt8):r.drop (r.length-(lead r).length)=lead r:=by
 obtain⟨a,b⟩:=WN r;have c:=Λ List.length b;simp at c;have:r.length-(lead r).length=a.length:=aa;rw[this];conv=>lhs;rw[b]
 simp
def kX:List UInt8->Option Nat
 |[]=>none
 |c::t=>if c.toNat=34 then some 1 else if c.toNat=10 then none else if c.toNat=92 then(match t with
  |[]=>none
  |_::t'=>(kX t').map (·+2)) else(kX t).map (·+1)
def ze:List UInt8->Bool
 |[]=>true
 |c::t=>if c.toNat=92 then(match t with
  |[]=>false
  |d::t'=>(decide (d.toNat=110)||decide (d.toNat=116)||decide (d.toNat=34)||decide (d.toNat=92))&&ze t') else !(decide (c.toNat<32)||decide (c.toNat=34))&&ze t
def wT:List (List UInt8):=[[100,101,102],[100,121,110],[101,108,115,101],[102,110],[105,102],[105,110,112,117,116],[105,110,116],[108,101,116],[112,114,105,110,116],[114,101,116,117,114,110],[115,116,114],[117,115,101],[119,104,105,108,101]]
def isKey(w:List UInt8):Bool:=wT.contains w
def oG:List UInt8:=[40,41,123,125,44,59,58,46,61,43,45,42,60]
def jR:List UInt8->Nat
 |[]=>0
 |c::t=>if c.toNat=61/\(t.head?.map UInt8.toNat)=some 61 then 2 else if oG.contains c=true then 1 else 0
def one:List UInt8->Except Nat (Nat×Nat)
 |[]=>.ok (0,0)
 |c::t=>
  if bj c=true then
   if isKey ((c::t).takeWhile bj)=true then .ok (2,((c::t).takeWhile bj).length)
   else if isLet c=true then(if 40<((c::t).takeWhile bj).length then .error 26 else .ok (1,((c::t).takeWhile bj).length))
   else if yy ((c::t).takeWhile bj)=true then .ok (3,((c::t).takeWhile bj).length) else .error 23
  else if c.toNat=34 then
   match kX t with
   |none=>.error 22
   |some n=>if ze (t.take (n-1))=true then .ok (4,n+1) else .error 22
  else if jR (c::t)=0 then .error 21 else .ok (5,jR (c::t))
def BF(c:UInt8)(t):kX (c::t)=if c.toNat=34 then some 1 else if c.toNat=10 then none else if c.toNat=92 then(match t with
  |[]=>none
  |_::t'=>(kX t').map (·+2)) else(kX t).map (·+1):=by cases t<;>rfl
def ah8(c:UInt8)(t):ze (c::t)=if c.toNat=92 then(match t with
  |[]=>false
  |d::t'=>(decide (d.toNat=110)||decide (d.toNat=116)||decide (d.toNat=34)||decide (d.toNat=92))&&ze t') else !(decide (c.toNat<32)||decide (c.toNat=34))&&ze t:=by cases t<;>rfl
def BM:∀t n,kX t=some n->1<=n/\n<=t.length
 |[],n,h=>by simp[kX] at h
 |c::t,n,h=>by
  rw[BF] at h;split at h
  ·grind
  ·split at h
   ·cases h
   ·split at h
    ·match t,h with
     |[],h=>cases h
     |d::t',h=>simp at h;obtain⟨m,hm,rfl⟩:=h;have:=BM t' m hm;simp;omega
    ·simp at h;obtain⟨m,hm,rfl⟩:=h;have:=BM t m hm;simp;omega
def x_{r:List UInt8}{k n}(h:one r=.ok (k,n)):n<=r.length/\(k=0↔r=[])/\(r≠[]->1<=n)/\k<=5:=by
 cases r with
 |nil=>simp[one] at h;obtain⟨rfl,rfl⟩:=h;simp
 |cons c t=>
  have hw:((c::t).takeWhile bj).length<=(c::t).length:=(aEQ (l:=c::t) bj).length_le;have kO:bj c=true->1<=((c::t).takeWhile bj).length:=λh=>by rw[aEn,ν h];simp
  simp[one] at h;split at h
  ·grind
  ·split at h
   ·split at h
    ·cases h
    ·rename_i m hm;have:=BM t m hm;split at h
     ·grind
     ·cases h
   ·split at h
    ·cases h
    ·rename_i h0;simp at h;obtain⟨rfl,rfl⟩:=h;refine⟨?_,ai,λ_=>aa,aa⟩;rw[jR];split
     ·rename_i a
      cases t with
      |nil=>simp at a
      |cons d t=>simp
     ·split<;>simp
def tW(s:List UInt8):Nat->Nat->Option Nat
 |0,_=>none
 |f+1,a=>if a<s.length then(if(dec (s.drop a)).1=65533/\(dec (s.drop a)).2=1 then some a else tW s f (a+(dec (s.drop a)).2)) else none
def bad(s:List UInt8):Option Nat:=tW s (s.length+1) 0
abbrev Tok:=Nat×Nat×List UInt8×List UInt8
def mj(t:Tok):AV:=.agg [.i t.1,.i t.2.1,.str t.2.2.1,.str t.2.2.2]
def qI(s:List UInt8):Nat->Nat->List Tok->Except (Nat×Nat) (List Tok)
 |0,a,_=>.error (0,a)
 |f+1,a,out=>
  match one (lead (s.drop a)) with
  | .error e=>.error (e,s.length-(lead (s.drop a)).length)
  | .ok (k,n)=>
   if 4000<=out.length then .error (5,s.length-(lead (s.drop a)).length)
   else if k=0 then .ok (out++[(k,s.length-(lead (s.drop a)).length,(s.drop a).take ((s.drop a).length-(lead (s.drop a)).length),(lead (s.drop a)).take n)])
   else qI s f (s.length-(lead (s.drop a)).length+n) (out++[(k,s.length-(lead (s.drop a)).length,(s.drop a).take ((s.drop a).length-(lead (s.drop a)).length),(lead (s.drop a)).take n)])
def lex(s:List UInt8):Except (Nat×Nat) (List Tok):=
 if 16384<s.length then .error (5,16384) else match bad s with
 |some a=>.error (20,a)
 |none=>qI s (s.length+1) 0 []
def ke{s:List UInt8}{i}{c}(h:s[i]? =some c):s.drop i=c::s.drop (i+1):=by obtain⟨hi,rfl⟩:=ο.1 h;exact Ο hi
def get_some{s:List UInt8}{i}(h:i<s.length):∃c,s[i]? =some c:=⟨_,Φ h⟩
def eg{s:List UInt8}{i}{c}(h:s[i]? =some c):i<s.length:=(ο.1 h).1
def fl(p:UInt8->Bool)(s:List UInt8)(i:Nat):Nat:=s.length-((s.drop i).dropWhile p).length
def O9(p)(r:List UInt8):(r.dropWhile p).length<=r.length:=(aEP (l:=r) p).length_le
def Yr(p):∀r:List UInt8,r.drop (r.length-(r.dropWhile p).length)=r.dropWhile p
 |[]=>rfl
 |c::r=>by
  by_cases h:p c=true
  ·rw[aEm,ν h];have:=O9 p r;rw[show(c::r).length-(r.dropWhile p).length=(r.length-(r.dropWhile p).length)+1 by simp;omega,aEc];exact Yr p r
  ·rw[aEm,κ h,aEZ];rfl
def El(p)(s:List UInt8)(i):fl p s i<=s.length:=Nat.sub_le _ _
def Hq(p)(s:List UInt8){i}(h:i<=s.length):i<=fl p s i:=by have:=O9 p (s.drop i);rw[atB] at this;unfold fl;omega
def Vg(p)(s:List UInt8){i}(h:i<=s.length):s.drop (fl p s i)=(s.drop i).dropWhile p:=by have a:=O9 p (s.drop i);rw[<-Yr p (s.drop i),List.drop_drop];rw[atB] at a⊢;congr 1;unfold fl;omega
def th{p}{s}{i}{c}(h:s[i]? =some c)(a:p c=true):fl p s i=fl p s (i+1):=by unfold fl;rw[ke h,aEm,ν a]
def MB{p}{s}{i}{c}(h:s[i]? =some c)(a:p c=false):fl p s i=i:=by have:=eg h;unfold fl;rw[ke h,aEm,κ (by rw[a];decide),Ι,atB];omega
def MW{p}{s:List UInt8}{i}(h:i=s.length):fl p s i=i:=by subst h;unfold fl;simp
def av6(p)(r:List UInt8):(r.takeWhile p).length+(r.dropWhile p).length=r.length:=by rw[<-List.length_append,aFj]
def Ns(p)(s:List UInt8){i}(h:i<=s.length):fl p s i=i+((s.drop i).takeWhile p).length:=by have:=av6 p (s.drop i);rw[atB] at this;unfold fl;omega
def Ys(p):∀r:List UInt8,r.take (r.takeWhile p).length=r.takeWhile p
 |[]=>rfl
 |c::r=>by
  by_cases h:p c=true
  ·rw[aEn,ν h,Ι,aEb,Ys p r]
  ·rw[aEn,κ h];rfl
def Co(s:List UInt8)(a b):(s.take b).drop a=(s.drop a).take (b-a):=List.drop_take
def MX(p)(s:List UInt8){i}(h:i<=s.length):(s.take (fl p s i)).drop i=(s.drop i).takeWhile p:=by rw[Co,Ns p s h,aFa,Ys]
def ic(b:UInt8):Bool:=decide (b.toNat≠10)
def bh(s:List UInt8)(i:Nat):Nat:=s.length-(lead (s.drop i)).length
def D'(s:List UInt8)(i):bh s i<=s.length:=Nat.sub_le _ _
def Ea(s:List UInt8){i}(h:i<=s.length):i<=bh s i:=by have:=Hp (s.drop i);rw[atB] at this;unfold bh;omega
def UJ(s:List UInt8){i}(h:i<=s.length):s.drop (bh s i)=lead (s.drop i):=by have a:=Hp (s.drop i);rw[<-agS (s.drop i),List.drop_drop];rw[atB] at a⊢;congr 1;unfold bh;omega
def aeG{s}{i}{c}(h:s[i]? =some c)(a:kj c=true):bh s i=bh s (i+1):=by unfold bh;rw[ke h,BL,ν a]
def afX{s:List UInt8}{i}(h:i<=s.length):bh s (fl kj s i)=bh s i:=by unfold bh;rw[Vg kj s h,Yq]
def UK{s}{i}{c:UInt8}(h:s[i]? =some c)(hb:kj c=false)(a:c.toNat=35):bh s i=bh s (fl ic s i):=by
 have hi:=eg h;have b:ic c=true:=by simp[ic,a]
 unfold bh;rw[th h b,Vg ic s aa,ke h,BL,κ (by rw[hb];decide),ν a];rfl
def UL{s}{i}{c:UInt8}(h:s[i]? =some c)(hb:kj c=false)(a:c.toNat≠35):bh s i=i:=by have hi:=eg h;unfold bh;rw[ke h,BL,κ (by rw[hb];decide),κ a,Ι,atB];omega
def Vh{s:List UInt8}{i}(h:i=s.length):bh s i=i:=by subst h;unfold bh;rw[List.drop_length,WM];rfl
def F_:Lib.NumEnd Nat->Bool
 | .ok _=>true
 |_=>false
def oJ(n:Nat)(l:List UInt8):Bool:=F_ (Lib.parseUintM 9223372036854775807 n l)
def WO(w)(h:w≠[]):yy w=oJ 0 w:=by unfold yy oJ F_ Lib.parseUintB;rw[κ h]<;>rfl
def ah9(n):oJ n []=true:=rfl
def aia{c}(h:jK c=false)(n)(l):oJ n (c::l)=false:=by
 have:¬(48<=c.toNat/\c.toNat<=57):=by simpa[jK] using h
 simp[oJ,Lib.parseUintM,this,F_]
def aib{c:UInt8}(h:jK c=true){n}(hn:(9223372036854775807-(c.toNat-48))/10<n)(l):oJ n (c::l)=false:=by
 have a:48<=c.toNat/\c.toNat<=57:=by simpa[jK] using h
 have d:9223372036854775807<n*10+(c.toNat-48):=aa;by_cases b:1844674407370955162<=n
 ·simp[oJ,Lib.parseUintM,a,b,F_]
 ·simp[oJ,Lib.parseUintM,a,b,d,F_]
def agT{c:UInt8}(h:jK c=true){n}(hn:n<=(9223372036854775807-(c.toNat-48))/10)(l):oJ n (c::l)=oJ (n*10+(c.toNat-48)) l/\n*10+(c.toNat-48)<=9223372036854775807:=by
 have a:48<=c.toNat/\c.toNat<=57:=by simpa[jK] using h
 have e:n*10+(c.toNat-48)<=9223372036854775807:=aa;have b:¬1844674407370955162<=n:=aa;have d:¬9223372036854775807<n*10+(c.toNat-48):=aa;refine⟨?_,e⟩;simp[oJ,Lib.parseUintM,a,b,d]
def aic:∀{c:UInt8} {w:List UInt8},isKey (c::w)=true->isLet c=true:=by
 intro c w h;have h:(c::w)∈wT:=by simpa[isKey] using h
 simp[wT] at h;rcases h with h|h|h|h|h|h|h|h|h|h|h|h|h<;>(obtain⟨rfl,_⟩:=h;decide)
def N5{c}(h:jK c=true):isLet c=false:=by
 have hd:48<=c.toNat/\c.toNat<=57:=by simpa[jK] using h
 simp[isLet];omega
def Yt{c}(w)(h:jK c=true):isKey (c::w)=false:=by
 cases hk:isKey (c::w)
 ·rfl
 ·have:=aic hk;rw[N5 h] at this;cases this
def kA(d:UInt8):Option UInt8:=if d.toNat=110 then some 10 else if d.toNat=116 then some 9 else if d.toNat=34 then some 34 else if d.toNat=92 then some 92 else none
def ig:List UInt8->Option (List UInt8)
 |[]=>some []
 |c::t=>if c.toNat=92 then(match t with
  |[]=>none
  |d::t'=>(kA d).bind λe=>(ig t').map (e::·)) else if c.toNat<32\/c.toNat=34 then none else(ig t).map (c::·)
def BN(c:UInt8)(t):ig (c::t)=if c.toNat=92 then(match t with
  |[]=>none
  |d::t'=>(kA d).bind λe=>(ig t').map (e::·)) else if c.toNat<32\/c.toNat=34 then none else(ig t).map (c::·):=by cases t<;>rfl
def O_:∀l:List UInt8,ze l=(ig l).isSome
 |[]=>rfl
 |c::t=>by
  rw[ah8,BN];by_cases h:c.toNat=92
  ·rw[ν h,ν h]
   cases t with
   |nil=>rfl
   |cons d t'=>
    show((decide (d.toNat=110)||decide (d.toNat=116)||decide (d.toNat=34)||decide (d.toNat=92))&&ze t')=((kA d).bind λe=>(ig t').map (e::·)).isSome;rw[O_ t'];unfold kA;by_cases a:d.toNat=110
    ·simp[a]
    ·grind
  ·rw[κ h,κ h,O_ t];by_cases h2:c.toNat<32\/c.toNat=34
   ·grind
   ·grind
def pre(out:List UInt8)(x:Option (List UInt8)):Option (List UInt8):=x.map (out++·)
def pre_nil(x):pre [] x=x:=by cases x<;>rfl
def pre_some(o t):pre o (some t)=some (o++t):=rfl
def WQ(o)(c)(x:Option (List UInt8)):pre o (x.map (c::·))=pre (o++[c]) x:=by cases x<;>simp[pre]
def WR:ig []=some []:=rfl
def WS{c:UInt8}(h:c.toNat=92):ig [c]=none:=by rw[BN,ν h]
def WT{c d e:UInt8}(h:c.toNat=92)(a:kA d=some e)(t)(o):pre o (ig (c::d::t))=pre (o++[e]) (ig t):=by rw[BN,ν h];show pre o ((kA d).bind λe=>(ig t).map (e::·))=_;rw[a,Option.bind_some,WQ]
def WU{c d:UInt8}(h:c.toNat=92)(a:kA d=none)(t):ig (c::d::t)=none:=by rw[BN,ν h];show((kA d).bind λe=>(ig t).map (e::·))=_;rw[a];rfl
def WV{c:UInt8}(h:c.toNat≠92)(a:c.toNat<32\/c.toNat=34)(t):ig (c::t)=none:=by rw[BN,κ h,ν a]
def VS{c:UInt8}(h:c.toNat≠92)(a:¬(c.toNat<32\/c.toNat=34))(t)(o):pre o (ig (c::t))=pre (o++[c]) (ig t):=by rw[BN,κ h,κ a,WQ]
def wu(s:List UInt8):Option (List UInt8):=
 if s.length<2\/s.head?≠some 34\/s[s.length-1]?≠some 34 then none else ig ((s.take (s.length-1)).drop 1)
def jv(s:List UInt8)(i:Nat):Option Nat:=(kX (s.drop i)).map (·+i)
def MY{s:List UInt8}{i}(h:s.length<=i):jv s i=none:=by rw[jv,aDk h];rfl
def UM{s}{i}{c:UInt8}(h:s[i]? =some c)(a:c.toNat=34):jv s i=some (i+1):=by rw[jv,ke h,BF,ν a,aEL];congr 1;omega
def WW{s}{i}{c:UInt8}(h:s[i]? =some c)(a:c.toNat=10):jv s i=none:=by rw[jv,ke h,BF,bV,ν a];rfl
def VT{s}{i}{c:UInt8}(h:s[i]? =some c)(a:c.toNat=92):jv s i=jv s (i+2):=by
 rw[jv,ke h,BF,bV,bV,ν a]
 cases hd:s[i+1]? with
 |none=>rw[List.getElem?_eq_none_iff] at hd;rw[MY (s:=s) (i:=i+2) aa,aDk hd];rfl
 |some d=>rw[ke hd,jv];show((kX (s.drop (i+1+1))).map (·+2)).map (·+i)=_;rw[Option.map_map];congr 1;funext n;show n+2+i=n+(i+2);omega
def UN{s}{i}{c:UInt8}(h:s[i]? =some c)(a:c.toNat≠34)(b:c.toNat≠10)(d:c.toNat≠92):jv s i=jv s (i+1):=by rw[jv,ke h,BF,κ a,κ b,κ d,jv,Option.map_map];congr 1;funext n;show n+1+i=n+(i+1);omega
def Yu{c}{t}(h:isLet c=true):one (c::t)=if isKey ((c::t).takeWhile bj)=true then .ok (2,((c::t).takeWhile bj).length) else if 40<((c::t).takeWhile bj).length then .error 26 else .ok (1,((c::t).takeWhile bj).length):=by
 have a:bj c=true:=by simp[bj,h]
 simp[one];rw[ν a,ν h]
def Yv{c}{t}(h:jK c=true):one (c::t)=if oJ 0 ((c::t).takeWhile bj)=true then .ok (3,((c::t).takeWhile bj).length) else .error 23:=by
 have b:bj c=true:=by simp[bj,h]
 have a:(c::t).takeWhile bj=c::t.takeWhile bj:=by rw[aEn,ν b]
 simp[one];rw[ν b,κ (by rw[a,Yt _ h];decide),κ (by rw[N5 h];decide),WO _ (by rw[a];simp)]
def av7{c:UInt8}(h:c.toNat=34):bj c=false:=by simp[bj,isLet,jK,h]
def Yw{c:UInt8}{t:List UInt8}(h:c.toNat=34):one (c::t)=match kX t with
  |none=>.error 22
  |some n=>if(ig (t.take (n-1))).isSome=true then .ok (4,n+1) else .error 22:=by
 simp[one];rw[κ (by rw[av7 h];decide),ν h]
 cases kX t with
 |none=>rfl
 |some n=>simp[O_]
def WX{c:UInt8}{t}(a:bj c=false)(b:c.toNat≠34):one (c::t)=if jR (c::t)=0 then .error 21 else .ok (5,jR (c::t)):=by simp[one];rw[κ (by rw[a];decide),κ b]
def sK(s:List UInt8)(i k n:Nat):Tok:=(k,bh s i,(s.take (bh s i)).drop i,(s.take (bh s i+n)).drop (bh s i))
def N6(s:List UInt8)(f i)(out:List Tok)(h:i<=s.length):qI s (f+1) i out=match one (s.drop (bh s i)) with
  | .error e=>.error (e,bh s i)
  | .ok (k,n)=>if 4000<=out.length then .error (5,bh s i) else if k=0 then .ok (out++[sK s i k n]) else qI s f (bh s i+n) (out++[sK s i k n]):=by
 have a:(s.drop i).take ((s.drop i).length-(lead (s.drop i)).length)=(s.take (bh s i)).drop i:=by rw[Co,atB];congr 1;unfold bh;omega
 rw[qI,UJ s h]
 cases ho:one (lead (s.drop i)) with
 |error e=>rfl
 |ok p=>
  obtain⟨k,n⟩:=p;have b:(lead (s.drop i)).take n=(s.take (bh s i+n)).drop (bh s i):=by rw[Co,UJ s h,aFa]
  show(if 4000<=out.length then _ else if k=0 then Except.ok (out++[(k,bh s i,(s.drop i).take ((s.drop i).length-(lead (s.drop i)).length),(lead (s.drop i)).take n)]) else qI s f (bh s i+n) (out++[(k,bh s i,(s.drop i).take ((s.drop i).length-(lead (s.drop i)).length),(lead (s.drop i)).take n)]))=_;rw[a,b];rfl
def VU(s:List UInt8):∀f i out,i<=s.length->s.length-i<f->qI s f i out=qI s (f+1) i out
 |0,i,out,h,d=>by omega
 |f+1,i,out,h,d=>by
  rw[N6 s f i out h,N6 s (f+1) i out h]
  cases ho:one (s.drop (bh s i)) with
  |error e=>rfl
  |ok p=>
   obtain⟨k,n⟩:=p;have a:=x_ ho;have hg:=Ea s h;have hle:=D' s i;simp only;by_cases c:4000<=out.length
   ·grind
   ·rw[κ c,κ c];by_cases b:k=0
    ·grind
    ·rw[κ b,κ b];have j:s.drop (bh s i)≠[]:=λl=>b (a.2.1.2 l);have h4:=a.2.2.1 j;have g:=a.1;rw[atB] at g;exact VU s f _ _ aa aa
def rN(s:List UInt8)(i:Nat)(out:List Tok):Except (Nat×Nat) (List Tok):=qI s (s.length-i+1) i out
def Yx(s:List UInt8)(i)(out:List Tok)(h:i<=s.length):∀f,s.length-i<f->qI s f i out=rN s i out
 |0,a=>by omega
 |f+1,a=>by
  by_cases b:s.length-i=f
  ·rw[rN,b]
  ·rw[<-VU s f i out h aa];exact Yx s i out h f aa
def N7(s:List UInt8)(i)(out:List Tok)(h:i<=s.length):rN s i out=match one (s.drop (bh s i)) with
  | .error e=>.error (e,bh s i)
  | .ok (k,n)=>if 4000<=out.length then .error (5,bh s i) else if k=0 then .ok (out++[sK s i k n]) else rN s (bh s i+n) (out++[sK s i k n]):=by
 rw[rN,N6 s _ i out h]
 cases ho:one (s.drop (bh s i)) with
 |error e=>rfl
 |ok p=>
  obtain⟨k,n⟩:=p;have a:=x_ ho;have hg:=Ea s h;have hle:=D' s i;simp only;by_cases c:4000<=out.length
  ·grind
  ·rw[κ c,κ c];by_cases b:k=0
   ·grind
   ·rw[κ b,κ b];have f:s.drop (bh s i)≠[]:=λg=>b (a.2.1.2 g);have h4:=a.2.2.1 f;have d:=a.1;rw[atB] at d;exact Yx s _ _ aa _ aa
def O'(s:List UInt8):lex s=if 16384<s.length then .error (5,16384) else match bad s with
  |some a=>.error (20,a)
  |none=>rN s 0 []:=rfl
def WY(s:List UInt8):∀d i out e a,i<=s.length->s.length-i<=d->rN s i out=.error (e,a)->e∈[5,21,22,23,26]
 |d,i,out,e,a,h,hd,f=>by
  rw[N7 s i out h] at f
  cases b:one (s.drop (bh s i)) with
  |error e'=>
   rw[b] at f;simp at f;obtain⟨rfl,_⟩:=f;revert b
   cases s.drop (bh s i) with
   |nil=>intro b;simp[one] at b
   |cons c t=>
    intro b;simp[one] at b;repeat' split at b
    all_goals first|(cases b;done)|(simp at b;subst b;simp)
  |ok p=>
   obtain⟨k,n⟩:=p;rw[b] at f;have g:=x_ b;have hg:=Ea s h;have hle:=D' s i;simp only at f;split at f
   ·grind
   ·split at f
    ·cases f
    ·rename_i j;have m:s.drop (bh s i)≠[]:=λo=>j (g.2.1.2 o);have h4:=g.2.2.1 m;have l:=g.1;rw[atB] at l
     cases d with
     |zero=>omega
     |succ d=>exact WY s d _ _ e a aa aa f
def alv{s}{e a}(h:lex s=.error (e,a)):e∈[5,20,21,22,23,26]:=by
 rw[O'] at h;split at h
 ·grind
 ·split at h
  ·grind
  ·have:=WY s s.length 0 [] e a aa aa h;simp at this⊢;omega
def pP(b:UInt8):Bool:=decide (128<=b.toNat)&&decide (b.toNat<192)
def yH(v least:Nat):Bool:= !(decide (v<least)||decide (1114111<v)||(decide (55296<=v)&&decide (v<57344)))
def B6(v least):yH v least=true↔(v≥least/\(v<55296\/(57344<=v/\v<=1114111))):=by simp[yH,aEA];omega
def cont:Nat->Nat->List UInt8->Option Nat
 |0,a,_=>some a
 |n+1,a,[]=>none
 |n+1,a,c::t=>if pP c=true then cont n (a*64+(c.toNat-128)) t else none
def alw{c}(h:pP c=false)(n a)(t):cont (n+1) a (c::t)=none:=by rw[cont,κ (by rw[h];decide)]
def aid{c:UInt8}(h:pP c=true)(n a)(t):cont (n+1) a (c::t)=cont n (a*64+(c.toNat-128)) t:=by rw[cont,ν h]
def gE(n first least:Nat)(t:List UInt8):Option (Nat×Nat):=
 if t.length+1<n then none else match cont (n-1) first t with
 |none=>none
 |some v=>if yH v least=true then some (v,n) else none
def lK(x:Option (Nat×Nat)):Nat×Nat:=x.getD (65533,1)
def zP(c:UInt8):pP c=true↔c.toNat/64=2:=by have:=c.toNat_lt;simp[pP];omega
def B7{c:UInt8}(h:¬pP c=true):¬c.toNat/64=2:=λa=>h ((zP c).2 a)
def Yy{b:UInt8}(h:b.toNat<128)(t):dec (b::t)=(b.toNat,1):=by simp[dec,Lib.decodeN,h]
def N8{b:UInt8}(h:128<=b.toNat)(h2:b.toNat<192\/248<=b.toNat)(t):dec (b::t)=(65533,1):=by have e:¬b.toNat<128:=aa;have c:¬b.toNat/32=6:=aa;have a:¬b.toNat/16=14:=aa;have d:¬b.toNat/8=30:=aa;simp[dec,Lib.decodeN,e,c,a,d]
def Yz{b:UInt8}(h:192<=b.toNat/\b.toNat<224)(t):dec (b::t)=lK (gE 2 (b.toNat-192) 128 t):=by
 have d:¬b.toNat<128:=aa;have i:b.toNat/32=6:=aa;have e:¬b.toNat/16=14:=aa;have f:¬b.toNat/8=30:=aa
 match t with
 |[]=>simp[dec,Lib.decodeN,gE,lK,d,e,f]
 |c::t=>
  by_cases k1:pP c=true
  ·have m1:=(zP c).1 k1;have v:b.toNat%32*64+c.toNat%64=(b.toNat-192)*64+(c.toNat-128):=aa;simp only[dec,Lib.decodeN,gE,cont,lK,Ι,aDu,aDR,κ d,i,m1,aEB,k1,aDp,v,aE1];rw[κ (show ¬(t.length+1+1<2) by omega),ν (show 1<t.length+1+1/\True by simp)];by_cases a:yH ((b.toNat-192)*64+(c.toNat-128)) 128=true
   ·rw[ν a,ν ((B6 _ _).1 a).1];rfl
   ·rw[κ a,κ (λg=>a ((B6 _ _).2 ⟨g,aa⟩))];rfl
  ·have m1:=B7 k1;simp[dec,Lib.decodeN,gE,cont,lK,d,e,f,m1,k1]
def VV{b:UInt8}(h:224<=b.toNat/\b.toNat<240)(t):dec (b::t)=lK (gE 3 (b.toNat-224) 2048 t):=by
 have a:¬b.toNat<128:=aa;have e:¬b.toNat/32=6:=aa;have k:b.toNat/16=14:=aa;have g:¬b.toNat/8=30:=aa
 match t with
 |[]=>simp[dec,Lib.decodeN,gE,lK,a,e,g]
 |[c]=>simp[dec,Lib.decodeN,gE,lK,a,e,g]
 |c::d::t=>
  by_cases k1:pP c=true
  ·have m1:=(zP c).1 k1;by_cases k2:pP d=true
   ·have i:=(zP d).1 k2;have v:b.toNat%16*4096+c.toNat%64*64+d.toNat%64=((b.toNat-224)*64+(c.toNat-128))*64+(d.toNat-128):=aa;simp only[dec,Lib.decodeN,gE,cont,lK,Ι,aDu,aDA,aDR,κ a,e,k,m1,i,aEB,false_and,and_true,k1,k2,aDp,aDf,v,aE1];rw[κ (show ¬(t.length+1+1+1<3) by omega),ν (show 1<t.length+1+1+1/\2<t.length+1+1+1 by omega)];by_cases f:yH (((b.toNat-224)*64+(c.toNat-128))*64+(d.toNat-128)) 2048=true
    ·rw[ν f,ν ((B6 _ _).1 f)];rfl
    ·rw[κ f,κ (λj=>f ((B6 _ _).2 j))];rfl
   ·have i:=B7 k2;simp[dec,Lib.decodeN,gE,cont,lK,a,e,g,i,k1,k2]
  ·have m1:=B7 k1;simp[dec,Lib.decodeN,gE,cont,lK,a,e,g,m1,k1]
def WZ{b:UInt8}(h:240<=b.toNat/\b.toNat<248)(t):dec (b::t)=lK (gE 4 (b.toNat-240) 65536 t):=by
 have a:¬b.toNat<128:=aa;have g:¬b.toNat/32=6:=aa;have f:¬b.toNat/16=14:=aa;have n:b.toNat/8=30:=aa
 match t with
 |[]=>simp[dec,Lib.decodeN,gE,lK,a,g,f]
 |[c]=>simp[dec,Lib.decodeN,gE,lK,a,g,f]
 |[c,d]=>simp[dec,Lib.decodeN,gE,lK,a,g,f]
 |c::d::e::t=>
  by_cases k1:pP c=true
  ·have m1:=(zP c).1 k1;by_cases k2:pP d=true
   ·have k:=(zP d).1 k2;by_cases j:pP e=true
    ·have l:=(zP e).1 j;have v:b.toNat%8*262144+c.toNat%64*4096+d.toNat%64*64+e.toNat%64=(((b.toNat-240)*64+(c.toNat-128))*64+(d.toNat-128))*64+(e.toNat-128):=aa;simp only[dec,Lib.decodeN,gE,cont,lK,Ι,aDu,aDA,aDR,κ a,g,f,n,m1,k,l,aEB,false_and,and_true,k1,k2,j,aDp,aDf,v,aE1];rw[κ (show ¬(t.length+1+1+1+1<4) by omega),ν (show 1<t.length+1+1+1+1/\2<t.length+1+1+1+1/\3<t.length+1+1+1+1 by omega)];by_cases i:yH ((((b.toNat-240)*64+(c.toNat-128))*64+(d.toNat-128))*64+(e.toNat-128)) 65536=true
     ·rw[ν i,ν ((B6 _ _).1 i)];rfl
     ·rw[κ i,κ (λm=>i ((B6 _ _).2 m))];rfl
    ·have l:=B7 j;simp[dec,Lib.decodeN,gE,cont,lK,a,g,f,l,k1,k2,j]
   ·have k:=B7 k2;simp[dec,Lib.decodeN,gE,cont,lK,a,g,f,k,k1,k2]
  ·have m1:=B7 k1;simp[dec,Lib.decodeN,gE,cont,lK,a,g,f,m1,k1]
def VW{n first least}{t:List UInt8}{r}(h:gE n first least t=some r):r.2=n/\n<=t.length+1:=by
 unfold gE at h;split at h
 ·cases h
 ·grind
def HP(b)(t:List UInt8):1<=(dec (b::t)).2/\(dec (b::t)).2<=t.length+1:=by
 by_cases a:b.toNat<128
 ·rw[Yy a];simp
 ·by_cases d:b.toNat<192\/248<=b.toNat
  ·rw[N8 aa d];simp
  ·have:∃n first least,2<=n/\dec (b::t)=lK (gE n first least t):=by
    by_cases h3:b.toNat<224
    ·exact⟨_,_,_,aa,Yz aa t⟩
    ·by_cases h4:b.toNat<240
     ·exact⟨_,_,_,aa,VV aa t⟩
     ·exact⟨_,_,_,aa,WZ aa t⟩
   obtain⟨n,first,least,hn,c⟩:=this
   rw[c]
   cases hd:gE n first least t with
   |none=>simp[lK]
   |some r=>have:=VW hd;simp[lK];omega
def VX(s:List UInt8):∀f i,s.length-i<f->tW s f i=tW s (f+1) i
 |0,i,b=>by omega
 |f+1,i,b=>by
  rw[tW,tW];by_cases h:i<s.length
  ·rw[ν h,ν h];obtain⟨c,a⟩:=get_some h;have:=HP c (s.drop (i+1));rw[<-ke a] at this;split
   ·rfl
   ·exact VX s f _ aa
  ·grind
def tB(s:List UInt8)(i:Nat):Option Nat:=tW s (s.length-i+1) i
def YA(s:List UInt8)(i):∀f,s.length-i<f->tW s f i=tB s i
 |0,a=>by omega
 |f+1,a=>by
  by_cases b:s.length-i=f
  ·rw[tB,b]
  ·rw[<-VX s f i aa];exact YA s i f aa
def bad_eq(s:List UInt8):bad s=tB s 0:=rfl
def UO{s:List UInt8}{i}(h:s.length<=i):tB s i=none:=by rw[tB,tW,bV]
def UP{s:List UInt8}{i}(h:i<s.length)(a:(dec (s.drop i)).1=65533)(b:(dec (s.drop i)).2=1):tB s i=some i:=by rw[tB,tW,ν h,ν ⟨a,b⟩]
def Mi{s:List UInt8}{i}(h:i<s.length)(a:¬((dec (s.drop i)).1=65533/\(dec (s.drop i)).2=1)):tB s i=tB s (i+(dec (s.drop i)).2):=by obtain⟨c,b⟩:=get_some h;have:=HP c (s.drop (i+1));rw[<-ke b] at this;rw[tB,tW,ν h,κ a];exact YA s _ _ aa
inductive Nd where
 |mk (k f t:Nat) (w:List UInt8) (a:Nat) (ks:List Nd)
 deriving Inhabited
def Nd.k:Nd->Nat| .mk k _ _ _ _ _=>k
def Nd.f:Nd->Nat| .mk _ f _ _ _ _=>f
def Nd.t:Nd->Nat| .mk _ _ t _ _ _=>t
def Nd.w:Nd->List UInt8| .mk _ _ _ w _ _=>w
def Nd.a:Nd->Nat| .mk _ _ _ _ a _=>a
def Nd.ks:Nd->List Nd| .mk _ _ _ _ _ ks=>ks
def eG:Nd:=.mk 0 0 0 [] 0 []
structure PS where
 at_:Nat
 err:Option Nat
abbrev PR:=Option (Nd×PS)
section
variable (l:List Tok)
def fA(s:PS):Tok:=(l[s.at_]?).getD (0,0,[],[])
def dB(s:PS)(x:List UInt8):Bool:=(decide ((fA l s).1=2)||decide ((fA l s).1=5))&&decide ((fA l s).2.2.2=x)
def jL(s:PS):PS:=match s.err with|none=>{s with err:=some s.at_}|some _=>s
def bc(s:PS)(x:List UInt8):Bool:=s.err.isNone&&dB l s x
def be(s:PS):PS:={s with at_:=s.at_+1}
def nw(s:PS)(x:List UInt8):PS:=if bc l s x then be s else s
def cA(x:List UInt8)(s:PS):PS:=if bc l s x then be s else jL s
def cT(s:PS):Option (List UInt8×Nat)×PS:=
 let a:=if(fA l s).1=1 then s else jL s
 if a.err.isNone then(some ((fA l s).2.2.2,s.at_),be a) else(none,a)
def eY(n:Nd):Option (List UInt8×Nat)->Nd
 |some (w,a)=>.mk n.k n.f n.t w a n.ks
 |none=>n
def iX(n:Nd)(l:List Nd):Nd:=.mk n.k n.f n.t n.w n.a (n.ks++l)
def ij(n:Nd)(t:Nat):Nd:=.mk n.k n.f t n.w n.a n.ks
def bn{α β:Type}(x:Option α)(f:α->Option β):Option β:=match x with|some a=>f a|none=>none
def fx{A B:Type}(a:A)(f:A->Option B):bn (some a) f=f a:=rfl
def al{A B:Type}{x}{f:A->Option B}{r:B}(h:bn x f=some r):∃a,x=some a/\f a=some r:=by
 cases x with
 |none=>cases h
 |some a=>exact⟨a,rfl,h⟩
def nu(one:PS->PR)(e:List UInt8):Nat->List Nd->PS->Option (List Nd×PS)
 |0,_,_=>none
 |n+1,ks,s=>if s.err.isNone then bn (one s) λr=>if bc l r.2 e then some (ks++[r.1],be r.2) else nu one e n (ks++[r.1]) (cA l [44] r.2) else some (ks,s)
def mc(one:PS->PR)(e:List UInt8)(n:Nat)(ks:List Nd)(s:PS):Option (List Nd×PS):=if bc l s e then some (ks,be s) else nu l one e n ks s
def Vi{one:PS->PR}{e:List UInt8}:∀{n:Nat} {ks:List Nd} {s:PS} {r:List Nd×PS},nu l one e n ks s=some r->r.1.length<=ks.length+n
 |0,ks,s,r,h=>by cases h
 |n+1,ks,s,r,h=>by
  rw[nu] at h;split at h
  ·obtain⟨x,hx,h⟩:=al h;split at h
   ·grind
   ·have:=Vi h;simp at this;omega
  ·cases h;simp
def BG{one}{e}{n}{ks:List Nd}{s:PS}{r:List Nd×PS}(h:mc l one e n ks s=some r):r.1.length<=ks.length+n:=by
 rw[mc] at h;split at h
 ·cases h;simp
 ·exact Vi l h
def nU(one:PS->PR):Nat->List Nd->PS->Option (List Nd×PS)
 |0,_,_=>none
 |n+1,ks,s=>if s.err.isNone then if bc l s [125] then some (ks,be s) else bn (one s) λr=>nU one n (ks++[r.1]) r.2 else some (ks,s)
def lL(k:Nat)(a:Nd)(one:PS->PR)(s:PS):PR:=bn (one s) λr=>some (.mk k a.f r.2.at_ [] 0 [a,r.1],r.2)
def k_(one:PS->PR):Nat->Nd->PS->PR
 |0,_,_=>none
 |n+1,a,s=>if s.err.isNone then
   if bc l s [43] then bn (lL 16 a one (be s)) λr=>k_ one n r.1 r.2
   else if bc l s [45] then bn (lL 17 a one (be s)) λr=>k_ one n r.1 r.2
   else some (a,s)
  else some (a,s)
def qA(one:PS->PR):Nat->Nd->PS->PR
 |0,_,_=>none
 |n+1,a,s=>if bc l s [42] then bn (lL 18 a one (be s)) λr=>qA one n r.1 r.2 else some (a,s)
def nk(one:PS->PR):Nat->Nd->PS->PR
 |0,_,_=>none
 |n+1,a,s=>if s.err.isNone then
   if bc l s [46] then
    let r:=cT l (be s)
    nk one n (ij (eY (.mk 19 a.f 0 [] 0 [a]) r.1) r.2.at_) r.2
   else if bc l s [40] then bn (mc l one [41] n [a] (be s)) λr=>nk one n (.mk 20 a.f r.2.at_ [] 0 r.1) r.2
   else some (a,s)
  else some (a,s)
inductive Task where
 |kind|field|typed|params|param|block|stmt|expr|sum|term|post|atom|entry
def qC(s:PS):Bool:=decide ((fA l s).1=1)&&(match l[s.at_+1]? with|some t=>decide (t.1=5)&&decide (t.2.2.2=[61])|none=>false)
def P:Nat->Task->PS->PR
 |0,_,_=>none
 |n+1,.kind,s=>
  if bc l s [105,110,116] then let d:=be s;some (.mk 29 s.at_ d.at_ [] 0 [],d)
  else if bc l s [115,116,114] then let d:=be s;some (.mk 30 s.at_ d.at_ [] 0 [],d)
  else if bc l s [100,121,110] then let d:=be s;some (.mk 31 s.at_ d.at_ [] 0 [],d)
  else if bc l s [123] then bn (mc l (P n .field) [125] n [] (be s)) λr=>some (.mk 32 s.at_ r.2.at_ [] 0 r.1,r.2)
  else if bc l s [102,110] then
   bn (mc l (P n .kind) [41] n [] (cA l [40] (be s))) λr=>
   bn (P n .kind (cA l [58] r.2)) λq=>some (.mk 34 s.at_ q.2.at_ [] 0 (r.1++[q.1]),q.2)
  else let d:=jL s;some (.mk 29 s.at_ d.at_ [] 0 [],d)
 |n+1,.field,s=>
  let r:=cT l s
  bn (P n .kind (cA l [58] r.2)) λq=>some (ij (iX (eY (.mk 33 s.at_ 0 [] 0 []) r.1) [q.1]) q.2.at_,q.2)
 |n+1,.typed,s=>if bc l s [58] then P n .kind (be s) else some (eG,s)
 |n+1,.params,s=>bn (mc l (P n .param) [41] n [] (cA l [40] s)) λr=>some (.mk 4 s.at_ r.2.at_ [] 0 r.1,r.2)
 |n+1,.param,s=>
  let r:=cT l s
  bn (P n .typed r.2) λq=>some (ij (iX (eY (.mk 5 s.at_ 0 [] 0 []) r.1) [q.1]) q.2.at_,q.2)
 |n+1,.block,s=>bn (nU l (P n .stmt) n [] (cA l [123] s)) λr=>some (.mk 6 s.at_ r.2.at_ [] 0 r.1,r.2)
 |n+1,.stmt,s=>
  let fin:=λ(x:Nd×PS)=>let d:=cA l [59] x.2;some (ij x.1 d.at_,d)
  if bc l s [108,101,116] then
   let r:=cT l (be s)
   bn (P n .typed r.2) λq=>bn (P n .expr (cA l [61] q.2)) λp=>fin (iX (iX (eY (.mk 7 s.at_ 0 [] 0 []) r.1) [q.1]) [p.1],p.2)
  else if bc l s [105,102] then
   bn (P n .expr (be s)) λc=>bn (P n .block c.2) λb=>
    if bc l b.2 [101,108,115,101] then bn (P n .block (be b.2)) λe=>some (.mk 9 s.at_ e.2.at_ [] 0 [c.1,b.1,e.1],e.2)
    else some (.mk 9 s.at_ b.2.at_ [] 0 [c.1,b.1,eG],b.2)
  else if bc l s [119,104,105,108,101] then
   bn (P n .expr (be s)) λc=>bn (P n .block c.2) λb=>some (.mk 10 s.at_ b.2.at_ [] 0 [c.1,b.1],b.2)
  else if bc l s [112,114,105,110,116] then bn (P n .expr (be s)) λp=>fin (.mk 11 s.at_ 0 [] 0 [p.1],p.2)
  else if bc l s [114,101,116,117,114,110] then bn (P n .expr (be s)) λp=>fin (.mk 12 s.at_ 0 [] 0 [p.1],p.2)
  else if qC l s then
   let r:=cT l s
   bn (P n .expr (cA l [61] r.2)) λp=>fin (iX (eY (.mk 8 s.at_ 0 [] 0 []) r.1) [p.1],p.2)
  else bn (P n .expr s) λp=>fin (.mk 13 s.at_ 0 [] 0 [p.1],p.2)
 |n+1,.expr,s=>bn (P n .sum s) λr=>
   if bc l r.2 [60] then lL 14 r.1 (P n .sum) (be r.2)
   else if bc l r.2 [61,61] then lL 15 r.1 (P n .sum) (be r.2)
   else some r
 |n+1,.sum,s=>bn (P n .term s) λr=>k_ l (P n .term) n r.1 r.2
 |n+1,.term,s=>bn (P n .post s) λr=>qA l (P n .post) n r.1 r.2
 |n+1,.post,s=>bn (P n .atom s) λr=>nk l (P n .expr) n r.1 r.2
 |n+1,.atom,s=>
  let t:=fA l s;let one:=λk=>let d:=be s;some (.mk k s.at_ d.at_ t.2.2.2 s.at_ [],d)
  if t.1=3 then one 21
  else if t.1=4 then one 22
  else if t.1=1 then let r:=cT l s;some (ij (eY (.mk 23 s.at_ 0 [] 0 []) r.1) r.2.at_,r.2)
  else if bc l s [105,110,112,117,116] then let d:=be s;some (.mk 24 s.at_ d.at_ [] 0 [],d)
  else if bc l s [40] then bn (P n .expr (be s)) λr=>let d:=cA l [41] r.2;some (.mk 25 s.at_ d.at_ [] 0 [r.1],d)
  else if bc l s [123] then bn (mc l (P n .entry) [125] n [] (be s)) λr=>some (.mk 26 s.at_ r.2.at_ [] 0 r.1,r.2)
  else if bc l s [102,110] then bn (P n .params (be s)) λa=>bn (P n .typed a.2) λb=>bn (P n .block b.2) λc=>some (.mk 28 s.at_ c.2.at_ [] 0 [a.1,b.1,c.1],c.2)
  else let d:=jL s;some (.mk 21 s.at_ d.at_ [] 0 [],d)
 |n+1,.entry,s=>
  let r:=cT l s
  bn (P n .expr (cA l [58] r.2)) λq=>some (ij (iX (eY (.mk 27 s.at_ 0 [] 0 []) r.1) [q.1]) q.2.at_,q.2)
def ny(s:PS):Nd×PS:=
 let a:=cA l [117,115,101] s;let m:=cT l a;let c:=cA l [46] m.2;let r:=cT l c;let b:=cA l [59] r.2
 (ij (eY (.mk 2 s.at_ 0 [] 0 [ij (eY (.mk 23 a.at_ 0 [] 0 []) m.1) m.2.at_]) r.1) b.at_,b)
def tX(n:Nat)(s:PS):PR:=
 let r:=cT l (cA l [100,101,102] s)
 bn (P l n .params r.2) λa=>bn (P l n .typed a.2) λb=>bn (P l n .block b.2) λc=>some (ij (iX (eY (.mk 3 s.at_ 0 [] 0 []) r.1) [a.1,b.1,c.1]) c.2.at_,c.2)
def nq:Nat->List Nd->PS->Option (List Nd×PS)
 |0,_,_=>none
 |n+1,ks,s=>if s.err.isNone&& !decide ((fA l s).1=0) then
   if dB l s [117,115,101] then let r:=ny l s;nq n (ks++[r.1]) r.2
   else if dB l s [100,101,102] then bn (tX l n s) λr=>nq n (ks++[r.1]) r.2
   else nq n ks (jL s)
  else some (ks,s)
def u_(n:Nat):PR:=bn (nq l n [] ⟨0,none⟩) λr=>some (.mk 1 0 r.2.at_ [] 0 r.1,r.2)
end
structure RS where
 at_:Nat
 bad:Option Nat
abbrev RR:=Option (Nd×RS)
section
variable (l:List Tok)
def cP(at_:Nat)(x:List UInt8):Option Bool:=(l[at_]?).map λt=>(decide (t.1=2)||decide (t.1=5))&&decide (t.2.2.2=x)
def wV(s:RS)(x:List UInt8):Option Bool:=if s.bad.isNone then cP l s.at_ x else some false
def bX(x:List UInt8)(s:RS):Option RS:=if s.bad.isNone then bn (cP l s.at_ x) λb=>some (if b then⟨s.at_+1,none⟩ else⟨s.at_,some s.at_⟩) else some s
def iF(n:Nd)(s:RS):RR:=if s.bad.isNone then bn (l[s.at_]?) λt=>some (if t.1=1 then(.mk n.k n.f n.t t.2.2.2 s.at_ n.ks,⟨s.at_+1,none⟩) else(n,⟨s.at_,some s.at_⟩)) else some (n,s)
def ended(n:Nd)(t:Nat)(ks:List Nd):Nd:=.mk n.k n.f t n.w n.a ks
def jw(one:RS->RR)(e:List UInt8)(first:Nat):Nat->List Nd->RS->Option (List Nd×RS)
 |0,_,_=>none
 |n+1,ks,s=>
  if s.bad.isNone then
   bn (if ks.length=first then cP l s.at_ e else some false) λb=>
   if b then some (ks,s) else
   bn (one s) λr=>
    bn (if r.2.bad.isNone then cP l r.2.at_ e else some true) λb=>
    if b then some (ks++[r.1],r.2) else bn (bX l [44] r.2) λa=>jw one e first n (ks++[r.1]) a
  else some (ks,s)
def oB(one:RS->RR):Nat->List Nd->RS->Option (List Nd×RS)
 |0,_,_=>none
 |n+1,ks,s=>if s.bad.isNone then bn (cP l s.at_ [125]) λb=>if b then some (ks,s) else bn (one s) λr=>oB one n (ks++[r.1]) r.2 else some (ks,s)
def pd(one:RS->RR):Nat->Nd->RS->RR
 |0,_,_=>none
 |n+1,a,s=>if s.bad.isNone then
   bn (cP l s.at_ [43]) λp=>bn (if p then some true else cP l s.at_ [45]) λq=>
   if q then bn (one ⟨s.at_+1,none⟩) λr=>pd one n (.mk (if p then 16 else 17) a.f r.2.at_ [] 0 [a,r.1]) r.2 else some (a,s)
  else some (a,s)
def sE(one:RS->RR):Nat->Nd->RS->RR
 |0,_,_=>none
 |n+1,a,s=>if s.bad.isNone then
   bn (cP l s.at_ [42]) λp=>if p then bn (one ⟨s.at_+1,none⟩) λr=>sE one n (.mk 18 a.f r.2.at_ [] 0 [a,r.1]) r.2 else some (a,s)
  else some (a,s)
def o_(one:RS->RR):Nat->Nd->RS->RR
 |0,_,_=>none
 |n+1,a,s=>if s.bad.isNone then
   bn (cP l s.at_ [46]) λp=>
   if p then bn (iF l (.mk 19 a.f 0 [] 0 []) ⟨s.at_+1,none⟩) λr=>o_ one n (ended r.1 r.2.at_ [a]) r.2
   else bn (cP l s.at_ [40]) λq=>
    if q then bn (jw l one [41] 1 n [a] ⟨s.at_+1,none⟩) λr=>bn (bX l [41] r.2) λb=>o_ one n (.mk 20 a.f b.at_ [] 0 r.1) b
    else some (a,s)
  else some (a,s)
def R:Nat->Task->RS->RR
 |0,_,_=>none
 |n+1,.kind,s=>
  if s.bad.isNone then
   bn (cP l s.at_ [105,110,116]) λb=>if b then some (.mk 29 s.at_ (s.at_+1) [] 0 [],⟨s.at_+1,none⟩) else
   bn (cP l s.at_ [115,116,114]) λb=>if b then some (.mk 30 s.at_ (s.at_+1) [] 0 [],⟨s.at_+1,none⟩) else
   bn (cP l s.at_ [100,121,110]) λb=>if b then some (.mk 31 s.at_ (s.at_+1) [] 0 [],⟨s.at_+1,none⟩) else
   bn (cP l s.at_ [123]) λb=>
    if b then bn (jw l (R n .field) [125] 0 n [] ⟨s.at_+1,none⟩) λr=>bn (bX l [125] r.2) λg=>some (.mk 32 s.at_ g.at_ [] 0 r.1,g)
    else bn (bX l [102,110] s) λd=>bn (bX l [40] d) λg=>
     bn (jw l (R n .kind) [41] 0 n [] g) λr=>bn (bX l [41] r.2) λh=>bn (bX l [58] h) λj=>
     bn (R n .kind j) λq=>some (.mk 34 s.at_ q.2.at_ [] 0 (r.1++[q.1]),q.2)
  else some (eG,s)
 |n+1,.field,s=>bn (iF l (.mk 33 s.at_ 0 [] 0 []) s) λx=>bn (bX l [58] x.2) λd=>bn (R n .kind d) λt=>some (ended x.1 t.2.at_ [t.1],t.2)
 |n+1,.typed,s=>bn (wV l s [58]) λb=>if b then R n .kind ⟨s.at_+1,none⟩ else some (eG,s)
 |n+1,.params,s=>bn (bX l [40] s) λd=>bn (jw l (R n .param) [41] 0 n [] d) λr=>bn (bX l [41] r.2) λg=>some (.mk 4 s.at_ g.at_ [] 0 r.1,g)
 |n+1,.param,s=>bn (iF l (.mk 5 s.at_ 0 [] 0 []) s) λx=>bn (R n .typed x.2) λt=>some (ended x.1 t.2.at_ [t.1],t.2)
 |n+1,.block,s=>bn (bX l [123] s) λd=>bn (oB l (R n .stmt) n [] d) λr=>bn (bX l [125] r.2) λg=>some (.mk 6 s.at_ g.at_ [] 0 r.1,g)
 |n+1,.stmt,s=>
  let fin:=λ(m:Nd) (ks:List Nd) (d:RS)=>bn (R n .expr d) λx=>bn (bX l [59] x.2) λg=>some (ended m g.at_ (ks++[x.1]),g)
  bn (cP l s.at_ [105,102]) λi=>bn (if i then some true else cP l s.at_ [119,104,105,108,101]) λw=>
  if w then
   bn (R n .expr ⟨s.at_+1,s.bad⟩) λc=>bn (R n .block c.2) λb=>
    if i then
     bn (wV l b.2 [101,108,115,101]) λe=>
     if e then bn (R n .block ⟨b.2.at_+1,b.2.bad⟩) λo=>some (.mk 9 s.at_ o.2.at_ [] 0 [c.1,b.1,o.1],o.2)
     else some (.mk 9 s.at_ b.2.at_ [] 0 [c.1,b.1,eG],b.2)
    else some (.mk 10 s.at_ b.2.at_ [] 0 [c.1,b.1],b.2)
  else
  bn (cP l s.at_ [108,101,116]) λe=>
  if e then bn (iF l (.mk 7 s.at_ 0 [] 0 []) ⟨s.at_+1,s.bad⟩) λx=>bn (R n .typed x.2) λt=>bn (bX l [61] t.2) λd=>fin x.1 [t.1] d
  else bn (cP l s.at_ [112,114,105,110,116]) λp=>
  if p then fin (.mk 11 s.at_ 0 [] 0 []) [] ⟨s.at_+1,s.bad⟩
  else bn (cP l s.at_ [114,101,116,117,114,110]) λq=>
  if q then fin (.mk 12 s.at_ 0 [] 0 []) [] ⟨s.at_+1,s.bad⟩
  else bn (l[s.at_]?) λt=>bn (if t.1=1 then cP l (s.at_+1) [61] else some false) λb=>
  if b then bn (iF l (.mk 8 s.at_ 0 [] 0 []) s) λx=>fin x.1 [] ⟨x.2.at_+1,x.2.bad⟩
  else fin (.mk 13 s.at_ 0 [] 0 []) [] s
 |n+1,.expr,s=>bn (R n .sum s) λr=>
   if r.2.bad.isNone then
    bn (cP l r.2.at_ [60]) λa=>bn (if a then some true else cP l r.2.at_ [61,61]) λb=>
    if b then bn (cP l r.2.at_ [61,61]) λk=>bn (R n .sum ⟨r.2.at_+1,none⟩) λq=>some (.mk (if k then 15 else 14) r.1.f q.2.at_ [] 0 [r.1,q.1],q.2)
    else some r
   else some r
 |n+1,.sum,s=>bn (R n .term s) λr=>pd l (R n .term) n r.1 r.2
 |n+1,.term,s=>bn (R n .post s) λr=>sE l (R n .post) n r.1 r.2
 |n+1,.post,s=>bn (R n .atom s) λr=>o_ l (R n .expr) n r.1 r.2
 |n+1,.atom,s=>
  if s.bad.isNone then
   bn (l[s.at_]?) λt=>
   let one:=λk=>some (Nd.mk k s.at_ (s.at_+1) t.2.2.2 s.at_ [],RS.mk (s.at_+1) none)
   if t.1=3 then one 21 else if t.1=4 then one 22 else if t.1=1 then one 23 else
   bn (cP l s.at_ [105,110,112,117,116]) λb=>if b then some (.mk 24 s.at_ (s.at_+1) [] 0 [],⟨s.at_+1,none⟩) else
   bn (cP l s.at_ [40]) λb=>if b then bn (R n .expr ⟨s.at_+1,none⟩) λx=>bn (bX l [41] x.2) λd=>some (.mk 25 s.at_ d.at_ [] 0 [x.1],d) else
   bn (cP l s.at_ [123]) λb=>
    if b then bn (jw l (R n .entry) [125] 0 n [] ⟨s.at_+1,none⟩) λr=>bn (bX l [125] r.2) λg=>some (.mk 26 s.at_ g.at_ [] 0 r.1,g)
    else bn (bX l [102,110] s) λd=>bn (R n .params d) λa=>bn (R n .typed a.2) λb=>bn (R n .block b.2) λc=>some (.mk 28 s.at_ c.2.at_ [] 0 [a.1,b.1,c.1],c.2)
  else some (eG,s)
 |n+1,.entry,s=>bn (iF l (.mk 27 s.at_ 0 [] 0 []) s) λx=>bn (bX l [58] x.2) λd=>bn (R n .expr d) λt=>some (ended x.1 t.2.at_ [t.1],t.2)
def A0(s:RS):RR:=
 bn (iF l (.mk 23 (s.at_+1) 0 [] 0 []) ⟨s.at_+1,s.bad⟩) λm=>bn (bX l [46] m.2) λb=>bn (iF l (.mk 2 s.at_ 0 [] 0 []) b) λx=>bn (bX l [59] x.2) λa=>
 some (ended x.1 a.at_ [ij m.1 m.2.at_],a)
def A1(n:Nat)(s:RS):RR:=
 bn (bX l [100,101,102] s) λs0=>bn (iF l (.mk 3 s.at_ 0 [] 0 []) s0) λx=>
 bn (R l n .params x.2) λa=>bn (R l n .typed a.2) λb=>bn (R l n .block b.2) λc=>some (ended x.1 c.2.at_ [a.1,b.1,c.1],c.2)
def rn:Nat->List Nd->RS->Option (List Nd×RS)
 |0,_,_=>none
 |n+1,ks,s=>if s.bad.isNone then bn (l[s.at_]?) λt=>if t.1=0 then some (ks,s) else
   bn (cP l s.at_ [117,115,101]) λb=>bn (if b then A0 l s else A1 l n s) λr=>rn n (ks++[r.1]) r.2
  else some (ks,s)
def CI(n:Nat):RR:=bn (rn l n [] ⟨0,none⟩) λr=>some (.mk 1 0 r.2.at_ [] 0 r.1,r.2)
end
structure iY(l:List Tok):Prop where
 ends:∀(i:Nat) (t:Tok),l[i]? =some t->t.1≠0->i+1<l.length
 keys:∀(i:Nat) (t:Tok),l[i]? =some t->t.1=2->t.2.2.2≠[61]
inductive Rl (l:List Tok):PS->RS->Prop
 |live (a:Nat) (h:a<l.length):Rl l ⟨a,none⟩ ⟨a,none⟩
 |dead (a a' b:Nat):Rl l ⟨a,some b⟩ ⟨a',some b⟩
def jO(k:Nat)(s a:PS):Prop:=a.err=none->s.err=none/\s.at_+k<=a.at_
def jO.refl(s):jO 0 s s:=λh=>⟨h,μ _⟩
def jO.trans{i j}{s b a}(h:jO i s b)(c:jO j b a):jO (i+j) s a:=λd=>by obtain⟨e,h2⟩:=c d;obtain⟨f,h4⟩:=h e;exact⟨f,aa⟩
def jO.less{i j}{s b}(h:jO i s b)(hj:j<=i):jO j s b:=λa=>⟨(h a).1,by have:=(h a).2;omega⟩
def jO.dead(k a b)(s):jO k s ⟨a,some b⟩:=λh=>by cases h
section
variable {l:List Tok}
def zQ{a}(h:a<l.length):∃t,l[a]? =some t:=⟨_,Φ h⟩
def iU{a}(e)(x)(h:a<l.length):cP l a x=some (dB l ⟨a,e⟩ x):=by obtain⟨t,b⟩:=zQ h;simp[cP,dB,fA,b]
def aie{a}{e}{x}{t}(b:l[a]? =some t)(h:dB l ⟨a,e⟩ x=true):t.1≠0:=by simp[dB,fA,b] at h;omega
def jh(c:iY l){a}{e}{x}(d:a<l.length)(h:dB l ⟨a,e⟩ x=true):a+1<l.length:=by obtain⟨t,b⟩:=zQ d;exact c.ends a t b (aie b h)
def BO(a b)(x):bc l ⟨a,some b⟩ x=false:=rfl
def YB(a)(x):bc l ⟨a,none⟩ x=dB l ⟨a,none⟩ x:=rfl
def ask{s}{t}(h:Rl l s t)(x):wV l t x=some (bc l s x):=by
 cases h with
 |live a h=>exact iU none x h
 |dead a a' b=>rfl
def VY(d:iY l){s}{t}{x}(h:Rl l s t)(c:bc l s x=true):∃a,s=⟨a,none⟩/\t=⟨a,none⟩/\a+1<l.length:=by
 cases h with
 |live a h=>exact⟨a,rfl,rfl,jh d h c⟩
 |dead a a' b=>cases c
def sk(d:iY l){s}{t}(h:Rl l s t)(x):∃t',bX l x t=some t'/\Rl l (cA l x s) t'/\jO 1 s (cA l x s):=by
 cases h with
 |dead a a' b=>exact⟨_,rfl,.dead a a' b,.dead 1 a b _⟩
 |live a h=>
  have c:=iU none x h
  cases hp:dB l ⟨a,none⟩ x with
  |true=>
   refine⟨⟨a+1,none⟩,by simp[bX,c,hp,bn],?_,?_⟩
   ·have:cA l x ⟨a,none⟩=⟨a+1,none⟩:=by simp[cA,bc,hp,be]
    rw[this];exact .live _ (jh d h hp)
   ·simp[cA,bc,hp,be,jO]
  |false=>
   refine⟨⟨a,some a⟩,by simp[bX,c,hp,bn],?_,?_⟩
   ·have:cA l x ⟨a,none⟩=⟨a,some a⟩:=by simp[cA,bc,hp,jL]
    rw[this];exact .dead a a a
   ·simp[cA,bc,hp,jL,jO]
def xN(i:iY l){s}{t}(h:Rl l s t)(n):∃q,iF l n t=some q/\Rl l (cT l s).2 q.2/\jO 1 s (cT l s).2/\((cT l s).2.err=none->q.1=eY n (cT l s).1):=by
 cases h with
 |dead a a' b=>
  have:cT l ⟨a,some b⟩=(none,⟨a,some b⟩):=by simp only[cT,jL];split<;>rfl
  rw[this];exact⟨(n,⟨a',some b⟩),rfl,.dead a a' b,.dead 1 a b _,λh=>by cases h⟩
 |live a h=>
  obtain⟨x,d⟩:=zQ h;have g:fA l ⟨a,none⟩=x:=by simp[fA,d]
  by_cases c:x.1=1
  ·have e:cT l ⟨a,none⟩=(some (x.2.2.2,a),⟨a+1,none⟩):=by simp[cT,g,c,be]
   rw[e];refine⟨(.mk n.k n.f n.t x.2.2.2 a n.ks,⟨a+1,none⟩),by simp[iF,d,bn,c],.live _ (i.ends a x d aa),λ_=>⟨rfl,μ _⟩,λ_=>rfl⟩
  ·have e:cT l ⟨a,none⟩=(none,⟨a,some a⟩):=by simp[cT,g,c,jL]
   rw[e];exact⟨(n,⟨a,some a⟩),by simp[iF,d,bn,c],.dead a a a,.dead 1 a a _,λh=>by cases h⟩
def Bo(l:List Tok)(k:Nat)(s:PS)(p:PR)(q:RR):Prop:=∃r a,p=some r/\q=some a/\Rl l r.2 a.2/\jO k s r.2/\(r.2.err=none->r.1=a.1)
def F'(l:List Tok)(k:Nat)(s:PS)(p:Option (List Nd×PS))(q:Option (List Nd×RS)):Prop:=∃r a,p=some r/\q=some a/\Rl l r.2 a.2/\jO k s r.2/\(r.2.err=none->r.1=a.1)
def One(l:List Tok)(a0:Nat)(one:PS->PR)(eR:RS->RR):Prop:=∀a,a0<=a->a<l.length->Bo l 1 ⟨a,none⟩ (one ⟨a,none⟩) (eR ⟨a,none⟩)
def One.less{a0 a1}{one:PS->PR}{eR:RS->RR}(h:One l a0 one eR)(ha:a0<=a1):One l a1 one eR:=λa h1 b=>h a aa b
def AA(l:List Tok)(one:RS->RR)(e:List UInt8)(first n:Nat)(ks:List Nd)(s:RS):Option (List Nd×RS):=bn (jw l one e first n ks s) λr=>bn (bX l e r.2) λa=>some (r.1,a)
def VZ(f:iY l){a0}{one:PS->PR}{eR:RS->RR}(p:One l a0 one eR)(e)(first):∀(n a:Nat) (ks:List Nd),a0<=a->a<l.length->l.length-a+1<=n->first<=ks.length->(ks.length=first->cP l a e=some false)->
  F' l 1 ⟨a,none⟩ (nu l one e n ks ⟨a,none⟩) (AA l eR e first n ks ⟨a,none⟩)
 |0,a,ks,_,h,E,_,_=>by omega
 |n+1,a,ks,w,h,E,hf,hi=>by
  obtain⟨r,u,G,B,y,v,D⟩:=p a w h;obtain⟨nd,s1⟩:=r;obtain⟨t,t1⟩:=u;have hb:(if ks.length=first then cP l a e else some false)=some false:=by grind
  simp[AA,nu,jw,G,B,fx,hb]
  cases y with
  |dead b k c=>
   cases n with
   |zero=>omega
   |succ n=>
    refine⟨(ks++[nd],⟨b,some c⟩),(ks++[t],⟨k,some c⟩),?_,?_,.dead b k c,.dead 1 b c _,λh=>by cases h⟩
    ·simp[BO,cA,jL,nu]
    ·simp[bn,bX]
  |live b i=>
   obtain⟨_,K⟩:=v rfl;have i_:a+1<=b:=K;have z:nd=t:=D rfl;subst z;have s:=iU none e i
   cases hp:dB l ⟨b,none⟩ e with
   |true=>
    refine⟨(ks++[nd],⟨b+1,none⟩),(ks++[nd],⟨b+1,none⟩),?_,?_,.live _ (jh f i hp),λ_=>⟨rfl,by simp only;omega⟩,λ_=>rfl⟩
    ·simp[bc,hp,be]
    ·simp[s,hp,bn,bX]
   |false=>
    obtain⟨t2,H,m,o⟩:=sk f (Rl.live b i) [44];simp[bc,hp,s,fx,H];generalize bG:cA l [44] ⟨b,none⟩=s2 at m o
    cases m with
    |dead c j d=>
     cases n with
     |zero=>omega
     |succ n=>
      refine⟨(ks++[nd],⟨c,some d⟩),(ks++[nd],⟨j,some d⟩),?_,?_,.dead c j d,.dead 1 c d _,λh=>by cases h⟩
      ·simp[nu]
      ·simp[jw,bn,bX]
    |live c M=>
     obtain⟨_,A⟩:=o rfl;have iN:b+1<=c:=A;obtain⟨q,L,x,F,J,I,C⟩:=VZ f p e first n c (ks++[nd]) aa M aa aX (λg=>by simp at g;omega)
     refine⟨q,L,x,F,J,λg=>⟨rfl,?_⟩,C⟩;have:=(I g).2;simp only at this⊢;omega
def Eb(c:iY l){one}{eR:RS->RR}{s:PS}{t:RS}(h:Rl l s t)(g:s.err=none->One l s.at_ one eR)(e){n}(ks:List Nd)(f:s.err=none->l.length-s.at_+1<=n)(h1:1<=n):
  F' l 1 s (mc l one e n ks s) (AA l eR e ks.length n ks t):=by
 cases h with
 |dead a a' b=>obtain⟨n,rfl⟩:∃k,n=k+1:=⟨n-1,aa⟩;exact⟨(ks,⟨a,some b⟩),(ks,⟨a',some b⟩),by simp[mc,BO,nu],by simp[AA,jw,bn,bX],.dead a a' b,.dead 1 a b _,λh=>by cases h⟩
 |live a h=>
  have d:=iU none e h
  cases hp:dB l ⟨a,none⟩ e with
  |true=>obtain⟨n,rfl⟩:∃k,n=k+1:=⟨n-1,aa⟩;exact⟨(ks,⟨a+1,none⟩),(ks,⟨a+1,none⟩),by simp[mc,bc,hp,be],by simp[AA,jw,d,hp,bn,bX],.live _ (jh c h hp),λ_=>⟨rfl,μ _⟩,λ_=>rfl⟩
  |false=>
   have:mc l one e n ks ⟨a,none⟩=nu l one e n ks ⟨a,none⟩:=by simp[mc,bc,hp]
   rw[this];exact VZ c (g rfl) e ks.length n a ks (μ _) h (f rfl) (μ _) (λ_=>by rw[d,hp])
def Vj(p:iY l){a0}{one:PS->PR}{eR:RS->RR}:∀(n:Nat) (ks:List Nd) (s:PS) (t:RS),Rl l s t->(s.err=none->One l a0 one eR)->(s.err=none->a0<=s.at_/\l.length-s.at_+1<=n)->1<=n->
  F' l 1 s (nU l one n ks s) (bn (oB l eR n ks t) λr=>bn (bX l [125] r.2) λz=>some (r.1,z))
 |0,ks,s,t,_,_,_,B=>by omega
 |n+1,ks,s,t,h,d,N,B=>by
  cases h with
  |dead a a' b=>exact⟨(ks,⟨a,some b⟩),(ks,⟨a',some b⟩),by simp[nU],by simp[oB,bn,bX],.dead a a' b,.dead 1 a b _,λh=>by cases h⟩
  |live a h=>
   have u:=iU none [125] h;have d:=d rfl;obtain⟨j,I⟩:=N rfl;simp only at j I
   cases hp:dB l ⟨a,none⟩ [125] with
   |true=>exact⟨(ks,⟨a+1,none⟩),(ks,⟨a+1,none⟩),by simp[nU,bc,hp,be],by simp[oB,u,hp,bn,bX],.live _ (jh p h hp),λ_=>⟨rfl,μ _⟩,λ_=>rfl⟩
   |false=>
    obtain⟨r,x,K,D,g,v,A⟩:=d a j h;obtain⟨nd,f⟩:=r;obtain⟨w,o⟩:=x;have E:1<=n:=aa
    have ih:=Vj p n (ks++[nd]) f o g (λ_=>d) (λM=>by
     have:=(v M).2;simp only at this
     omega) E
    obtain⟨q,P,y,J,O,L,H⟩:=ih;have F:nU l one (n+1) ks ⟨a,none⟩=nU l one n (ks++[nd]) f:=by simp[nU,bc,hp,K,bn]
    have C:oB l eR (n+1) ks ⟨a,none⟩=oB l eR n (ks++[w]) o:=by simp[oB,u,hp,D,bn]
    rw[F,C];by_cases e:f.err=none
    ·have i:=A e;simp only at i;subst i;exact⟨q,P,y,J,O,λG=>⟨rfl,by have:=(v e).2;have:=(L G).2;simp only at*;omega⟩,H⟩
    ·cases g with
     |live b hb=>exact(e rfl).elim
     |dead b m c=>obtain⟨n,rfl⟩:∃k,n=k+1:=⟨n-1,aa⟩;exact⟨(ks++[nd],⟨b,some c⟩),(ks++[w],⟨m,some c⟩),by simp[nU],by simp[oB,bn,bX],.dead b m c,.dead 1 b c _,λh=>by cases h⟩
def V0(m:iY l){a0}{one:PS->PR}{eR:RS->RR}:∀(n:Nat) (x x':Nd) (s:PS) (t:RS),Rl l s t->(s.err=none->One l a0 one eR)->(s.err=none->x=x'/\a0<=s.at_/\l.length-s.at_+1<=n)->1<=n->
  Bo l 0 s (k_ l one n x s) (pd l eR n x' t)
 |0,x,x',s,t,_,_,_,F=>by omega
 |n+1,x,x',s,t,h,g,L,F=>by
  cases h with
  |dead a a' b=>exact⟨(x,⟨a,some b⟩),(x',⟨a',some b⟩),by simp[k_],by simp[pd],.dead a a' b,.dead 0 a b _,λh=>by cases h⟩
  |live a h=>
   obtain⟨rfl,B,I⟩:=L rfl;have g:=g rfl;simp only at B I;have j:=iU none [43] h;have hm:=iU none [45] h
   have z:∀k,dB l ⟨a,none⟩ [43]=true\/dB l ⟨a,none⟩ [45]=true->Bo l 0 ⟨a,none⟩ (bn (lL k x one ⟨a+1,none⟩) λr=>k_ l one n r.1 r.2) (bn (eR ⟨a+1,none⟩) λr=>pd l eR n (.mk k x.f r.2.at_ [] 0 [x,r.1]) r.2):=by
    intro k C;have hb:a+1<l.length:=C.elim (jh m h) (jh m h);obtain⟨r,A,e,d,p,y,E⟩:=g (a+1) aa hb;obtain⟨nd,w⟩:=r;obtain⟨N,v⟩:=A;simp[lL,e,d,fx]
    obtain⟨q,O,D,J,M,K,H⟩:=V0 m n (.mk k x.f w.at_ [] 0 [x,nd]) (.mk k x.f v.at_ [] 0 [x,N]) w v p (λ_=>g) (λo=>by
     have u:=E o;simp only at u;subst u;have i:=(y o).2;simp only at i;refine⟨?_,aa,aa⟩
     cases p with
     |live b hb=>rfl
     |dead b b' c=>cases o) aa
    exact⟨q,O,D,J,M,λG=>⟨rfl,by have i:=K G;have:=(y i.1).2;have:=i.2;simp only at*;omega⟩,H⟩
   cases mz:dB l ⟨a,none⟩ [43] with
   |true=>
    have e:k_ l one (n+1) x ⟨a,none⟩=bn (lL 16 x one ⟨a+1,none⟩) λr=>k_ l one n r.1 r.2:=by simp[k_,bc,mz,be]
    have d:pd l eR (n+1) x ⟨a,none⟩=bn (eR ⟨a+1,none⟩) λr=>pd l eR n (.mk 16 x.f r.2.at_ [] 0 [x,r.1]) r.2:=by simp[pd,j,mz,bn]
    rw[e,d];exact z 16 (.inl mz)
   |false=>
    cases sZ:dB l ⟨a,none⟩ [45] with
    |true=>
     have e:k_ l one (n+1) x ⟨a,none⟩=bn (lL 17 x one ⟨a+1,none⟩) λr=>k_ l one n r.1 r.2:=by simp[k_,bc,mz,sZ,be]
     have d:pd l eR (n+1) x ⟨a,none⟩=bn (eR ⟨a+1,none⟩) λr=>pd l eR n (.mk 17 x.f r.2.at_ [] 0 [x,r.1]) r.2:=by simp[pd,j,hm,mz,sZ,bn]
     rw[e,d];exact z 17 (.inr sZ)
    |false=>exact⟨(x,⟨a,none⟩),(x,⟨a,none⟩),by simp[k_,bc,mz,sZ],by simp[pd,j,hm,mz,sZ,bn],.live a h,.refl _,λ_=>rfl⟩
def Vk(o:iY l){a0}{one:PS->PR}{eR:RS->RR}:∀(n:Nat) (x x':Nd) (s:PS) (t:RS),Rl l s t->(s.err=none->One l a0 one eR)->(s.err=none->x=x'/\a0<=s.at_/\l.length-s.at_+1<=n)->1<=n->
  Bo l 0 s (qA l one n x s) (sE l eR n x' t)
 |0,x,x',s,t,_,_,_,A=>by omega
 |n+1,x,x',s,t,h,d,J,A=>by
  cases h with
  |dead a a' b=>exact⟨(x,⟨a,some b⟩),(x',⟨a',some b⟩),by simp[qA,BO],by simp[sE],.dead a a' b,.dead 0 a b _,λh=>by cases h⟩
  |live a h=>
   obtain⟨rfl,w,F⟩:=J rfl;have d:=d rfl;simp only at w F;have k:=iU none [42] h
   cases mz:dB l ⟨a,none⟩ [42] with
   |true=>
    have H:qA l one (n+1) x ⟨a,none⟩=bn (lL 18 x one ⟨a+1,none⟩) λr=>qA l one n r.1 r.2:=by simp[qA,bc,mz,be]
    have B:sE l eR (n+1) x ⟨a,none⟩=bn (eR ⟨a+1,none⟩) λr=>sE l eR n (.mk 18 x.f r.2.at_ [] 0 [x,r.1]) r.2:=by simp[sE,k,mz,bn]
    rw[H,B];obtain⟨r,v,C,g2,i,u,z⟩:=d (a+1) aa (jh o h mz);obtain⟨nd,p⟩:=r;obtain⟨L,m⟩:=v;simp[lL,C,g2,fx]
    obtain⟨q,M,y,G,K,I,E⟩:=Vk o n (.mk 18 x.f p.at_ [] 0 [x,nd]) (.mk 18 x.f m.at_ [] 0 [x,L]) p m i (λ_=>d) (λg=>by
     have j:=z g;simp only at j;subst j;have e:=(u g).2;simp only at e;refine⟨?_,aa,aa⟩
     cases i with
     |live b hb=>rfl
     |dead b b' c=>cases g) aa
    exact⟨q,M,y,G,K,λD=>⟨rfl,by have e:=I D;have:=(u e.1).2;have:=e.2;simp only at*;omega⟩,E⟩
   |false=>exact⟨(x,⟨a,none⟩),(x,⟨a,none⟩),by simp[qA,bc,mz],by simp[sE,k,mz,bn],.live a h,.refl _,λ_=>rfl⟩
end
section
variable {l:List Tok}
def gj{s:PS}{t:RS}(h:Rl l s t)(c:s.err=none):t.at_=s.at_/\s.at_<l.length:=by
 cases h with
 |live a h=>exact⟨rfl,h⟩
 |dead a a' b=>cases c
def YC(k f t)(ks)(x):ij (eY (.mk k f 0 [] 0 ks) x) t=ended (eY (.mk k f 0 [] 0 []) x) t ks:=by cases x<;>rfl
def HQ(k f t)(ks ms)(x):ij (iX (eY (.mk k f 0 [] 0 ks) x) ms) t=ended (eY (.mk k f 0 [] 0 []) x) t (ks++ms):=by cases x<;>rfl
def MC(j:iY l){a0}{one}{eR}:∀n x x' s t,Rl l s t->(s.err=none->One l a0 one eR)->(s.err=none->x=x'/\a0<=s.at_/\l.length-s.at_+2<=n)->1<=n->
  Bo l 0 s (nk l one n x s) (o_ l eR n x' t)
 |0,x,x',s,t,_,_,_,M=>by omega
 |n+1,x,x',s,t,h,m,R,M=>by
  cases h with
  |dead a a' b=>exact⟨(x,⟨a,some b⟩),(x',⟨a',some b⟩),by simp[nk],by simp[o_],.dead a a' b,.dead 0 a b _,λh=>by cases h⟩
  |live a h=>
   obtain⟨rfl,K,P⟩:=R rfl;have m:=m rfl;simp only at K P;have w:=iU none [46] h;have hm:=iU none [40] h
   cases mz:dB l ⟨a,none⟩ [46] with
   |true=>
    have hb:=jh j h mz;obtain⟨q,N,k,o,u⟩:=xN j (Rl.live (a+1) hb) (.mk 19 x.f 0 [] 0 []);have B:nk l one (n+1) x ⟨a,none⟩=nk l one n (ij (eY (.mk 19 x.f 0 [] 0 [x]) (cT l ⟨a+1,none⟩).1) (cT l ⟨a+1,none⟩).2.at_) (cT l ⟨a+1,none⟩).2:=by simp[nk,bc,mz,be]
    have C:o_ l eR (n+1) x ⟨a,none⟩=o_ l eR n (ended q.1 q.2.at_ [x]) q.2:=by simp[o_,w,mz,bn,N]
    rw[B,C]
    obtain⟨r,i,p,A,E,D,z⟩:=MC j n (ij (eY (.mk 19 x.f 0 [] 0 [x]) (cT l ⟨a+1,none⟩).1) (cT l ⟨a+1,none⟩).2.at_) (ended q.1 q.2.at_ [x]) (cT l ⟨a+1,none⟩).2 q.2 k (λ_=>m) (λg=>by
     rw[YC,u g];have e:=(o g).2;simp only at e
     exact⟨by rw[(gj k g).1],aa,aa⟩) aa
    exact⟨r,i,p,A,E,λy=>⟨rfl,by have e:=D y;have:=(o e.1).2;have:=e.2;simp only at*;omega⟩,z⟩
   |false=>
    cases sZ:dB l ⟨a,none⟩ [40] with
    |true=>
     have hb:=jh j h sZ;obtain⟨r,i,O,g2,k,o,u⟩:=Eb j (Rl.live (a+1) hb) (λ_=>m.less (by simp only;omega)) [41] (n:=n) [x] (λ_=>by simp only;omega) aa;have B:nk l one (n+1) x ⟨a,none⟩=nk l one n (.mk 20 x.f r.2.at_ [] 0 r.1) r.2:=by simp[nk,bc,mz,sZ,be,O,bn]
     have C:o_ l eR (n+1) x ⟨a,none⟩=o_ l eR n (.mk 20 x.f i.2.at_ [] 0 i.1) i.2:=by unfold AA at g2;obtain⟨c,G,c2⟩:=al g2;obtain⟨d,L,J⟩:=al c2;cases J;simp[aD5] at G;simp[o_,w,hm,mz,sZ,bn,G,L]
     rw[B,C];obtain⟨Q,I⟩:=r;obtain⟨v,H⟩:=i
     obtain⟨q,S,p,A,E,D,z⟩:=MC j n (.mk 20 x.f I.at_ [] 0 Q) (.mk 20 x.f H.at_ [] 0 v) I H k (λ_=>m) (λg=>by
      have F:=u g;simp only at F;subst F;have e:=(o g).2;simp only at e;refine⟨?_,aa,aa⟩
      cases k with
      |live b hb=>rfl
      |dead b b' c=>cases g) aa
     exact⟨q,S,p,A,E,λy=>⟨rfl,by have e:=D y;have:=(o e.1).2;have:=e.2;simp only at*;omega⟩,z⟩
    |false=>exact⟨(x,⟨a,none⟩),(x,⟨a,none⟩),by simp[nk,bc,mz,sZ],by simp[o_,w,hm,mz,sZ,bn],.live a h,.refl _,λ_=>rfl⟩
def Task.du:Task->Nat
 | .kind=>3| .field=>4| .typed=>4| .params=>5| .param=>5| .block=>9| .stmt=>8| .expr=>7| .sum=>6| .term=>5| .post=>4| .atom=>3| .entry=>8
def Task.il:Task->Nat
 | .typed=>0
 |_=>1
def Fit(l:List Tok)(n:Nat):Prop:=∀task s t,Rl l s t->(s.err=none->16*(l.length-s.at_)+task.du<=n)->task.du<=n->(task=.stmt->s.err=none)->Bo l task.il s (P l n task s) (R l n task t)
def ya{n}(h:Fit l n)(task:Task)(c:task.il=1)(a0)(hb:16*(l.length-a0)+task.du<=n):One l a0 (P l n task) (R l n task):=λa h0 b=>by have:=h task ⟨a,none⟩ ⟨a,none⟩ (.live a b) (λ_=>by simp only;omega) aa (λ_=>rfl);rwa [c] at this
def G8{one}{e}{first n}{ks}{s}{r}(h:AA l one e first n ks s=some r):∃c,jw l one e first n ks s=some (r.1,c)/\bX l e c=some r.2:=by obtain⟨c,f,c2⟩:=al h;obtain⟨d,a,b⟩:=al c2;cases b;exact⟨c.2,f,a⟩
def aif{one}{n}{ks}{s}{r}(h:(bn (oB l one n ks s) λr=>bn (bX l [125] r.2) λb=>some (r.1,b))=some r):∃c,oB l one n ks s=some (r.1,c)/\bX l [125] c=some r.2:=by obtain⟨c,f,c2⟩:=al h;obtain⟨d,a,e⟩:=al c2;cases e;exact⟨c.2,f,a⟩
def sub{n k}(ih:Fit l n){task:Task}{s a:PS}{b}(h:Rl l a b)(f:jO k s a)(m:s.err=none->16*(l.length-s.at_)+task.du<=n+16*k)(g:task.du<=n)(i:task≠.stmt)(j:s.err=none->s.at_<l.length):Bo l task.il a (P l n task a) (R l n task b):=
 ih task a b h (λc=>by
  have d:=f c;have h2:=m d.1;have h3:=j d.1;have h4:=(gj h c).2
  omega) g (λe=>(i e).elim)
def Qc{s:PS}{t}(h:Rl l s t)(a:s.err=none):s.at_<l.length:=(gj h a).2
def agU(c:iY l){n}(ih:Fit l n)(s:PS)(t)(h:Rl l s t)(k:s.err=none->16*(l.length-s.at_)+4<=n+1)(hr:4<=n+1):Bo l 1 s (P l (n+1) .field s) (R l (n+1) .field t):=by obtain⟨q,j,g,a2,n2⟩:=xN c h (.mk 33 t.at_ 0 [] 0 []);obtain⟨t3,f,i,a3⟩:=sk c g [58];obtain⟨r,b,p4,e,d,a4,n4⟩:=sub ih (task:=.kind) i (a2.trans a3) (λa=>by have:=k a;simp[Task.du];omega) (by simp[Task.du];omega) ai (Qc h);refine⟨(ij (iX (eY (.mk 33 s.at_ 0 [] 0 []) (cT l s).1) [r.1]) r.2.at_,r.2),(ended q.1 b.2.at_ [b.1],b.2),by simp[P,p4,fx],by simp[R,j,f,e,fx],d,((a2.trans a3).trans a4).less (by simp[Task.il]),λa=> ?_⟩;have b2:=(a3 ((a4 a).1)).1;simp[HQ,n2 b2,n4 a,(gj h ((a2 b2).1)).1,(gj d a).1]
def agV(c:iY l){n}(ih:Fit l n)(s:PS)(t)(h:Rl l s t)(k:s.err=none->16*(l.length-s.at_)+8<=n+1)(hr:8<=n+1):Bo l 1 s (P l (n+1) .entry s) (R l (n+1) .entry t):=by obtain⟨q,j,g,a2,n2⟩:=xN c h (.mk 27 t.at_ 0 [] 0 []);obtain⟨t3,f,i,a3⟩:=sk c g [58];obtain⟨r,b,p4,e,d,a4,n4⟩:=sub ih (task:=.expr) i (a2.trans a3) (λa=>by have:=k a;simp[Task.du];omega) (by simp[Task.du];omega) ai (Qc h);refine⟨(ij (iX (eY (.mk 27 s.at_ 0 [] 0 []) (cT l s).1) [r.1]) r.2.at_,r.2),(ended q.1 b.2.at_ [b.1],b.2),by simp[P,p4,fx],by simp[R,j,f,e,fx],d,((a2.trans a3).trans a4).less (by simp[Task.il]),λa=> ?_⟩;have b2:=(a3 ((a4 a).1)).1;simp[HQ,n2 b2,n4 a,(gj h ((a2 b2).1)).1,(gj d a).1]
def agW(e:iY l){n}(ih:Fit l n)(s:PS)(t)(h:Rl l s t)(i:s.err=none->16*(l.length-s.at_)+5<=n+1)(hr:5<=n+1):Bo l 1 s (P l (n+1) .param s) (R l (n+1) .param t):=by obtain⟨q,g,f,a2,n2⟩:=xN e h (.mk 5 t.at_ 0 [] 0 []);obtain⟨r,b,p4,d,c,a4,n4⟩:=sub ih (task:=.typed) f a2 (λa=>by have:=i a;simp[Task.du];omega) (by simp[Task.du];omega) ai (Qc h);refine⟨(ij (iX (eY (.mk 5 s.at_ 0 [] 0 []) (cT l s).1) [r.1]) r.2.at_,r.2),(ended q.1 b.2.at_ [b.1],b.2),by simp[P,p4,fx],by simp[R,g,d,fx],c,(a2.trans a4).less (by simp[Task.il]),λa=> ?_⟩;have b2:=(a4 a).1;simp[HQ,n2 b2,n4 a,(gj h ((a2 b2).1)).1,(gj c a).1]
def agX(e:iY l){n}(ih:Fit l n)(s:PS)(t)(h:Rl l s t)(j:s.err=none->16*(l.length-s.at_)+4<=n+1)(hr:4<=n+1):Bo l 0 s (P l (n+1) .typed s) (R l (n+1) .typed t):=by
 have b:=ask h [58]
 cases ht:bc l s [58] with
 |false=>exact⟨(eG,s),(eG,t),by simp[P,ht],by simp[R,b,ht,bn],h,.refl s,λ_=>rfl⟩
 |true=>obtain⟨a,rfl,rfl,hb⟩:=VY e h ht;have f:=j rfl;simp only at f;obtain⟨r,d,p4,c,i,a4,n4⟩:=ih .kind ⟨a+1,none⟩ ⟨a+1,none⟩ (.live _ hb) (λ_=>by simp[Task.du];omega) (by simp[Task.du];omega) ai;exact⟨r,d,by simp[P,ht,be,p4],by simp[R,b,ht,bn,c],i,λg=>⟨rfl,by have:=(a4 g).2;simp[Task.il] at*;omega⟩,n4⟩
def afY(d:iY l){n}(ih:Fit l n)(s:PS)(t)(h:Rl l s t)(i:s.err=none->16*(l.length-s.at_)+5<=n+1)(hr:5<=n+1):Bo l 1 s (P l (n+1) .params s) (R l (n+1) .params t):=by
 obtain⟨t1,k,f,a1⟩:=sk d h [40]
 obtain⟨r,b,p4,j,e,a4,n4⟩:=Eb d f (n:=n) (one:=P l n .param) (eR:=R l n .param) (λa=>ya ih .param rfl _ (by
  have m:=a1 a;have h3:=i m.1;have h5:=(gj f a).2;simp[Task.du]
  omega)) [41] [] (λa=>by have:=i (a1 a).1;have:=(a1 a).2;omega) aa
 obtain⟨c,g,c2⟩:=G8 j;rw[Χ] at g;refine⟨(.mk 4 s.at_ r.2.at_ [] 0 r.1,r.2),(.mk 4 t.at_ b.2.at_ [] 0 b.1,b.2),by simp[P,p4,fx],by simp[R,k,g,c2,fx],e,(a1.trans a4).less aa,λa=> ?_⟩;simp[n4 a,(gj h ((a1 (a4 a).1).1)).1,(gj e a).1]
def agY(d:iY l){n}(ih:Fit l n)(s:PS)(t)(h:Rl l s t)(g:s.err=none->16*(l.length-s.at_)+9<=n+1)(hr:9<=n+1):Bo l 1 s (P l (n+1) .block s) (R l (n+1) .block t):=by
 obtain⟨j,m,f,a1⟩:=sk d h [123]
 obtain⟨r,b,p4,i,e,a4,n4⟩:=Vj d (a0:=(cA l [123] s).at_) (one:=P l n .stmt) (eR:=R l n .stmt) n [] _ j f (λa=>ya ih .stmt rfl _ (by
  have k:=a1 a;have h3:=g k.1;have h5:=(gj f a).2;simp[Task.du]
  omega)) (λa=>⟨μ _,by have:=g (a1 a).1;have:=(a1 a).2;omega⟩) aa
 obtain⟨c,o,c2⟩:=aif i;refine⟨(.mk 6 s.at_ r.2.at_ [] 0 r.1,r.2),(.mk 6 t.at_ b.2.at_ [] 0 b.1,b.2),by simp[P,p4,fx],by simp[R,m,o,c2,fx],e,(a1.trans a4).less aa,λa=> ?_⟩;simp[n4 a,(gj h ((a1 (a4 a).1).1)).1,(gj e a).1]
def alx(i:iY l){n}(ih:Fit l n)(s:PS)(t)(h:Rl l s t)(c:s.err=none->16*(l.length-s.at_)+6<=n+1)(hr:6<=n+1):Bo l 1 s (P l (n+1) .sum s) (R l (n+1) .sum t):=by
 obtain⟨r,d,p4,f,o,a4,n4⟩:=ih .term s t h (λa=>by have:=c a;simp[Task.du];omega) (by simp[Task.du];omega) ai
 obtain⟨q,u,j,e,m,g,k⟩:=V0 i (a0:=r.2.at_) (one:=P l n .term) (eR:=R l n .term) n r.1 d.1 r.2 d.2 o (λa=>ya ih .term rfl _ (by
  have b:=a4 a;have p:=c b.1
  simp[Task.du,Task.il] at*
  omega)) (λa=>⟨n4 a,μ _,by have b:=a4 a;have p:=c b.1;simp[Task.il] at*;omega⟩) aa
 exact⟨q,u,by simp[P,p4,fx,j],by simp[R,f,fx,e],m,(a4.trans g).less (by simp[Task.il]),k⟩
def aih(i:iY l){n}(ih:Fit l n)(s:PS)(t)(h:Rl l s t)(c:s.err=none->16*(l.length-s.at_)+5<=n+1)(hr:5<=n+1):Bo l 1 s (P l (n+1) .term s) (R l (n+1) .term t):=by
 obtain⟨r,d,p4,f,o,a4,n4⟩:=ih .post s t h (λa=>by have:=c a;simp[Task.du];omega) (by simp[Task.du];omega) ai
 obtain⟨q,u,j,e,m,g,k⟩:=Vk i (a0:=r.2.at_) (one:=P l n .post) (eR:=R l n .post) n r.1 d.1 r.2 d.2 o (λa=>ya ih .post rfl _ (by
  have b:=a4 a;have p:=c b.1
  simp[Task.du,Task.il] at*
  omega)) (λa=>⟨n4 a,μ _,by have b:=a4 a;have p:=c b.1;simp[Task.il] at*;omega⟩) aa
 exact⟨q,u,by simp[P,p4,fx,j],by simp[R,f,fx,e],m,(a4.trans g).less (by simp[Task.il]),k⟩
def aii(j:iY l){n}(ih:Fit l n)(s:PS)(t)(h:Rl l s t)(d:s.err=none->16*(l.length-s.at_)+4<=n+1)(hr:4<=n+1):Bo l 1 s (P l (n+1) .post s) (R l (n+1) .post t):=by
 obtain⟨r,e,p4,g,c,a4,n4⟩:=ih .atom s t h (λa=>by have:=d a;simp[Task.du];omega) (by simp[Task.du];omega) ai
 obtain⟨q,v,k,f,o,i,m⟩:=MC j (a0:=r.2.at_) (one:=P l n .expr) (eR:=R l n .expr) n r.1 e.1 r.2 e.2 c (λa=>ya ih .expr rfl _ (by
  have b:=a4 a;have u:=d b.1;have p:=(gj c a).2
  simp[Task.du,Task.il] at*
  omega)) (λa=>⟨n4 a,μ _,by have b:=a4 a;have u:=d b.1;have p:=(gj c a).2;simp[Task.il] at*;omega⟩) aa
 exact⟨q,v,by simp[P,p4,fx,k],by simp[R,g,fx,f],o,(a4.trans i).less (by simp[Task.il]),m⟩
def aij(v:iY l){n}(ih:Fit l n)(s:PS)(t)(h:Rl l s t)(z:s.err=none->16*(l.length-s.at_)+7<=n+1)(hr:7<=n+1):Bo l 1 s (P l (n+1) .expr s) (R l (n+1) .expr t):=by
 obtain⟨r,D,p4,m,w,a4,n4⟩:=ih .sum s t h (λe=>by have:=z e;simp[Task.du];omega) (by simp[Task.du];omega) ai;obtain⟨x,s1⟩:=r;obtain⟨x',t1⟩:=D;simp only at w a4 n4
 cases w with
 |dead a a' b=>exact⟨(x,⟨a,some b⟩),(x',⟨a',some b⟩),by simp[P,p4,bn,BO],by simp[R,m,bn],.dead a a' b,.dead 1 a b _,λh=>by cases h⟩
 |live a j=>
  obtain rfl:x=x':=n4 rfl;have o:=a4 rfl;have jo:=z o.1;simp[Task.il] at o;have p:=iU none [60] j;have u:=iU none [61,61] j;have y:dB l ⟨a,none⟩ [60]=true\/dB l ⟨a,none⟩ [61,61]=true->∀k,Bo l 1 s (lL k x (P l n .sum) ⟨a+1,none⟩) (bn (R l n .sum ⟨a+1,none⟩) λq=>some (.mk k x.f q.2.at_ [] 0 [x,q.1],q.2)):=by intro B k;obtain⟨q,d,i,g2,g3,A,C⟩:=ih .sum ⟨a+1,none⟩ ⟨a+1,none⟩ (.live _ (B.elim (jh v j) (jh v j))) (λ_=>by simp[Task.du];omega) (by simp[Task.du];omega) ai;refine⟨(.mk k x.f q.2.at_ [] 0 [x,q.1],q.2),(.mk k x.f d.2.at_ [] 0 [x,d.1],d.2),by simp[lL,i,fx],by simp[g2,fx],g3,λe=>⟨o.1,by have:=(A e).2;simp[Task.il] at*;omega⟩,λe=> ?_⟩;simp[C e,(gj g3 e).1]
  cases h1:dB l ⟨a,none⟩ [60] with
  |true=>
   have c:dB l ⟨a,none⟩ [61,61]=false:=by simp[dB] at h1;simp[dB,h1.2]
   obtain⟨q,d,i,g2,g⟩:=y (.inl h1) 14;exact⟨q,d,by simp[P,p4,fx,bc,h1,be,i],by simpa[R,m,bn,p,u,h1,c] using g2,g⟩
  |false=>
   cases c:dB l ⟨a,none⟩ [61,61] with
   |true=>obtain⟨q,d,i,g2,g⟩:=y (.inr c) 15;exact⟨q,d,by simp[P,p4,fx,bc,h1,c,be,i],by simpa[R,m,bn,p,u,h1,c] using g2,g⟩
   |false=>exact⟨(x,⟨a,none⟩),(x,⟨a,none⟩),by simp[P,p4,bn,bc,h1,c],by simp[R,m,bn,p,u,h1,c],.live a j,λ_=>o,λ_=>rfl⟩
end
section
variable {l:List Tok}
def aik(f:iY l){n}(ih:Fit l n)(s:PS)(t)(h:Rl l s t)(G:s.err=none->16*(l.length-s.at_)+3<=n+1)(hr:3<=n+1):Bo l 1 s (P l (n+1) .kind s) (R l (n+1) .kind t):=by
 cases h with
 |dead a a' b=>exact⟨(.mk 29 a a [] 0 [],⟨a,some b⟩),(eG,⟨a',some b⟩),by simp[P,BO,jL],by simp[R],.dead a a' b,.dead 1 a b _,λh=>by cases h⟩
 |live a e=>
  have C:=G rfl;simp only at C;have g:=iU none [105,110,116] e;have j:=iU none [115,116,114] e;have u:=iU none [100,121,110] e;have w:=iU none [123] e;have y:=iU none [102,110] e
  cases p1:dB l ⟨a,none⟩ [105,110,116] with
  |true=>exact⟨(.mk 29 a (a+1) [] 0 [],⟨a+1,none⟩),(.mk 29 a (a+1) [] 0 [],⟨a+1,none⟩),by simp[P,bc,p1,be],by simp[R,g,p1,bn],.live _ (jh f e p1),λ_=>⟨rfl,μ _⟩,λ_=>rfl⟩
  |false=>
  cases p2:dB l ⟨a,none⟩ [115,116,114] with
  |true=>exact⟨(.mk 30 a (a+1) [] 0 [],⟨a+1,none⟩),(.mk 30 a (a+1) [] 0 [],⟨a+1,none⟩),by simp[P,bc,p1,p2,be],by simp[R,g,j,p1,p2,bn],.live _ (jh f e p2),λ_=>⟨rfl,μ _⟩,λ_=>rfl⟩
  |false=>
  cases p3:dB l ⟨a,none⟩ [100,121,110] with
  |true=>exact⟨(.mk 31 a (a+1) [] 0 [],⟨a+1,none⟩),(.mk 31 a (a+1) [] 0 [],⟨a+1,none⟩),by simp[P,bc,p1,p2,p3,be],by simp[R,g,j,u,p1,p2,p3,bn],.live _ (jh f e p3),λ_=>⟨rfl,μ _⟩,λ_=>rfl⟩
  |false=>
  cases p4:dB l ⟨a,none⟩ [123] with
  |true=>have hb:=jh f e p4;obtain⟨r,i,v,g2,p,a4,n4⟩:=Eb f (Rl.live (a+1) hb) (λ_=>ya ih .field rfl (a+1) (by simp[Task.du];omega)) [125] (n:=n) [] (λ_=>by simp only;omega) aa;obtain⟨c,o,c2⟩:=G8 g2;rw[Χ] at o;exact⟨(.mk 32 a r.2.at_ [] 0 r.1,r.2),(.mk 32 a i.2.at_ [] 0 i.1,i.2),by simp[P,bc,p1,p2,p3,p4,be,v,bn],by simp[R,g,j,u,w,p1,p2,p3,p4,bn,o,c2],p,λd=>⟨rfl,by have:=(a4 d).2;simp only at*;omega⟩,λd=>by simp[n4 d,(gj p d).1]⟩
  |false=>
  cases p5:dB l ⟨a,none⟩ [102,110] with
  |true=>have hb:=jh f e p5;obtain⟨t1,w1,E,a1⟩:=sk f (Rl.live (a+1) hb) [40];obtain⟨r,i,v,g2,p,a4,n4⟩:=Eb f E (one:=P l n .kind) (eR:=R l n .kind) (λd=>ya ih .kind rfl _ (by have:=(a1 d).2;simp[Task.du] at*;omega)) [41] (n:=n) [] (λd=>by have:=(a1 d).2;simp only at*;omega) aa;obtain⟨c,o,c2⟩:=G8 g2;rw[Χ] at o;obtain⟨B,A,F,a5⟩:=sk f p [58];obtain⟨q,x,D,H,z,a6,n6⟩:=ih .kind _ B F (λd=>by have:=a5 d;have:=a4 this.1;have:=a1 this.1;simp[Task.du] at*;omega) (by simp[Task.du];omega) ai;refine⟨(.mk 34 a q.2.at_ [] 0 (r.1++[q.1]),q.2),(.mk 34 a x.2.at_ [] 0 (i.1++[x.1]),x.2),by simp[P,bc,p1,p2,p3,p4,p5,be,v,D,bn],by simp[R,g,j,u,w,bX,y,p1,p2,p3,p4,p5,bn] at w1 A c2⊢;simp[w1,o,c2,A,H],z,λd=>⟨rfl,by have:=a6 d;have:=a5 this.1;have:=a4 this.1;have:=a1 this.1;simp[Task.il] at*;omega⟩,λd=> ?_⟩;simp[n6 d,n4 ((a5 ((a6 d).1)).1),(gj z d).1]
  |false=>obtain⟨m,rfl⟩:∃k,n=k+1:=⟨n-1,aa⟩;exact⟨(.mk 29 a a [] 0 [],⟨a,some a⟩),(.mk 34 a a [] 0 [eG],⟨a,some a⟩),by simp[P,bc,p1,p2,p3,p4,p5,jL],by simp[R,g,j,u,w,y,p1,p2,p3,p4,p5,bn,bX,jw],.dead a a a,.dead 1 a a _,λh=>by cases h⟩
def ail(o:iY l){n}(ih:Fit l n)(s:PS)(t)(h:Rl l s t)(T:s.err=none->16*(l.length-s.at_)+3<=n+1)(hr:3<=n+1):Bo l 1 s (P l (n+1) .atom s) (R l (n+1) .atom t):=by
 cases h with
 |dead a a' b=>
  have Q:cT l ⟨a,some b⟩=(none,⟨a,some b⟩):=by simp only[cT,jL];split<;>rfl
  have:∃nd a2,P l (n+1) .atom ⟨a,some b⟩=some (nd,⟨a2,some b⟩):=by
   simp[P,BO,jL,be,Q];split
   ·grind
   ·split
    ·grind
    ·split
     ·grind
     ·grind
  obtain⟨nd,a2,e⟩:=this;exact⟨(nd,⟨a2,some b⟩),(eG,⟨a',some b⟩),e,by simp[R],.dead a2 a' b,.dead 1 a2 b _,λh=>by cases h⟩
 |live a v=>
  have M:=T rfl;simp only at M;obtain⟨x,j⟩:=zQ v;have p:fA l ⟨a,none⟩=x:=by simp[fA,j]
  by_cases g:x.1=3
  ·exact⟨(.mk 21 a (a+1) x.2.2.2 a [],⟨a+1,none⟩),(.mk 21 a (a+1) x.2.2.2 a [],⟨a+1,none⟩),by simp[P,p,g,be],by simp[R,j,g,bn],.live _ (o.ends a x j aa),λ_=>⟨rfl,μ _⟩,λ_=>rfl⟩
  by_cases i:x.1=4
  ·exact⟨(.mk 22 a (a+1) x.2.2.2 a [],⟨a+1,none⟩),(.mk 22 a (a+1) x.2.2.2 a [],⟨a+1,none⟩),by simp[P,p,i,be],by simp[R,j,i,bn],.live _ (o.ends a x j aa),λ_=>⟨rfl,μ _⟩,λ_=>rfl⟩
  by_cases k1:x.1=1
  ·have S:cT l ⟨a,none⟩=(some (x.2.2.2,a),⟨a+1,none⟩):=by simp[cT,p,k1,be]
   exact⟨(.mk 23 a (a+1) x.2.2.2 a [],⟨a+1,none⟩),(.mk 23 a (a+1) x.2.2.2 a [],⟨a+1,none⟩),by simp[P,p,k1,S,eY,ij,Nd.k,Nd.f,Nd.w,Nd.a,Nd.ks,Nd.t],by simp[R,j,k1,bn],.live _ (o.ends a x j aa),λ_=>⟨rfl,μ _⟩,λ_=>rfl⟩
  have B:=iU none [105,110,112,117,116] v;have D:=iU none [40] v;have F:=iU none [123] v;have K:=iU none [102,110] v
  cases p1:dB l ⟨a,none⟩ [105,110,112,117,116] with
  |true=>exact⟨(.mk 24 a (a+1) [] 0 [],⟨a+1,none⟩),(.mk 24 a (a+1) [] 0 [],⟨a+1,none⟩),by simp[P,p,g,i,k1,bc,p1,be],by simp[R,j,g,i,k1,B,p1,bn],.live _ (jh o v p1),λ_=>⟨rfl,μ _⟩,λ_=>rfl⟩
  |false=>
  cases p2:dB l ⟨a,none⟩ [40] with
  |true=>have hb:=jh o v p2;obtain⟨r,y,A,g2,z,a4,n4⟩:=ih .expr ⟨a+1,none⟩ ⟨a+1,none⟩ (.live _ hb) (λ_=>by simp[Task.du];omega) (by simp[Task.du];omega) ai;obtain⟨G,X,C,a5⟩:=sk o z [41];refine⟨(.mk 25 a (cA l [41] r.2).at_ [] 0 [r.1],cA l [41] r.2),(.mk 25 a G.at_ [] 0 [y.1],G),by simp[P,p,g,i,k1,bc,p1,p2,be,A,bn],by simp[R,j,g,i,k1,B,D,p1,p2,bn,g2,X],C,λd=>⟨rfl,by have:=a5 d;have:=a4 this.1;simp[Task.il] at*;omega⟩,λd=>by simp[n4 (a5 d).1,(gj C d).1]⟩
  |false=>
  cases p3:dB l ⟨a,none⟩ [123] with
  |true=>have hb:=jh o v p3;obtain⟨r,y,A,g2,z,a4,n4⟩:=Eb o (Rl.live (a+1) hb) (λ_=>ya ih .entry rfl (a+1) (by simp[Task.du];omega)) [125] (n:=n) [] (λ_=>by simp only;omega) aa;obtain⟨c,I,c2⟩:=G8 g2;rw[Χ] at I;exact⟨(.mk 26 a r.2.at_ [] 0 r.1,r.2),(.mk 26 a y.2.at_ [] 0 y.1,y.2),by simp[P,p,g,i,k1,bc,p1,p2,p3,be,A,bn],by simp[R,j,g,i,k1,B,D,F,p1,p2,p3,bn,I,c2],z,λd=>⟨rfl,by have:=(a4 d).2;simp only at*;omega⟩,λd=>by simp[n4 d,(gj z d).1]⟩
  |false=>
  cases p4:dB l ⟨a,none⟩ [102,110] with
  |true=>have hb:=jh o v p4;obtain⟨r,y,A,g2,z,a4,n4⟩:=ih .params ⟨a+1,none⟩ ⟨a+1,none⟩ (.live _ hb) (λ_=>by simp[Task.du];omega) (by simp[Task.du];omega) ai;obtain⟨q,L,O,U,C,a5,N⟩:=ih .typed r.2 y.2 z (λd=>by have:=a4 d;simp[Task.du,Task.il] at*;omega) (by simp[Task.du];omega) ai;obtain⟨u,E,W,V,J,a6,n6⟩:=ih .block q.2 L.2 C (λd=>by have:=a5 d;have:=a4 this.1;simp[Task.du,Task.il] at*;omega) (by simp[Task.du];omega) ai;refine⟨(.mk 28 a u.2.at_ [] 0 [r.1,q.1,u.1],u.2),(.mk 28 a E.2.at_ [] 0 [y.1,L.1,E.1],E.2),by simp[P,p,g,i,k1,bc,p1,p2,p3,p4,be,A,O,W,bn],by simp[R,j,g,i,k1,B,D,F,K,p1,p2,p3,p4,bn,bX,g2,U,V],J,λd=>⟨rfl,by have:=a6 d;have:=a5 this.1;have:=a4 this.1;simp[Task.il] at*;omega⟩,λd=> ?_⟩;have H:=(a6 d).1;simp[n6 d,N H,n4 ((a5 H).1),(gj J d).1]
  |false=>obtain⟨m,rfl⟩:∃k,n=k+2:=⟨n-2,aa⟩;exact⟨(.mk 21 a a [] 0 [],⟨a,some a⟩),(.mk 28 a a [] 0 [.mk 4 a a [] 0 [],eG,.mk 6 a a [] 0 []],⟨a,some a⟩),by simp[P,p,g,i,k1,bc,p1,p2,p3,p4,jL],by simp[R,j,g,i,k1,B,D,F,K,p1,p2,p3,p4,bn,bX,wV,jw,oB],.dead a a a,.dead 1 a a _,λh=>by cases h⟩
def Em(q:iY l){s0}{n k}(ih:Fit l n){s:PS}{t}(h:Rl l s t)(v:jO k s0 s)(z:s.err=none->16*(l.length-s.at_)+7<=n)(hr:7<=n)(mp mr)(ks d:List Nd)(hm:s.err=none->∀e,ij (iX mp [e]) 0=ended mr 0 (d++[e])):
  ∃r b,P l n .expr s=some r/\(bn (R l n .expr t) λx=>bn (bX l [59] x.2) λm=>some (ended mr m.at_ (d++[x.1]),m))=some b/\Rl l (cA l [59] r.2) b.2/\jO (k+1) s0 (cA l [59] r.2)/\((cA l [59] r.2).err=none->ij (iX mp [r.1]) (cA l [59] r.2).at_=b.1):=by
 obtain⟨r,b,p,g2,u,a4,n4⟩:=ih .expr s t h (λc=>by have:=z c;simp[Task.du];omega) (by simp[Task.du];omega) ai;obtain⟨j,y,o,a5⟩:=sk q u [59];refine⟨r,(ended mr j.at_ (d++[b.1]),j),p,by simp[g2,fx,y],o,((v.trans a4).trans a5).less (by simp only[Task.il];omega),λc=> ?_⟩;have i:=(a5 c).1;have g:=hm ((a4 i).1) r.1;simp[n4 i,(gj o c).1];rw[n4 i] at g;obtain⟨k1,f1,t1,w1,c1,s1⟩:=mp;obtain⟨k2,f2,t3,w3,c3,s3⟩:=mr;simp[ij,iX,ended,Nd.k,Nd.f,Nd.w,Nd.a,Nd.ks,Nd.t,Nd.mk.injEq] at g⊢;simp[g]
def aim(d:iY l){n}(ih:Fit l n)(a:Nat)(o:a<l.length)(hn:16*(l.length-a)+8<=n+1):Bo l 1 ⟨a,none⟩ (P l (n+1) .stmt ⟨a,none⟩) (R l (n+1) .stmt ⟨a,none⟩):=by
 have B:=iU none [105,102] o;have F:=iU none [119,104,105,108,101] o;have I:=iU none [108,101,116] o;have O:=iU none [112,114,105,110,116] o;have S:=iU none [114,101,116,117,114,110] o;have p:∀{x y:List UInt8},x≠y->dB l ⟨a,none⟩ x=true->dB l ⟨a,none⟩ y=false:=λ{x y} aL A=>by simp[dB] at A;simp[dB,A.2,aL]
 have rk:∀{s:PS},jO 1 ⟨a,none⟩ s->s.err=none->s.at_<l.length->16*(l.length-s.at_)+7<=n:=λ{s} h b aN=>by have:=(h b).2;simp only at this;omega
 cases p1:dB l ⟨a,none⟩ [105,102] with
 |true=>
  have L:=p (y:=[108,101,116]) aA p1;have hb:=jh d o p1;obtain⟨r,z,G,g2,D,a4,n4⟩:=ih .expr ⟨a+1,none⟩ ⟨a+1,none⟩ (.live _ hb) (λ_=>by simp[Task.du];omega) (by simp[Task.du];omega) ai;obtain⟨q,C,g,i,v,a5,J⟩:=ih .block r.2 z.2 D (λb=>by have:=(a4 b).2;have:=(gj D b).2;simp[Task.du,Task.il] at*;omega) (by simp[Task.du];omega) ai;have hq:=ask v [101,108,115,101]
  cases pe:bc l q.2 [101,108,115,101] with
  |true=>
   obtain⟨c,E,iN,hc⟩:=VY d v pe;obtain⟨u,j,f3,f4,m,a6,n6⟩:=ih .block ⟨c+1,none⟩ ⟨c+1,none⟩ (.live _ hc) (λ_=>by have K:=a5 (by rw[E]);have M:=(a4 K.1).2;have N:=K.2;rw[E] at N;simp[Task.du,Task.il] at M N⊢;omega) (by simp[Task.du];omega) ai;have T:q.2.err=none:=by rw[E]
   have H:=(a5 T).1;have Y:dB l ⟨c,none⟩ [101,108,115,101]=true:=by rw[E] at pe;exact pe
   have kP:wV l ⟨c,none⟩ [101,108,115,101]=some true:=by rw[<-iN,hq,pe]
   refine⟨(.mk 9 a u.2.at_ [] 0 [r.1,q.1,u.1],u.2),(.mk 9 a j.2.at_ [] 0 [z.1,C.1,j.1],j.2),by simp[P,YB,p1,L,be,G,g,bn,E,Y,f3],by simp[R,B,p1,bn,g2,i,kP,iN,f4],m,λb=>⟨rfl,by have:=a6 b;have K:=(a6 b).2;have M:=(a5 T).2;have N:=(a4 H).2;rw[E] at M;simp[Task.il] at K M N⊢;omega⟩,λb=> ?_⟩;simp[n6 b,J T,n4 H,(gj m b).1]
  |false=>refine⟨(.mk 9 a q.2.at_ [] 0 [r.1,q.1,eG],q.2),(.mk 9 a C.2.at_ [] 0 [z.1,C.1,eG],C.2),by simp[P,YB,p1,L,be,G,g,bn,pe],by simp[R,B,p1,bn,g2,i,hq,pe],v,λb=>⟨rfl,by have:=a5 b;have:=a4 this.1;simp[Task.il] at*;omega⟩,λb=> ?_⟩;simp[J b,n4 (a5 b).1,(gj v b).1]
 |false=>
 cases p2:dB l ⟨a,none⟩ [119,104,105,108,101] with
 |true=>have L:=p (y:=[108,101,116]) aA p2;have hb:=jh d o p2;obtain⟨r,z,G,g2,D,a4,n4⟩:=ih .expr ⟨a+1,none⟩ ⟨a+1,none⟩ (.live _ hb) (λ_=>by simp[Task.du];omega) (by simp[Task.du];omega) ai;obtain⟨q,C,g,i,v,a5,J⟩:=ih .block r.2 z.2 D (λb=>by have:=(a4 b).2;have:=(gj D b).2;simp[Task.du,Task.il] at*;omega) (by simp[Task.du];omega) ai;refine⟨(.mk 10 a q.2.at_ [] 0 [r.1,q.1],q.2),(.mk 10 a C.2.at_ [] 0 [z.1,C.1],C.2),by simp[P,bc,p1,p2,L,be,G,g,bn],by simp[R,B,F,p1,p2,bn,g2,i],v,λb=>⟨rfl,by have:=a5 b;have:=a4 this.1;simp[Task.il] at*;omega⟩,λb=> ?_⟩;simp[J b,n4 (a5 b).1,(gj v b).1]
 |false=>
 cases p3:dB l ⟨a,none⟩ [108,101,116] with
 |true=>
  have hb:=jh d o p3;obtain⟨q,w1,h1,a1,n1⟩:=xN d (Rl.live (a+1) hb) (.mk 7 a 0 [] 0 []);obtain⟨r,z,G,g2,D,a4,n4⟩:=ih .typed _ q.2 h1 (λb=>by have:=(a1 b).2;have:=(gj h1 b).2;simp[Task.du] at*;omega) (by simp[Task.du];omega) ai;obtain⟨t2,w2,v,a5⟩:=sk d D [61];have av:jO 2 ⟨a+1,none⟩ (cA l [61] r.2):=((a1.trans a4).trans a5).less (by simp[Task.il])
  obtain⟨u,j,g,i,m,a6,n6⟩:=Em d ih v av (λb=>by have:=(av b).2;have:=(gj v b).2;simp only at*;omega) aa (iX (eY (.mk 7 a 0 [] 0 []) (cT l ⟨a+1,none⟩).1) [r.1]) q.1 [] [z.1] (λb e=>by
   have H:=(a5 b).1;rw[n1 ((a4 H).1),n4 H]
   cases(cT l ⟨a+1,none⟩).1<;>rfl)
  exact⟨(ij (iX (iX (eY (.mk 7 a 0 [] 0 []) (cT l ⟨a+1,none⟩).1) [r.1]) [u.1]) (cA l [59] u.2).at_,cA l [59] u.2),j,by simp[P,bc,p3,be,G,g,bn],by simpa[R,B,F,I,p1,p2,p3,bn,w1,g2,w2] using i,m,λb=>⟨rfl,by have:=(a6 b).2;simp only at*;omega⟩,n6⟩
 |false=>
 cases p4:dB l ⟨a,none⟩ [112,114,105,110,116] with
 |true=>have hb:=jh d o p4;obtain⟨u,j,g,i,m,a6,n6⟩:=Em d ih (Rl.live (a+1) hb) (jO.refl _) (λb=>by simp only;omega) aa (.mk 11 a 0 [] 0 []) (.mk 11 a 0 [] 0 []) [] [] (λb e=>rfl);exact⟨(ij (iX (.mk 11 a 0 [] 0 []) [u.1]) (cA l [59] u.2).at_,cA l [59] u.2),j,by simp[P,bc,p1,p2,p3,p4,be,g,bn,iX,Nd.k,Nd.f,Nd.t,Nd.w,Nd.a,Nd.ks],by simpa[R,B,F,I,O,p1,p2,p3,p4,bn] using i,m,λb=>⟨rfl,by have:=(a6 b).2;simp only at*;omega⟩,n6⟩
 |false=>
 cases p5:dB l ⟨a,none⟩ [114,101,116,117,114,110] with
 |true=>have hb:=jh d o p5;obtain⟨u,j,g,i,m,a6,n6⟩:=Em d ih (Rl.live (a+1) hb) (jO.refl _) (λb=>by simp only;omega) aa (.mk 12 a 0 [] 0 []) (.mk 12 a 0 [] 0 []) [] [] (λb e=>rfl);exact⟨(ij (iX (.mk 12 a 0 [] 0 []) [u.1]) (cA l [59] u.2).at_,cA l [59] u.2),j,by simp[P,bc,p1,p2,p3,p4,p5,be,g,bn,iX,Nd.k,Nd.f,Nd.t,Nd.w,Nd.a,Nd.ks],by simpa[R,B,F,I,O,S,p1,p2,p3,p4,p5,bn] using i,m,λb=>⟨rfl,by have:=(a6 b).2;simp only at*;omega⟩,n6⟩
 |false=>
  obtain⟨x,A⟩:=zQ o;have Z:fA l ⟨a,none⟩=x:=by simp[fA,A]
  have U:qC l ⟨a,none⟩=false->(x.1=1->cP l (a+1) [61]=some false)->Bo l 1 ⟨a,none⟩ (P l (n+1) .stmt ⟨a,none⟩) (R l (n+1) .stmt ⟨a,none⟩):=by
   intro X uf;obtain⟨u,j,g,i,m,a6,n6⟩:=Em d ih (Rl.live a o) (jO.refl _) (λb=>by simp only;omega) aa (.mk 13 a 0 [] 0 []) (.mk 13 a 0 [] 0 []) [] [] (λb e=>rfl);have hb:(if x.1=1 then cP l (a+1) [61] else some false)=some false:=by grind
   exact⟨(ij (iX (.mk 13 a 0 [] 0 []) [u.1]) (cA l [59] u.2).at_,cA l [59] u.2),j,by simp[P,bc,p1,p2,p3,p4,p5,X,g,bn,iX,Nd.k,Nd.f,Nd.t,Nd.w,Nd.a,Nd.ks],by simpa[R,B,F,I,O,S,p1,p2,p3,p4,p5,bn,A,hb] using i,m,λb=>⟨rfl,by have:=(a6 b).2;simp only at*;omega⟩,n6⟩
  by_cases k1:x.1=1
  ·have hb:=d.ends a x A aa;obtain⟨y,W⟩:=zQ hb;have Q:cP l (a+1) [61]=some ((decide (y.1=2)||decide (y.1=5))&&decide (y.2.2.2=[61])):=by simp[cP,W]
   have es:qC l ⟨a,none⟩=(decide (y.1=5)&&decide (y.2.2.2=[61])):=by simp[qC,Z,k1,W]
   have key:((decide (y.1=2)||decide (y.1=5))&&decide (y.2.2.2=[61]))=(decide (y.1=5)&&decide (y.2.2.2=[61])):=by
    by_cases h2:y.1=2
    ·have:=d.keys _ y W h2;simp[this]
    ·simp[h2]
   rw[key] at Q
   cases X:(decide (y.1=5)&&decide (y.2.2.2=[61])) with
   |false=>grind
   |true=>
    rw[X] at es Q;have hw:cT l ⟨a,none⟩=(some (x.2.2.2,a),⟨a+1,none⟩):=by simp[cT,Z,k1,be]
    have mT:iF l (.mk 8 a 0 [] 0 []) ⟨a,none⟩=some (.mk 8 a 0 x.2.2.2 a [],⟨a+1,none⟩):=by simp[iF,A,bn,k1,Nd.k,Nd.f,Nd.t,Nd.ks]
    have hp:dB l ⟨a+1,none⟩ [61]=true:=by have:=iU none [61] hb;rw[Q] at this;simpa using this.symm
    have hc:=jh d hb hp;have V:cA l [61] ⟨a+1,none⟩=⟨a+1+1,none⟩:=by simp[cA,bc,hp,be]
    obtain⟨u,j,g,i,m,a6,n6⟩:=Em d ih (Rl.live (a+1+1) hc) (jO.refl _) (λb=>by simp only;omega) aa (.mk 8 a 0 x.2.2.2 a []) (.mk 8 a 0 x.2.2.2 a []) [] [] (λb e=>rfl);exact⟨(ij (iX (.mk 8 a 0 x.2.2.2 a []) [u.1]) (cA l [59] u.2).at_,cA l [59] u.2),j,by simp[P,bc,p1,p2,p3,p4,p5,es,hw,V,g,bn,eY,iX,Nd.k,Nd.f,Nd.t,Nd.w,Nd.a,Nd.ks],by simpa[R,B,F,I,O,S,p1,p2,p3,p4,p5,bn,A,k1,Q,mT] using i,m,λb=>⟨rfl,by have:=(a6 b).2;simp only at*;omega⟩,n6⟩
  ·exact U (by simp[qC,Z,k1]) (λh=>(k1 h).elim)
def YD(c:iY l):∀n,Fit l n
 |0=>λtask s t h e d f=>by cases task<;>simp[Task.du] at d
 |n+1=>λtask s t h e d f=>by
  have ih:=YD c n
  cases task with
  |kind=>exact aik c ih s t h e d
  |field=>exact agU c ih s t h e d
  |typed=>exact agX c ih s t h e d
  |params=>exact afY c ih s t h e d
  |param=>exact agW c ih s t h e d
  |block=>exact agY c ih s t h e d
  |expr=>exact aij c ih s t h e d
  |sum=>exact alx c ih s t h e d
  |term=>exact aih c ih s t h e d
  |post=>exact aii c ih s t h e d
  |atom=>exact ail c ih s t h e d
  |entry=>exact agV c ih s t h e d
  |stmt=>
   cases h with
   |live a g=>exact aim c ih a g (e rfl)
   |dead a a' b=>exact absurd (f rfl) ai
def ain(c:iY l){a}(n:a<l.length)(e:dB l ⟨a,none⟩ [117,115,101]=true):Bo l 1 ⟨a,none⟩ (some (ny l ⟨a,none⟩)) (A0 l ⟨a,none⟩):=by
 have d:cA l [117,115,101] ⟨a,none⟩=⟨a+1,none⟩:=by simp[cA,bc,e,be]
 obtain⟨m,w1,g,a1,n1⟩:=xN c (Rl.live (a+1) (jh c n e)) (.mk 23 (a+1) 0 [] 0 []);obtain⟨t2,q,k,a2⟩:=sk c g [46];obtain⟨x,o,p,a3,r⟩:=xN c k (.mk 2 a 0 [] 0 []);obtain⟨h,j,f,a4⟩:=sk c p [59];refine⟨ny l ⟨a,none⟩,(ended x.1 h.at_ [ij m.1 m.2.at_],h),rfl,by simp[A0,w1,q,o,j,fx],by simpa only[ny,d] using f,?_,λb=> ?_⟩
 ·simp[ny,d];exact λb=>⟨rfl,by have:=a4 b;have:=a3 this.1;have:=a2 this.1;have:=a1 this.1;simp only at*;omega⟩
 ·simp[ny,d] at b⊢;have i:=(a4 b).1;have b1:=(a2 ((a3 i).1)).1;rw[r i,n1 b1,YC,(gj f b).1,(gj g b1).1]
def aio(e:iY l){n a}(o:a<l.length)(hn:16*(l.length-a)+9<=n)(d:dB l ⟨a,none⟩ [100,101,102]=true):Bo l 1 ⟨a,none⟩ (tX l n ⟨a,none⟩) (A1 l n ⟨a,none⟩):=by
 have ih:=YD e n;have A:cA l [100,101,102] ⟨a,none⟩=⟨a+1,none⟩:=by simp[cA,bc,d,be]
 have v:bX l [100,101,102] ⟨a,none⟩=some ⟨a+1,none⟩:=by simp[bX,iU none _ o,d,bn]
 obtain⟨m,w1,y,a1,n1⟩:=xN e (Rl.live (a+1) (jh e o d)) (.mk 3 a 0 [] 0 []);have f:∀{s:PS},jO 1 ⟨a+1,none⟩ s->s.err=none->16*(l.length-s.at_)+9<=n:=λ{s} h b=>by have:=(h b).2;simp only at this;omega
 obtain⟨r,g,B,g2,x,a4,n4⟩:=ih .params _ m.2 y (λb=>by have:=f a1 b;simp[Task.du];omega) (by simp[Task.du];omega) ai;obtain⟨q,p,w,C,z,a5,t⟩:=ih .typed r.2 g.2 x (λb=>by have:=f ((a1.trans a4).less ai) b;simp[Task.du];omega) (by simp[Task.du];omega) ai;obtain⟨u,c,E,D,k,a6,n6⟩:=ih .block q.2 p.2 z (λb=>by have:=f (((a1.trans a4).trans a5).less (by simp[Task.il])) b;simp[Task.du];omega) (by simp[Task.du];omega) ai;refine⟨(ij (iX (eY (.mk 3 a 0 [] 0 []) (cT l ⟨a+1,none⟩).1) [r.1,q.1,u.1]) u.2.at_,u.2),(ended m.1 c.2.at_ [g.1,p.1,c.1],c.2),by simp[tX,A,B,w,E,fx],by simp[A1,v,w1,g2,C,D,fx],k,λb=>⟨rfl,by have:=a6 b;have:=a5 this.1;have:=a4 this.1;have:=a1 this.1;simp[Task.il] at*;omega⟩,λb=> ?_⟩;have i:=(a6 b).1;have j:=(a5 i).1;simp[HQ,n1 ((a4 j).1),n6 b,t i,n4 j,(gj k b).1]
def Vl(j:iY l):∀n a ks,a<l.length->17*(l.length-a)+10<=n->F' l 0 ⟨a,none⟩ (nq l n ks ⟨a,none⟩) (rn l n ks ⟨a,none⟩)
 |0,a,ks,d,E=>by omega
 |n+1,a,ks,d,E=>by
  obtain⟨x,g⟩:=zQ d;have i:fA l ⟨a,none⟩=x:=by simp[fA,g]
  by_cases e:x.1=0
  ·exact⟨(ks,⟨a,none⟩),(ks,⟨a,none⟩),by simp[nq,i,e],by simp[rn,g,e,bn],.live a d,.refl _,λ_=>rfl⟩
  have o:=iU none [117,115,101] d
  have z:∀{p:PR} {q:RR},Bo l 1 ⟨a,none⟩ p q->F' l 0 ⟨a,none⟩ (bn p λr=>nq l n (ks++[r.1]) r.2) (bn q λr=>rn l n (ks++[r.1]) r.2):=by
   intro p q hb;obtain⟨r,B,rfl,rfl,s,y,u⟩:=hb;obtain⟨nd,s1⟩:=r;obtain⟨A,t1⟩:=B;simp[fx];simp only at s y u
   cases s with
   |live b hb=>have:=y rfl;simp only at this;obtain rfl:nd=A:=u rfl;obtain⟨q,J,C,F,I,G,D⟩:=Vl j n b (ks++[nd]) hb aa;exact⟨q,J,C,F,I,λH=>⟨rfl,by have:=(G H).2;simp only at*;omega⟩,D⟩
   |dead b t c=>obtain⟨m,rfl⟩:∃k,n=k+1:=⟨n-1,aa⟩;exact⟨(ks++[nd],⟨b,some c⟩),(ks++[A],⟨t,some c⟩),by simp[nq],by simp[rn],.dead b t c,.dead 0 b c _,λh=>by cases h⟩
  cases p1:dB l ⟨a,none⟩ [117,115,101] with
  |true=>have:=z (ain j d p1);simpa[nq,rn,i,g,e,p1,o,bn] using this
  |false=>
  have v:=iU none [100,101,102] d
  cases p2:dB l ⟨a,none⟩ [100,101,102] with
  |true=>have:=z (aio j (n:=n) d aa p2);simpa[nq,rn,i,g,e,p1,p2,o,v,bn] using this
  |false=>obtain⟨m,rfl⟩:∃k,n=k+3:=⟨n-3,aa⟩;exact⟨(ks,⟨a,some a⟩),(ks++[.mk 3 a a [] 0 [.mk 4 a a [] 0 [],eG,.mk 6 a a [] 0 []]],⟨a,some a⟩),by simp[nq,i,e,p1,p2,jL],by simp[rn,g,e,p1,o,bn,A1,bX,v,p2,iF,R,jw,wV,oB,ended,Nd.k,Nd.f,Nd.w,Nd.a],.dead a a a,.dead 0 a a _,λh=>by cases h⟩
def Ec(f:iY l)(h:l≠[]){n}(hn:17*l.length+10<=n):Bo l 0 ⟨0,none⟩ (u_ l n) (CI l n):=by have a:0<l.length:=aDV.2 h;obtain⟨r,b,e,j,d,i,g⟩:=Vl f n 0 [] a aa;exact⟨(.mk 1 0 r.2.at_ [] 0 r.1,r.2),(.mk 1 0 b.2.at_ [] 0 b.1,b.2),by simp[u_,e,fx],by simp[CI,j,fx],d,i,λc=>by simp[g c,(gj d c).1]⟩
end
def aly{r:List UInt8}{n}(h:one r=.ok (2,n)):isKey (r.take n)=true:=by
 cases r with
 |nil=>simp[one] at h
 |cons c t=>
  simp[one] at h;split at h
  ·split at h
   ·rename_i a;simp at h;obtain⟨_,rfl⟩:=h;have:(c::t).take ((c::t).takeWhile bj).length=(c::t).takeWhile bj:=by have:=aEQ (l:=c::t) bj;exact(List.prefix_iff_eq_take.1 this).symm
    rw[this];exact a
   ·grind
  ·grind
def aq9{w}(h:isKey w=true):w≠[61]:=by rintro rfl;revert h;decide
structure Body(s:List UInt8)(i:Nat)(out:List Tok):Prop where
 kind:∀t∈out,t.1≠0
 key:∀t∈out,t.1=2->t.2.2.2≠[61]
 C0:out.Pairwise λa b=>a.2.1<b.2.1
 low:∀t∈out,t.2.1<i
 len:out.length<=4000
structure p_(l:List Tok):Prop where
 ex:∃out e,l=out++[e]/\e.1=0/\(∀t∈out,t.1≠0)/\(∀t∈out,t.1=2->t.2.2.2≠[61])
 C0:l.Pairwise λa b=>a.2.1<b.2.1
 len:l.length<=4000
def V1(s:List UInt8):∀f i out l,i<=s.length->qI s f i out=.ok l->Body s i out->p_ l
 |0,i,out,l,hi,h,hb=>by cases h
 |f+1,i,out,l,hi,h,hb=>by
  rw[qI] at h;have z:=Hp (s.drop i);rw[atB] at z;generalize ha:s.length-(lead (s.drop i)).length=a at h;split at h
  ·cases h
  ·rename_i k n q;have v:=x_ q;split at h
   ·cases h
   ·rename_i h4;generalize m:((k,a,(s.drop i).take ((s.drop i).length-(lead (s.drop i)).length),(lead (s.drop i)).take n):Tok)=tk at h;have p:tk.1=k:=by rw[<-m]
    have Du:tk.2.1=a:=by rw[<-m]
    have u:tk.2.2.2=(lead (s.drop i)).take n:=by rw[<-m]
    have o:(out++[tk]).Pairwise λa b=>a.2.1<b.2.1:=by rw[aEC];refine⟨hb.C0,ai,λx w y r=> ?_⟩;rw[Μ] at r;subst r;have:=hb.low x w;omega
    split at h
    ·rename_i j;simp at h;subst h;exact⟨⟨out,tk,rfl,by rw[p,j],hb.kind,hb.key⟩,o,aX⟩
    ·rename_i j;have aL:lead (s.drop i)≠[]:=λe=>j (v.2.1.2 e);refine V1 s f (a+n) (out++[tk]) l aa h ⟨λt d=> ?_,λt d g=> ?_,o,λt d=> ?_,aX⟩
     ·rcases Ω.1 d with c|c
      ·exact hb.kind t c
      ·grind
     ·rcases Ω.1 d with c|c
      ·exact hb.key t c g
      ·rw[Μ] at c;subst c;rw[p] at g;subst g;rw[u];exact aq9 (aly q)
     ·rcases Ω.1 d with c|c
      ·have:=hb.low t c;omega
      ·grind
def En{s}{l}(h:lex s=.ok l):p_ l:=by
 rw[lex] at h;split at h
 ·cases h
 ·split at h
  ·cases h
  ·exact V1 s _ 0 [] l (aDT _) h ⟨λt a=>absurd a ai,λt a=>absurd a ai,List.Pairwise.nil,λt a=>absurd a ai,ai⟩
def p_.ne{l}(h:p_ l):l≠[]:=by obtain⟨out,e,rfl,_⟩:=h.ex;simp
def p_.ok{l}(h:p_ l):iY l:=by
 obtain⟨out,e,rfl,h0,h1,h2⟩:=h.ex;refine⟨λi t b a=> ?_,λi t b a=> ?_⟩
 ·grind
 ·grind
def p_.last{l:List Tok}(h:p_ l):∃t,l[l.length-1]? =some t/\t.1=0:=by obtain⟨out,e,rfl,a,_⟩:=h.ex;exact⟨e,ai,a⟩
mutual
def dz:Nd->Nat
 | .mk _ _ _ _ _ ks=>fC ks+1
def fC:List Nd->Nat
 |[]=>0
 |n::r=>max (dz n) (fC r)
end
def W4:∀a b:List Nd,fC (a++b)=max (fC a) (fC b)
 |[],b=>by simp[fC]
 |x::a,b=>by simp[fC,W4 a b,Nat.max_assoc]
def tI(k f t)(w)(a)(ks):dz (.mk k f t w a ks)=fC ks+1:=by simp[dz]
def aip(a):fC [a]=dz a:=by simp[fC]
section
variable {l:List Tok}
def bd:Nat->Nat
 |0=>1
 |n+1=>bd n+n+2
end
mutual
def mx:Nd->Nat
 | .mk _ _ _ _ _ ks=>max (fT ks) ks.length+1
def fT:List Nd->Nat
 |[]=>0
 |n::r=>max (mx n) (fT r)
end
def zU:∀a b:List Nd,fT (a++b)=max (fT a) (fT b)
 |[],b=>by simp[fT]
 |x::a,b=>by simp[fT,zU a b,Nat.max_assoc]
def so(n)(t):mx (ij n t)=mx n:=by cases n;rfl
def wv(n)(o):mx (eY n o)=mx n:=by cases n;cases o<;>rfl
def zV(n)(ks:List Nd):mx (iX n ks)<=max (mx n) (fT ks+1)+ks.length:=by cases n;simp[iX,Nd.ks,mx,zU];omega
def eN(k f t)(w)(a)(ks:List Nd):mx (.mk k f t w a ks)=max (fT ks) ks.length+1:=by simp[mx]
def nP(a):fT [a]=mx a:=by simp[fT]
def YE(a b):fT [a,b]=max (mx a) (mx b):=by simp[fT]
def G9(a b c):fT [a,b,c]=max (mx a) (max (mx b) (mx c)):=by simp[fT]
def lE:fT []=0:=by simp[fT]
def aaq:mx eG=1:=by simp[eG,mx,fT]
mutual
def ara(n):dz n<=mx n:=by
 match n with
 | .mk k f t w a ks=>have:=Hr ks;rw[tI,eN];omega
def Hr(l):fC l<=fT l:=by
 match l with
 |[]=>simp[fC]
 |n::r=>have:=ara n;have:=Hr r;simp[fC,fT];omega
end
def sq:∀{l:List Nd} {n:Nd},n∈l->mx n<=fT l
 |x::r,n,h=>by
  simp[fT];rcases Ν.1 h with rfl|h
  ·omega
  ·have:=sq h;omega
def ts:∀{l:List Nd} {n:Nd},n∈l->dz n<=fC l
 |x::r,n,h=>by
  simp[fC];rcases Ν.1 h with rfl|h
  ·omega
  ·have:=ts h;omega
section
variable (l:List Tok)
def UQ{one}:∀{n:Nat} {ks:List Nd} {s:PS} {r:List Nd×PS},nU l one n ks s=some r->r.1.length<=ks.length+n
 |0,ks,s,r,h=>by cases h
 |n+1,ks,s,r,h=>by
  rw[nU] at h;split at h
  ·split at h
   ·cases h;simp
   ·obtain⟨x,hx,h⟩:=al h;have:=UQ h;simp[aD5] at this;omega
  ·cases h;simp
def GS:∀{n:Nat} {ks:List Nd} {s:PS} {r:List Nd×PS},nq l n ks s=some r->r.1.length<=ks.length+n
 |0,ks,s,r,h=>by cases h
 |n+1,ks,s,r,h=>by
  rw[nq] at h;simp only at h;split at h
  ·split at h
   ·have:=GS h;simp[aD5] at this;omega
   ·split at h
    ·obtain⟨x,hx,h⟩:=al h;have:=GS h;simp[aD5] at this;omega
    ·have:=GS h;omega
  ·cases h;simp
end
section
variable {l:List Tok}
def Mw(B:Nat)(one:PS->PR):Prop:=∀s r,one s=some r->mx r.1<=B
def YF{B}{one:PS->PR}(b:Mw B one){e}:∀{n:Nat} {ks:List Nd} {s:PS} {r:List Nd×PS},nu l one e n ks s=some r->fT ks<=B->fT r.1<=B
 |0,ks,s,r,h,_=>by cases h
 |n+1,ks,s,r,h,c=>by
  rw[nu] at h;split at h
  ·obtain⟨x,d,h⟩:=al h;have h1:=b _ _ d;have a:fT (ks++[x.1])<=B:=by simp[zU,nP];omega
   split at h
   ·cases h;exact a
   ·exact YF b h a
  ·cases h;exact c
def Er{B}{one:PS->PR}(b:Mw B one){e}{n}{ks}{s}{r}(h:mc l one e n ks s=some r)(a:fT ks<=B):fT r.1<=B:=by
 rw[mc] at h;split at h
 ·cases h;exact a
 ·exact YF b h a
def W5{B}{one:PS->PR}(b:Mw B one):∀{n:Nat} {ks:List Nd} {s:PS} {r:List Nd×PS},nU l one n ks s=some r->fT ks<=B->fT r.1<=B
 |0,ks,s,r,h,_=>by cases h
 |n+1,ks,s,r,h,a=>by
  rw[nU] at h;split at h
  ·split at h
   ·cases h;exact a
   ·obtain⟨x,c,h⟩:=al h;have h1:=b _ _ c;exact W5 b h (by simp[zU,nP];omega)
  ·cases h;exact a
def Es{B C}{one:PS->PR}(c:Mw B one)(h5:5<=B){k}{a}{s}{r}(h:lL k a one s=some r)(ha:mx a<=C)(hB:B<=C):mx r.1<=C+1:=by obtain⟨x,b,h⟩:=al h;cases h;have:=c _ _ b;simp[eN,YE];omega
def N9{B}{one:PS->PR}(b:Mw B one)(c:5<=B):∀{n:Nat} {a:Nd} {s:PS} {r:Nd×PS} {C:Nat},k_ l one n a s=some r->mx a<=C->B<=C->mx r.1<=C+n
 |0,a,s,r,C,h,_,_=>by cases h
 |n+1,a,s,r,C,h,e,f=>by
  rw[k_] at h;split at h
  ·split at h
   ·obtain⟨x,d,h⟩:=al h;have:=N9 b c h (Es b c d e f) aa;omega
   ·split at h
    ·obtain⟨x,d,h⟩:=al h;have:=N9 b c h (Es b c d e f) aa;omega
    ·grind
  ·grind
def W6{B}{one:PS->PR}(b:Mw B one)(c:5<=B):∀{n:Nat} {a:Nd} {s:PS} {r:Nd×PS} {C:Nat},qA l one n a s=some r->mx a<=C->B<=C->mx r.1<=C+n
 |0,a,s,r,C,h,_,_=>by cases h
 |n+1,a,s,r,C,h,d,e=>by
  rw[qA] at h;split at h
  ·obtain⟨x,f,h⟩:=al h;have:=W6 b c h (Es b c f d e) aa;omega
  ·grind
def Nt{B}{one:PS->PR}(b:Mw B one)(c:5<=B):∀{n:Nat} {a:Nd} {s:PS} {r:Nd×PS} {C:Nat},n+1<=C->nk l one n a s=some r->mx a<=C->B<=C->mx r.1<=C+n
 |0,a,s,r,C,_,h,_,_=>by cases h
 |n+1,a,s,r,C,hnC,h,e,g=>by
  rw[nk] at h;split at h
  ·split at h
   ·have:=Nt b c (C:=C+1) aa h (by simp[so,wv,eN,nP];omega) aa;omega
   ·split at h
    ·obtain⟨x,d,h⟩:=al h;have i:=BG l d;simp at i;have h1:=Er (B:=C) (λs r f=>aDj (b s r f) g) d (by rw[nP];exact e);have:=Nt b c (C:=C+1) aa h (by simp[eN];omega) aa;omega
    ·grind
  ·grind
def bm:Nat->Nat
 |0=>5
 |n+1=>bm n+n+9
def av8(n):bm n<=(n+9)*(n+9):=by
 induction n with
 |zero=>decide
 |succ n ih=>
  simp[bm];have:(n+1+9)*(n+1+9)=(n+9)*(n+9)+(2*n+19):=by grind
  omega
def alz(n):bm n<=bm (n+1):=by simp[bm];omega
def abX(n):n+5<=bm n:=by
 induction n with
 |zero=>decide
 |succ n ih=>simp[bm];omega
def aar(n):5<=bm n:=by
 induction n with
 |zero=>decide
 |succ n ih=>simp only[bm];omega
def Iz:∀n task,Mw (bm n) (P l n task)
 |0,task=>λs r h=>by cases task<;>cases h
 |n+1,task=>λs r h=>by
  have ih:=λt=>Iz n t;have hb:bm (n+1)=bm n+n+9:=rfl;have f:=aar n
  cases task with
  |kind=>
   rw[P] at h;simp only at h;split at h
   ·cases h;simp[eN,lE];omega
   split at h
   ·cases h;simp[eN,lE];omega
   split at h
   ·cases h;simp[eN,lE];omega
   split at h
   ·obtain⟨x,a,h⟩:=al h;cases h;have e:=BG l a;simp at e;have:=Er (ih .field) a (by rw[lE];omega);simp[eN];omega
   split at h
   ·obtain⟨x,a,h⟩:=al h;obtain⟨y,d,h⟩:=al h;cases h;have e:=BG l a;simp at e;have b:=Er (ih .kind) a (by rw[lE];omega);have c:=ih .kind _ _ d;simp[eN,zU,nP];omega
   ·cases h;simp[eN,lE];omega
  |field=>rw[P] at h;obtain⟨x,a,h⟩:=al h;cases h;have b:=ih .kind _ _ a;have c:=zV (eY (.mk 33 s.at_ 0 [] 0 []) (cT l s).1) [x.1];simp[wv,eN,lE,nP] at c;simp[so];omega
  |entry=>rw[P] at h;obtain⟨x,a,h⟩:=al h;cases h;have b:=ih .expr _ _ a;have c:=zV (eY (.mk 27 s.at_ 0 [] 0 []) (cT l s).1) [x.1];simp[wv,eN,lE,nP] at c;simp[so];omega
  |param=>rw[P] at h;obtain⟨x,a,h⟩:=al h;cases h;have b:=ih .typed _ _ a;have c:=zV (eY (.mk 5 s.at_ 0 [] 0 []) (cT l s).1) [x.1];simp[wv,eN,lE,nP] at c;simp[so];omega
  |typed=>
   rw[P] at h;split at h
   ·have:=ih .kind _ _ h;omega
   ·cases h;simp[aaq];omega
  |params=>rw[P] at h;obtain⟨x,a,h⟩:=al h;cases h;have e:=BG l a;simp at e;have:=Er (ih .param) a (by rw[lE];omega);simp[eN];omega
  |block=>rw[P] at h;obtain⟨x,a,h⟩:=al h;cases h;have e:=UQ l a;simp at e;have:=W5 (ih .stmt) a (by rw[lE];omega);simp[eN];omega
  |expr=>
   rw[P] at h;obtain⟨x,a,h⟩:=al h;have b:=ih .sum _ _ a;split at h
   ·have:=Es (C:=bm n) (ih .sum) f h b (μ _);omega
   split at h
   ·have:=Es (C:=bm n) (ih .sum) f h b (μ _);omega
   ·cases h;omega
  |sum=>rw[P] at h;obtain⟨x,a,h⟩:=al h;have:=N9 (ih .term) f h (ih .term _ _ a) (μ _);omega
  |term=>rw[P] at h;obtain⟨x,a,h⟩:=al h;have:=W6 (ih .post) f h (ih .post _ _ a) (μ _);omega
  |post=>rw[P] at h;obtain⟨x,a,h⟩:=al h;have:=Nt (ih .expr) f (by have:=abX n;omega) h (ih .atom _ _ a) (μ _);omega
  |atom=>
   rw[P] at h;simp only at h;split at h
   ·cases h;simp[eN,lE];omega
   split at h
   ·cases h;simp[eN,lE];omega
   split at h
   ·cases h;simp[so,wv,eN,lE];omega
   split at h
   ·cases h;simp[eN,lE];omega
   split at h
   ·obtain⟨x,a,h⟩:=al h;cases h;have:=ih .expr _ _ a;simp[eN,nP];omega
   split at h
   ·obtain⟨x,a,h⟩:=al h;cases h;have e:=BG l a;simp at e;have:=Er (ih .entry) a (by rw[lE];omega);simp[eN];omega
   split at h
   ·obtain⟨x,a,h⟩:=al h;obtain⟨y,d,h⟩:=al h;obtain⟨z,i,h⟩:=al h;cases h;have b:=ih .params _ _ a;have c:=ih .typed _ _ d;have g:=ih .block _ _ i;simp[eN,G9];omega
   ·cases h;simp[eN,lE];omega
  |stmt=>
   rw[P] at h;simp only at h;split at h
   ·obtain⟨x,a,h⟩:=al h;obtain⟨y,d,h⟩:=al h;cases h;have b:=ih .typed _ _ a;have c:=ih .expr _ _ d;have g:=zV (eY (.mk 7 s.at_ 0 [] 0 []) (cT l (be s)).1) [x.1];simp[wv,eN,lE,nP] at g;have j:=zV (iX (eY (.mk 7 s.at_ 0 [] 0 []) (cT l (be s)).1) [x.1]) [y.1];simp[nP] at j;simp[so];omega
   split at h
   ·obtain⟨x,a,h⟩:=al h;obtain⟨y,d,h⟩:=al h;have b:=ih .expr _ _ a;have c:=ih .block _ _ d;split at h
    ·obtain⟨z,i,h⟩:=al h;cases h;have g:=ih .block _ _ i;simp[eN,G9];omega
    ·cases h;simp[eN,G9,aaq];omega
   split at h
   ·obtain⟨x,a,h⟩:=al h;obtain⟨y,d,h⟩:=al h;cases h;have b:=ih .expr _ _ a;have c:=ih .block _ _ d;simp[eN,YE];omega
   split at h
   ·obtain⟨x,a,h⟩:=al h;cases h;have b:=ih .expr _ _ a;simp[so,eN,nP];omega
   split at h
   ·obtain⟨x,a,h⟩:=al h;cases h;have b:=ih .expr _ _ a;simp[so,eN,nP];omega
   split at h
   ·obtain⟨x,a,h⟩:=al h;cases h;have b:=ih .expr _ _ a;have g:=zV (eY (.mk 8 s.at_ 0 [] 0 []) (cT l s).1) [x.1];simp[wv,eN,lE,nP] at g;simp[so];omega
   ·obtain⟨x,a,h⟩:=al h;cases h;have b:=ih .expr _ _ a;simp[so,eN,nP];omega
def arb{n}{s}{r:Nd×PS}(h:tX l n s=some r):mx r.1<=bm n+5:=by simp[tX] at h;obtain⟨x,d,h⟩:=al h;obtain⟨y,a,h⟩:=al h;obtain⟨z,c,h⟩:=al h;cases h;have h1:=Iz n .params _ _ d;have h2:=Iz n .typed _ _ a;have h3:=Iz n .block _ _ c;have b:=zV (eY (.mk 3 s.at_ 0 [] 0 []) (cT l (cA l [100,101,102] s)).1) [x.1,y.1,z.1];simp[wv,eN,lE,G9] at b;simp[so];omega
def Hs:∀{n:Nat} {ks:List Nd} {s:PS} {r:List Nd×PS},nq l n ks s=some r->∀B,bm n+5<=B->fT ks<=B->fT r.1<=B
 |0,ks,s,r,h,B,_,_=>by cases h
 |n+1,ks,s,r,h,B,hB,a=>by
  have hm:=alz n;rw[nq] at h;simp only at h;split at h
  ·split at h
   ·refine Hs h B aa ?_;simp[zU,nP];have:mx (ny l s).1<=2:=by simp only[ny,so,wv,eN,nP,lE,Χ,Ι];omega
    have:=aar n;omega
   ·split at h
    ·obtain⟨x,b,h⟩:=al h;refine Hs h B aa ?_;have:=arb b;simp[zU,nP];omega
    ·exact Hs h B aa a
  ·cases h;exact a
def alA{n}{r}(h:u_ l n=some r):mx r.1<=bm n+9:=by simp[u_] at h;obtain⟨x,a,h⟩:=al h;cases h;have b:=GS l a;simp at b;have:=Hs a (bm n+5) (μ _) (by rw[lE];omega);have:=abX n;simp[eN];omega
end
section
variable (l:List Tok)
def Sb(s:RS):Prop:=∀b,s.bad=some b->b<l.length
def Bd(one:RS->RR):Prop:=∀s r,one s=some r->Sb l s->Sb l r.2
end
section
variable {l:List Tok}
def nh(a):Sb l ⟨a,none⟩:=λb h=>by cases h
def AB{s:RS}{a}(h:Sb l s):Sb l ⟨a,s.bad⟩:=h
def alB{a}{x}{b}(h:cP l a x=some b):a<l.length:=by
 unfold cP at h
 cases hx:l[a]? with
 |none=>rw[hx] at h;cases h
 |some t=>exact(ο.1 hx).1
def l7{x}{s a}(h:bX l x s=some a)(c:Sb l s):Sb l a:=by
 unfold bX at h;split at h
 ·obtain⟨b,hb,h⟩:=al h;cases h
  cases b with
  |true=>exact nh _
  |false=>intro b h;simp at h;have:=alB hb;omega
 ·cases h;exact c
def wy{n}{s}{r}(h:iF l n s=some r)(a:Sb l s):Sb l r.2:=by
 unfold iF at h;split at h
 ·obtain⟨t,c,h⟩:=al h;cases h;split
  ·exact nh _
  ·intro b h;simp at h;have:=(ο.1 c).1;omega
 ·cases h;exact a
def B8{one:RS->RR}(d:Bd l one){e}{first}:∀{n:Nat} {ks:List Nd} {s:RS} {r:List Nd×RS},jw l one e first n ks s=some r->Sb l s->Sb l r.2
 |0,ks,s,r,h,a=>by cases h
 |n+1,ks,s,r,h,a=>by
  rw[jw] at h;split at h
  ·obtain⟨b,hb,h⟩:=al h
   cases b with
   |true=>grind
   |false=>
    simp at h;obtain⟨x,i,h⟩:=al h;obtain⟨c,hc,h⟩:=al h;have f:=d _ _ i a
    cases c with
    |true=>grind
    |false=>simp at h;obtain⟨s2,g,h⟩:=al h;exact B8 d h (l7 g f)
  ·cases h;exact a
def W7{one:RS->RR}(c:Bd l one):∀{n:Nat} {ks:List Nd} {s:RS} {r:List Nd×RS},oB l one n ks s=some r->Sb l s->Sb l r.2
 |0,ks,s,r,h,a=>by cases h
 |n+1,ks,s,r,h,a=>by
  rw[oB] at h;split at h
  ·obtain⟨b,hb,h⟩:=al h
   cases b with
   |true=>grind
   |false=>simp at h;obtain⟨x,d,h⟩:=al h;exact W7 c h (c _ _ d a)
  ·cases h;exact a
def YG{one:RS->RR}(c:Bd l one):∀{n:Nat} {a:Nd} {s:RS} {r:Nd×RS},pd l one n a s=some r->Sb l s->Sb l r.2
 |0,a,s,r,h,b=>by cases h
 |n+1,a,s,r,h,b=>by
  rw[pd] at h;split at h
  ·obtain⟨p,hp,h⟩:=al h;obtain⟨q,hq,h⟩:=al h
   cases q with
   |true=>simp at h;obtain⟨x,d,h⟩:=al h;exact YG c h (c _ _ d (nh _))
   |false=>grind
  ·cases h;exact b
def W8{one:RS->RR}(c:Bd l one):∀{n:Nat} {a:Nd} {s:RS} {r:Nd×RS},sE l one n a s=some r->Sb l s->Sb l r.2
 |0,a,s,r,h,b=>by cases h
 |n+1,a,s,r,h,b=>by
  rw[sE] at h;split at h
  ·obtain⟨q,hq,h⟩:=al h
   cases q with
   |true=>simp at h;obtain⟨x,d,h⟩:=al h;exact W8 c h (c _ _ d (nh _))
   |false=>grind
  ·cases h;exact b
def Nu{one:RS->RR}(c:Bd l one):∀{n:Nat} {a:Nd} {s:RS} {r:Nd×RS},o_ l one n a s=some r->Sb l s->Sb l r.2
 |0,a,s,r,h,d=>by cases h
 |n+1,a,s,r,h,d=>by
  rw[o_] at h;split at h
  ·obtain⟨p,hp,h⟩:=al h
   cases p with
   |true=>simp at h;obtain⟨x,b,h⟩:=al h;exact Nu c h (wy b (nh _))
   |false=>
    simp at h;obtain⟨q,hq,h⟩:=al h
    cases q with
    |true=>simp at h;obtain⟨x,b,h⟩:=al h;obtain⟨s2,e,h⟩:=al h;exact Nu c h (l7 e (B8 c b (nh _)))
    |false=>grind
  ·cases h;exact d
def ET{n:Nat}(ih:∀t,Bd l (R l n t)){m}{ks}{b}{r}(h:(bn (R l n .expr b) λx=>bn (bX l [59] x.2) λa=>some (ended m a.at_ (ks++[x.1]),a))=some r)(d:Sb l b):Sb l r.2:=by obtain⟨x,e,h⟩:=al h;obtain⟨a,c,h⟩:=al h;cases h;exact l7 c (ih .expr _ _ e d)
def IA:∀n task,Bd l (R l n task)
 |0,task=>λs r h=>by cases task<;>cases h
 |n+1,task=>λs r h d=>by
  have ih:=λt=>IA n t
  cases task with
  |kind=>
   simp only[R] at h;split at h
   ·obtain⟨b,hb,h⟩:=al h
    cases b with
    |true=>simp only[aDp,Ζ] at h;subst h;exact nh _
    |false=>
    simp only[τ,aDf] at h;obtain⟨b,hb,h⟩:=al h
    cases b with
    |true=>simp only[aDp,Ζ] at h;subst h;exact nh _
    |false=>
    simp only[τ,aDf] at h;obtain⟨b,hb,h⟩:=al h
    cases b with
    |true=>simp only[aDp,Ζ] at h;subst h;exact nh _
    |false=>
    simp only[τ,aDf] at h;obtain⟨b,hb,h⟩:=al h
    cases b with
    |true=>simp only[aDp] at h;obtain⟨x,a,h⟩:=al h;obtain⟨v,m,h⟩:=al h;cases h;exact l7 m (B8 (ih .field) a (nh _))
    |false=>simp only[τ,aDf] at h;obtain⟨u,g,h⟩:=al h;obtain⟨v,m,h⟩:=al h;obtain⟨x,a,h⟩:=al h;obtain⟨s3,H,h⟩:=al h;obtain⟨s4,G,h⟩:=al h;obtain⟨y,j,h⟩:=al h;cases h;have f:=ih .kind _ _ j (l7 G (l7 H (B8 (ih .kind) a (l7 m (l7 g d)))));exact f
   ·cases h;exact d
  |field=>simp only[R] at h;obtain⟨x,a,h⟩:=al h;obtain⟨u,g,h⟩:=al h;obtain⟨y,j,h⟩:=al h;cases h;have f:=ih .kind _ _ j (l7 g (wy a d));exact f
  |typed=>
   simp only[R] at h;obtain⟨b,hb,h⟩:=al h
   cases b with
   |true=>simp only[aDp] at h;exact ih .kind _ _ h (nh _)
   |false=>grind
  |params=>simp only[R] at h;obtain⟨u,g,h⟩:=al h;obtain⟨x,a,h⟩:=al h;obtain⟨v,m,h⟩:=al h;cases h;exact l7 m (B8 (ih .param) a (l7 g d))
  |param=>simp only[R] at h;obtain⟨x,a,h⟩:=al h;obtain⟨y,j,h⟩:=al h;cases h;have f:=ih .typed _ _ j (wy a d);exact f
  |block=>simp only[R] at h;obtain⟨u,g,h⟩:=al h;obtain⟨x,a,h⟩:=al h;obtain⟨v,m,h⟩:=al h;cases h;exact l7 m (W7 (ih .stmt) a (l7 g d))
  |stmt=>
   simp only[R] at h;obtain⟨i,hi,h⟩:=al h;obtain⟨w,hw,h⟩:=al h
   cases w with
   |true=>
    simp only[aDp] at h;obtain⟨c,I,h⟩:=al h;obtain⟨b,hb,h⟩:=al h;have A:=ih .block _ _ hb (ih .expr _ _ I (AB d))
    cases i with
    |true=>
     simp only[aDp] at h;obtain⟨e,F,h⟩:=al h
     cases e with
     |true=>simp only[aDp] at h;obtain⟨o,D,h⟩:=al h;cases h;have f:=ih .block _ _ D (AB A);exact f
     |false=>grind
    |false=>grind
   |false=>
    simp only[τ,aDf] at h;obtain⟨e,F,h⟩:=al h
    cases e with
    |true=>simp only[aDp] at h;obtain⟨x,a,h⟩:=al h;obtain⟨t,B,h⟩:=al h;obtain⟨u,g,h⟩:=al h;exact ET ih h (l7 g (ih .typed _ _ B (wy a (AB d))))
    |false=>
     simp only[τ,aDf] at h;obtain⟨p,C,h⟩:=al h
     cases p with
     |true=>simp only[aDp] at h;exact ET ih h (AB d)
     |false=>
      simp only[τ,aDf] at h;obtain⟨q,E,h⟩:=al h
      cases q with
      |true=>simp only[aDp] at h;exact ET ih h (AB d)
      |false=>
       simp only[τ,aDf] at h;obtain⟨t,B,h⟩:=al h;obtain⟨b,hb,h⟩:=al h
       cases b with
       |true=>simp only[aDp] at h;obtain⟨x,a,h⟩:=al h;exact ET ih h (AB (wy a d))
       |false=>simp only[τ,aDf] at h;exact ET ih h d
  |expr=>
   simp only[R] at h;obtain⟨x,a,h⟩:=al h;have A:=ih .sum _ _ a d;split at h
   ·obtain⟨p,C,h⟩:=al h;obtain⟨q,E,h⟩:=al h
    cases q with
    |true=>simp only[aDp] at h;obtain⟨k,hk,h⟩:=al h;obtain⟨y,j,h⟩:=al h;cases h;have f:=ih .sum _ _ j (nh _);exact f
    |false=>grind
   ·cases h;exact A
  |sum=>simp only[R] at h;obtain⟨x,a,h⟩:=al h;exact YG (ih .term) h (ih .term _ _ a d)
  |term=>simp only[R] at h;obtain⟨x,a,h⟩:=al h;exact W8 (ih .post) h (ih .post _ _ a d)
  |post=>simp only[R] at h;obtain⟨x,a,h⟩:=al h;exact Nu (ih .expr) h (ih .atom _ _ a d)
  |atom=>
   simp only[R] at h;split at h
   ·obtain⟨t,B,h⟩:=al h;split at h
    ·cases h;exact nh _
    split at h
    ·cases h;exact nh _
    split at h
    ·cases h;exact nh _
    obtain⟨b,hb,h⟩:=al h
    cases b with
    |true=>simp only[aDp,Ζ] at h;subst h;exact nh _
    |false=>
    simp only[τ,aDf] at h;obtain⟨b,hb,h⟩:=al h
    cases b with
    |true=>simp only[aDp] at h;obtain⟨x,a,h⟩:=al h;obtain⟨v,m,h⟩:=al h;cases h;exact l7 m (ih .expr _ _ a (nh _))
    |false=>
    simp only[τ,aDf] at h;obtain⟨b,hb,h⟩:=al h
    cases b with
    |true=>simp only[aDp] at h;obtain⟨x,a,h⟩:=al h;obtain⟨v,m,h⟩:=al h;cases h;exact l7 m (B8 (ih .entry) a (nh _))
    |false=>simp only[τ,aDf] at h;obtain⟨u,g,h⟩:=al h;obtain⟨x,a,h⟩:=al h;obtain⟨y,j,h⟩:=al h;obtain⟨z,J,h⟩:=al h;cases h;have f:=ih .block _ _ J (ih .typed _ _ j (ih .params _ _ a (l7 g d)));exact f
   ·cases h;exact d
  |entry=>simp only[R] at h;obtain⟨x,a,h⟩:=al h;obtain⟨u,g,h⟩:=al h;obtain⟨y,j,h⟩:=al h;cases h;have f:=ih .expr _ _ j (l7 g (wy a d));exact f
def W9:∀{n:Nat} {ks:List Nd} {s:RS} {r:List Nd×RS},rn l n ks s=some r->Sb l s->Sb l r.2
 |0,ks,s,r,h,c=>by cases h
 |n+1,ks,s,r,h,c=>by
  rw[rn] at h;split at h
  ·obtain⟨t,ht,h⟩:=al h;split at h
   ·cases h;exact c
   ·obtain⟨b,hb,h⟩:=al h;obtain⟨x,a,h⟩:=al h;refine W9 h ?_
    cases b with
    |true=>simp[A0] at a;obtain⟨m,hm,a⟩:=al a;obtain⟨s1,o,a⟩:=al a;obtain⟨y,d,a⟩:=al a;obtain⟨s2,j,a⟩:=al a;cases a;exact l7 j (wy d (l7 o (wy hm (AB c))))
    |false=>simp[A1] at a;obtain⟨s0,f,a⟩:=al a;obtain⟨y,d,a⟩:=al a;obtain⟨u,k,a⟩:=al a;obtain⟨v,g,a⟩:=al a;obtain⟨w,e,a⟩:=al a;cases a;have i:=IA n .block _ _ e (IA n .typed _ _ g (IA n .params _ _ k (wy d (l7 f c))));exact i
  ·cases h;exact c
def alC{n}{r}(h:CI l n=some r):Sb l r.2:=by simp[CI] at h;obtain⟨x,a,h⟩:=al h;cases h;exact W9 a (nh _)
end
abbrev bl:=Op.bytesLess
def Jd:∀x y,bl x y=decide (x<y)
 |[],[]=>by simp[Op.bytesLess]
 |_::_,[]=>by simp[Op.bytesLess]
 |[],_::_=>by simp[Op.bytesLess]
 |a::x,b::y=>by have ih:Op.bytesLess x y=decide (x<y):=Jd x y;simp[Op.bytesLess,List.cons_lt_cons_iff];rw[ih];by_cases c:a<b<;>by_cases d:a=b<;>by_cases e:x<y<;>simp[c,d,e]
def uN(x):bl x x=false:=by rw[Jd];simp
def zR{x y z}(h:bl x y=true)(k:bl y z=true):bl x z=true:=by
 rw[Jd] at*
 simp at*
 exact List.lt_trans h k
def EU{x y}(h:bl x y=false)(k:bl y x=false):x=y:=by
 rw[Jd] at*
 simp at*
 exact List.le_antisymm (List.not_lt.1 k) (List.not_lt.1 h)
def Nv{x y}(h:bl x y=true):bl y x=false:=by
 cases k:bl y x with
 |false=>rfl
 |true=>have:=zR h k;rw[uN] at this;cases this
def av9(x y):(!(Op.bytesLess y x||y==x))=Op.bytesLess x y:=by
 cases h:bl x y with
 |true=>
  have a:=Nv h;have b:(y==x)=false:=by grind
  rw[show Op.bytesLess y x=false from a,b];exact h.symm
 |false=>
  rw[show Op.bytesLess x y=false from h]
  cases k:bl y x with
  |true=>rw[show Op.bytesLess y x=true from k];rfl
  |false=>have:=EU h k;subst this;simp
structure wL(l:List Tok):Prop where
 ap:l.Pairwise λa b=>a.2.1+a.2.2.2.length<=b.2.1
 ne:∀t∈l,t.1≠0->t.2.2.2≠[]
 top:∀t∈l,t.2.1+t.2.2.2.length<=16384
 ends:∃out e,l=out++[e]/\∀t∈out,t.1≠0
structure awa(s:List UInt8)(i:Nat)(out:List Tok):Prop where
 ap:out.Pairwise λa b=>a.2.1+a.2.2.2.length<=b.2.1
 ne:∀t∈out,t.1≠0/\t.2.2.2≠[]
 low:∀t∈out,t.2.1+t.2.2.2.length<=i
def Vm(s:List UInt8)(B:s.length<=16384):∀f i out l,i<=s.length->qI s f i out=.ok l->awa s i out->wL l
 |0,i,out,l,hi,h,hb=>by cases h
 |f+1,i,out,l,hi,h,hb=>by
  rw[qI] at h;have D:=Hp (s.drop i);rw[atB] at D;generalize ha:s.length-(lead (s.drop i)).length=a at h;split at h
  ·cases h
  ·rename_i k n z;have r:=x_ z;split at h
   ·cases h
   ·rename_i h4;generalize m:((k,a,(s.drop i).take ((s.drop i).length-(lead (s.drop i)).length),(lead (s.drop i)).take n):Tok)=tk at h;have q:tk.1=k:=by rw[<-m]
    have Du:tk.2.1=a:=by rw[<-m]
    have w:tk.2.2.2=(lead (s.drop i)).take n:=by rw[<-m]
    have g:tk.2.2.2.length=n:=by rw[w,aDx];omega
    have p:(out++[tk]).Pairwise λa b=>a.2.1+a.2.2.2.length<=b.2.1:=by rw[aEC];refine⟨hb.ap,aEG _ _,λx C y u=> ?_⟩;rw[Μ] at u;subst u;have:=hb.low x C;omega
    have o:k≠0->tk.2.2.2≠[]:=λj e=>by have v:lead (s.drop i)≠[]:=λe=>j (r.2.1.2 e);have:=r.2.2.1 v;rw[e] at g;simp at g;omega
    split at h
    ·rename_i j;simp at h;subst h;refine⟨p,λt d A=> ?_,λt d=> ?_,out,tk,rfl,λt d=>(hb.ne t d).1⟩
     ·rcases Ω.1 d with c|c
      ·exact(hb.ne t c).2
      ·rw[Μ] at c;subst c;exact absurd (q.trans j) A
     ·rcases Ω.1 d with c|c
      ·have:=hb.low t c;omega
      ·rw[Μ] at c;subst c;omega
    ·rename_i j;refine Vm s B f (a+n) (out++[tk]) l (by omega) h ⟨p,λt d=> ?_,λt d=> ?_⟩
     ·rcases Ω.1 d with c|c
      ·exact hb.ne t c
      ·rw[Μ] at c;subst c;exact⟨by rw[q];exact j,o j⟩
     ·rcases Ω.1 d with c|c
      ·have:=hb.low t c;omega
      ·rw[Μ] at c;subst c;omega
def agZ{s}{l}(h:lex s=.ok l):wL l:=by
 rw[lex] at h;split at h
 ·cases h
 ·rename_i hs;split at h
  ·cases h
  ·exact Vm s (by omega) _ 0 [] l (aDT _) h ⟨List.Pairwise.nil,λt a=>absurd a ai,λt a=>absurd a ai⟩
def wL.kind{l:List Tok}(h:wL l){i:Nat}{t:Tok}(a:l[i]? =some t)(hi:i+1<l.length):t.1≠0:=by obtain⟨out,e,rfl,b⟩:=h.ends;rw[Ξ (by simp at hi;omega)] at a;exact b t (Β a)
def wL.lt{l:List Tok}(h:wL l){i j:Nat}{x y:Tok}(hi:l[i]? =some x)(b:l[j]? =some y)(e:i<j):x.2.1+x.2.2.2.length<=y.2.1:=by obtain⟨d,a⟩:=ο.1 hi;obtain⟨c,f⟩:=ο.1 b;have:=aEe.1 h.ap i j d c e;rw[a,f] at this;exact this
end Go.Proofs.YtmehamiifalmaaaGreatDoor
