/- LintFinds: part 5 of its proof. -/
import Derived.Test.YtmehamiifalmaaaGreatDoorG3
import Derived.Lib.UnsafeStr
import Derived.Lib.Fields
import Derived.Lib.Bytealg
import Derived.Shelf.Unicode.DecodeAny
import Derived.Lib.ParseIntB
set_option linter.all false
namespace Go.Ab
open Go Go.RowKit
def aY.under{P}{B}{W0}{H}{σ}{w w':World}(a:aY P B W0 H σ w)(h:Below w.heap.size w w'):aY P B W0 H σ w':=by
 refine⟨a.below.trans (.of h a.size),a.base,λb o v e=> ?_,a.one,a.fresh,a.keys,λid x f=> ?_,a.inj⟩
 ·rw[h.cell (a.Aq e)];exact a.cells b o v e
 ·have c:=a.obj id x f;refine c.cj σ.le_refl (λb hb=> ?_) (λ_=>rfl);obtain⟨b',d,_,g⟩:=c.aX;rw[hb] at d;cases d;exact⟨h.block b g,λo=>rfl⟩
def wV:List AV->Option (List UInt8)
 |[]=>some []
 | .int .u8 n::r=>if 0<=n/\n<256 then an (wV r) λl=>some (UInt8.ofNat n.toNat::l) else none
 |_::_=>none
def U6:∀{es:List AV} {l:List UInt8},wV es=some l->es=l.map λx=>.int .u8 x.toNat
 |[],l,h=>by simp[wV] at h;subst h;rfl
 |e::es,l,h=>by
  unfold wV at h;split at h
  ·rename_i a;cases a
  ·rename_i n r a;cases a;split at h
   ·rename_i c
    cases hb:wV es with
    |none=>rw[hb] at h;cases h
    |some l'=>rw[hb] at h;cases h;have b:(n.toNat:Int)=n:=aF4 c.1;have d:n.toNat<256:=aa;simp only[aEv,List.cons.injEq,AV.int.injEq,aGh];refine⟨?_,(@U6 es) hb⟩;rw[UInt8.toNat_ofNat',Nat.mod_eq_of_lt (by simpa using d),b]
   ·cases h
  ·cases h
section
variable {P:Program} {B:Nat->Prop} {W0:World} {H:ab} {σ:St} {w:World}
def Fl:AV->Bool| .val (.pointer none)=>true|_=>false
def Jl(id:Nat):AV->Bool| .ptr i 0=>i==id|_=>false
def uv(f0:FuncId)(T:TypeId):cu:=λf args H=>
 if f=f0 then
  match args with
  |[.ptr id 0]=>match H.get id with
   |some (.cells (some t) [c,v])=>
    if t=T then(if Fl c=true then some (.tup [],H.set id (.k t [.ptr id 0,v])) else if Jl id c=true then some (.tup [],H) else none) else none
   |_=>none
  |_=>none
 else none
def afK{c}(h:Fl c=true):c=.val (.pointer none):=by
 unfold Fl at h;split at h
 ·rfl
 ·cases h
def afL{c}{id}(h:Jl id c=true):c=.ptr id 0:=by
 unfold Jl at h;split at h
 ·simp at h;rw[h]
 ·cases h
def afM(w:World)(b)(c:Array Value)(e)(v)(h:w.heap[b]? =some (.cells c e (0,0))):w.setCell ⟨b,0,none⟩ v=w.setRow b (c.setIfInBounds 0 v):=by
 have hb:b<w.heap.size:=(Α.1 h).1;have hg:w.heap[b]=.cells c e (0,0):=(Α.1 h).2;unfold World.setCell World.setRow;congr 1;apply Array.ext
 ·simp
 ·intro i h1 h2;simp[Array.getElem_modify];by_cases hi:b=i
  ·subst hi;simp[hg]
  ·simp[hi]
def aiK{f0}{T}(I:kM P f0)
  (A:∀(b) (w:World),w.cell? ⟨b,0,none⟩=some (.pointer (some ⟨b,0,none⟩))->Calls P f0 #[.pointer (some ⟨b,0,none⟩)] w λe w'=>e=.returned (.tuple #[])/\w'=w)
  (q:∀(b) (w:World),w.cell? ⟨b,0,none⟩=some (.pointer none)->w.shape? b=some (T,2)->w.frozen? ⟨b,0,none⟩=false->Calls P f0 #[.pointer (some ⟨b,0,none⟩)] w λe w'=>e=.returned (.tuple #[])/\w'=w.setCell ⟨b,0,none⟩ (.pointer (some ⟨b,0,none⟩))):
  dK P (uv f0 T):=by
 intro f args H v H' a;unfold uv at a;split at a
 ·rename_i hf;subst hf;refine⟨I,?_⟩;split at a
  ·rename_i id;split at a
   ·rename_i t c x hg;split at a
    ·rename_i y;subst y;intro B W0 σ w us h o;simp only[au] at o;obtain⟨u,eG,rfl,p,rfl⟩:=o;simp[aj] at p;obtain⟨b,hb,rfl⟩:=p;obtain⟨b',r,e,j,q2,g,n,q5,z⟩:=h.obj id _ hg;rw[hb] at j;cases j;have:=z _ rfl;subst this;simp only[au] at n;obtain⟨k,r1,F,d,D,r2,C,s,G⟩:=n;subst G C;have E:r=#[k,D]:=by apply aF9;simpa using F
     subst E;have l:w.cell? ⟨b,0,none⟩=some k:=by rw[cell_of_row g];rfl
     split at a
     ·rename_i i;rw[afK i] at d;simp[aj] at d;subst d;cases a;refine(q b w l (by simp[World.shape?,g]) (by simp[World.frozen?,g])).mono ?_;rintro e w' ⟨rfl,rfl⟩;refine⟨_,rfl,σ,Ext.refl B σ,?_,by simp[aj,au]⟩;rw[afM w b _ _ _ g];refine h.V3 hg hb g ?_;simp only[au];exact⟨_,_,rfl,by simp[aj,hb],_,_,rfl,s,rfl⟩
     ·split at a
      ·rename_i i;rw[afL i] at d;simp[aj] at d;obtain⟨b2,m,rfl⟩:=d;rw[hb] at m;cases m;cases a;refine(A b w l).mono ?_;rintro e w' ⟨rfl,rfl⟩;exact⟨_,rfl,σ,Ext.refl B σ,h,by simp[aj,au]⟩
      ·cases a
    ·cases a
   ·cases a
  ·cases a
 ·cases a
def wM(f0:FuncId)(T:TypeId):cu:=λf args H=>
 if f=f0 then
  match args with
  |[.ptr id 0]=>match H.get id with
   |some (.cells (some t) [_,.vec o es])=>
    if t=T then
     match o with
     | .nil=>if es.length=0 then some (.str [],H) else none
     | .own k=>match H.get k with
      |some (.bQ n et)=>if et=5/\n=es.length/\n≠0 then an (wV es) λl=>some (.str l,H.del k) else none
      |_=>none
     |_=>none
    else none
   |_=>none
  |_=>none
 else none
def afe(d:aY P B W0 H σ w){k n}{et}(j:H.get k=some (.bQ n et)){g cap}(hg:σ.own k n=some (g,cap))(m):aY P B W0 (H.del k) σ (w.drew.freeze ⟨g,0,none⟩ m):=by
 have t:¬B g:=by obtain⟨b,zj,c,s,p,v,_⟩:=d.obj k _ j;rw[hg] at p;cases p;exact v
 have l:∀i,i≠g->(w.drew.freeze ⟨g,0,none⟩ m).heap[i]? =w.heap[i]? :=λi hi=>by
  unfold World.freeze;split
  ·rfl
  ·simp[aFN];rw[κ (λe=>hi e.symm)];rfl
 refine(d.del k).aw1 (b:=g) l (λo=> ?_) (d.below.trans ⟨?_,?_,?_,?_,λi hi=>l i (by rintro rfl;exact t hi)⟩) (λid y a r=> ?_)
 ·unfold World.freeze;split
  ·rfl
  ·simp[World.cell?,aFN];have u:w.drew.heap[g]? =w.heap[g]? :=rfl;rw[u]
   cases h:w.heap[g]? with
   |none=>rfl
   |some x=>cases x<;>rfl
 ·unfold World.freeze;split<;>rfl
 ·unfold World.freeze;split<;>rfl
 ·unfold World.freeze;split<;>rfl
 ·unfold World.freeze;split
  ·exact ν _
  ·show w.heap.size<=(Array.modify w.heap g _).size;simp
 ·have f:H.get id=some y/\id≠k:=by
   rw[ab.Cx] at a;split at a
   ·cases a
   ·rename_i q;exact⟨a,λe=>q e.symm⟩
  exact f.2 (d.inj id k y _ f.1 j (by rw[r];simp[aX,hg]))
def agy{f0}{T}(hc:kM P f0)(V:bX P 5=some 1)
  (X:∀(b) (p) (w:World),w.heap[b]? =some (.cells #[p,.slice none 0 0] T (0,0))->Calls P f0 #[.pointer (some ⟨b,0,none⟩)] w λe w'=>e=.returned (.string ⟨#[]⟩)/\w'=w.drew)
  (N:∀(b g cap) (p) (h:Array Value) (l:List UInt8) (w:World),w.heap[b]? =some (.cells #[p,.slice (some ⟨g,0,none⟩) l.length cap] T (0,0))->w.heap[g]? =some (.cells h 5 (0,0))->h.size=cap->l.length<=cap->cap<=maxLen->l≠[]->
   (∀j x,l[j]? =some x->w.cell? ⟨g,j,none⟩=some (.int .u8 x.toNat))->Calls P f0 #[.pointer (some ⟨b,0,none⟩)] w λe w'=>e=.returned (.string ⟨l.toArray⟩)/\w'=w.drew.freeze ⟨g,0,none⟩ l.length):
  dK P (wM f0 T):=by
 intro f args H v H' d;unfold wM at d;split at d
 ·rename_i hf;subst hf;refine⟨hc,?_⟩;split at d
  ·rename_i id;split at d
   ·rename_i t c o es hg;split at d
    ·rename_i Q;subst Q;intro B W0 σ w us q K;simp only[au] at K;obtain⟨u,eG,rfl,z,rfl⟩:=K;simp[aj] at z;obtain⟨b,hb,rfl⟩:=z;obtain⟨b',O,e,I,q2,r,J,q5,S⟩:=q.obj id _ hg;rw[hb] at I;cases I;have:=S _ rfl;subst this;simp only[au] at J;obtain⟨E,r1,e1,zL,u1,F,Z,C,e3⟩:=J;subst e3 Z;have iE:O=#[E,u1]:=by apply aF9;simpa using e1
     subst iE;have D:=C;simp[aj] at C;obtain⟨a,cap,rfl,hle,A,qO⟩:=C;split at d
     ·split at d
      ·rename_i R;simp[nO] at A;obtain⟨rfl,_,rfl⟩:=A;rw[R] at r;cases d;refine(X b E w r).mono ?_;rintro e w' ⟨rfl,rfl⟩;exact⟨_,rfl,σ,Ext.refl B σ,q.drew,by simp[aj]⟩
      ·cases d
     ·rename_i k;split at d
      ·rename_i n et G;split at d
       ·rename_i U;obtain⟨rfl,rfl,uL⟩:=U
        cases oO:wV es with
        |none=>simp[oO,an] at d
        |some l=>
         simp[oO,an] at d;obtain⟨rfl,rfl⟩:=d;have y:=U6 oO;have i:es.length=l.length:=by rw[y];simp
         simp[nO] at A;obtain⟨g,m,rfl⟩:=A;obtain⟨g',zj,h,s,p1,p2,p3,p4,p5,p6,p7,p8,p9⟩:=q.obj k _ G;rw[m] at p1;cases p1;rw[V] at p4;cases p4;have Y:l≠[]:=by rintro rfl;exact uL (by rw[i];rfl)
         have M:∀j x,l[j]? =some x->w.cell? ⟨g,j,none⟩=some (.int .u8 x.toNat):=by
          intro j x hj;have hw:fF 1 es=true:=by rw[y];exact UF l
          obtain⟨a2,aBr,us,e4,_,_,F,_,jU,_⟩:=Nv q D hw;cases e4;have GJ:es.flatMap AV.cells=es:=by rw[y];exact UM l
          rw[GJ] at F;have W:es[j]? =some (.int .u8 x.toNat):=by rw[y];simp[hj]
          obtain⟨u,z,L⟩:=F.get W;simp[aj] at L;subst L;have:=jU _ rfl j _ z;rw[Addr.qF] at this;simpa using this
         rw[i] at r;refine(N b g cap E h l w r p3 (by simpa using p5) aa p7 Y M).mono ?_;rintro e w' ⟨rfl,rfl⟩;exact⟨_,rfl,σ,Ext.refl B σ,afe q G m _,by simp[aj]⟩
       ·cases d
      ·cases d
     ·cases d
    ·cases d
   ·cases d
  ·cases d
 ·cases d
def bG(a b:cu):cu:=λf args H=>match a f args H with|some r=>some r|none=>b f args H
def mJ{a b:cu}(c:dK P a)(hb:dK P b):dK P (bG a b):=by
 intro f args H v H' h;unfold bG at h;split at h
 ·rename_i r d;cases h;exact c f args H v H' d
 ·exact hb f args H v H' h
end
section
variable {P:Program} {B:Nat->Prop} {W0:World} {H:ab} {σ:St} {w:World}
def AQ(f0:FuncId):cu:=λf args H=>
 match args with
 |[.str l,.int .u8 c]=>if f=f0 then some (.i (Lib.indexByte l c.toNat.toUInt8),H) else none
 |_=>none
def ahs{f0}(k:kM P f0)(h:∀(s:ByteArray) (c:Int) (w),Calls P f0 #[.string s,.int .u8 c] w λe w'=>e=.returned (.i (Lib.indexByte s.data.toList c.toNat.toUInt8))/\w'=w):dK P (AQ f0):=by
 intro f args H v H' a;unfold AQ at a;split at a
 ·rename_i l c;split at a
  ·rename_i hf;subst hf;cases a;refine⟨k,?_⟩;intro B W0 σ w us j d;simp only[au] at d;obtain⟨u,eG,rfl,g,u2,Lf,rfl,b,rfl⟩:=d;simp only[aj] at g b;subst g b;refine(h ⟨l.toArray⟩ c w).mono ?_;rintro e w' ⟨rfl,rfl⟩;exact⟨_,rfl,σ,Ext.refl B σ,j,by simp[aj]⟩
  ·cases a
 ·cases a
end
section
variable {P:Program} {B:Nat->Prop} {W0:World} {H:ab} {σ:St} {w:World}
end
end Go.Ab
namespace Go.Ab
open Go
def dec:List UInt8->Nat×Nat
 |[]=>(65533,0)
 |a::l=>Lib.decodeN (l.length+1) a.toNat ((l[0]?).getD 0).toNat ((l[1]?).getD 0).toNat ((l[2]?).getD 0).toNat
def aiL(l:List UInt8)(i):(⟨l.toArray⟩:ByteArray).get! i=(l[i]?).getD 0:=by show l.toArray[i]! =_;rw[getElem!_def];simp[aFM];cases l[i]? <;>rfl
def arT(l:List UInt8):Lib.decodeGo ⟨l.toArray⟩=dec l:=by
 cases l with
 |nil=>rfl
 |cons a l=>unfold Lib.decodeGo;rw[κ (by simp[ByteArray.size]),Lib.decode_at];simp[aiL,dec];simp[ByteArray.size]
def Ay(f0:FuncId):cu:=λf args H=>
 match args with
 |[.str l]=>if f=f0 then some (.tup [.int .i32 (dec l).1,.i (dec l).2],H) else none
 |_=>none
section
open Go.RowKit
variable {P:Program}
def agz{f0}{g3 a}(k:kM P f0)(h3:P.globalNamed "unicode/utf8.first" =some g3)(m:P.globalNamed "unicode/utf8.acceptRanges" =some a)
  (h:∀(s) (w:World),Lib.Utf8Tabs g3 a w->Calls P f0 #[.string s] w λe w'=>e=.returned (.tuple #[.int .i32 (Lib.decodeGo s).1,.i (Lib.decodeGo s).2])/\Below w.heap.size w w'):dK P (Ay f0):=by
 intro f args H v H' b;unfold Ay at b;split at b
 ·rename_i l;split at b
  ·rename_i hf;subst hf;cases b;refine⟨k,?_⟩;intro B W0 σ w us j n;simp only[au] at n;obtain⟨u,eG,rfl,o,rfl⟩:=n;simp only[aj] at o;subst o
   have p:Lib.Utf8Tabs g3 a w:=by
    refine⟨λc k=> ?_,λi hi=>⟨?_,?_⟩⟩
    ·obtain⟨_,v,g,d⟩:=j.yx.vY g3 c _ (.first g3 c h3 k);rw[g,d]
    ·obtain⟨_,v,g,d⟩:=j.yx.vY a (2*i) _ (.lo a i m hi);rw[g,d]
    ·obtain⟨_,v,g,d⟩:=j.yx.vY a (2*i+1) _ (.hi a i m hi);rw[g,d]
   refine(h ⟨l.toArray⟩ w p).mono ?_;rintro e w' ⟨rfl,hb⟩;rw[arT];exact⟨_,rfl,σ,Ext.refl B σ,j.under hb,by simp[aj,au]⟩
  ·cases b
 ·cases b
def yZ(l:List UInt8):Bool:=match Lib.parseUintB 63 l with| .ok _=>true|_=>false
def CO(f0:FuncId)(t:TypeId):cu:=λf args H=>
 match args with
 |[.str l,.int .i64 10,.int .i64 63]=>
  if f=f0/\l.length<=1099511627776 then
   match Lib.parseUintB 63 l with
   | .ok u=>some (.tup [.int .u64 u,.val .nilIface],H)
   |_=>some (.tup [.any,.iface t .any],H)
  else none
 |_=>none
def aht{f0}{t}{d c}(A:kM P f0)(z:P.globalNamed "strconv.ErrSyntax" =some d)(y:P.globalNamed "strconv.ErrRange" =some c)
  (x:∀s u w,s.size<=1099511627776->Lib.parseUintB 63 s.data.toList=.ok u->Calls P f0 #[.string s,.i 10,.i 63] w λe w'=>e=.returned (.tuple #[.int .u64 u,.nilIface])/\Below w.heap.size w w')
  (k1:∀s w,s.size<=1099511627776->(∀u,Lib.parseUintB 63 s.data.toList≠.ok u)->(∃v,w.cell? ⟨d,0,none⟩=some v/\(v=.nilIface\/∃t p,v=.iface t p))->(∃v,w.cell? ⟨c,0,none⟩=some v/\(v=.nilIface\/∃t p,v=.iface t p))->
   Calls P f0 #[.string s,.i 10,.i 63] w λe w'=>(∃(n:Int) (a:Addr),e=.returned (.tuple #[.int .u64 n,.iface t (.pointer (some a))]))/\Below w.heap.size w w'):dK P (CO f0 t):=by
 intro f args H v H' b;unfold CO at b;split at b
 ·rename_i l;split at b
  ·rename_i q;obtain⟨rfl,r⟩:=q;refine⟨A,?_⟩;intro B W0 σ w us g o;simp only[au] at o;obtain⟨u,eG,rfl,m,u2,Lf,rfl,h,u3,us3,rfl,j,rfl⟩:=o;simp only[aj] at m h j;subst m h j;have k:(⟨l.toArray⟩:ByteArray).size<=1099511627776:=by simpa[ByteArray.size] using r
   cases hp:Lib.parseUintB 63 l with
   |ok n=>simp[hp] at b;obtain⟨rfl,rfl⟩:=b;refine(x ⟨l.toArray⟩ n w k (by simpa using hp)).mono ?_;rintro e w' ⟨rfl,hb⟩;exact⟨_,rfl,σ,Ext.refl B σ,g.under hb,by simp[aj,au]⟩
   |_=>simp[hp] at b;obtain⟨rfl,rfl⟩:=b;refine(k1 ⟨l.toArray⟩ w k (λu=>by simp[hp]) (g.yx.vY d 0 _ (.syn d z)).2 (g.yx.vY c 0 _ (.ran c y)).2).mono ?_;rintro e w' ⟨⟨n,a,rfl⟩,hb⟩;exact⟨_,rfl,σ,Ext.refl B σ,g.under hb,by simp[aj,au];exact⟨_,_,⟨rfl,rfl⟩,rfl,_,rfl,_,rfl,rfl⟩⟩
  ·cases b
 ·cases b
end
attribute [go_sem] ne_eq aEW aGG Γ Χ
def AR{E:Env}(n){P}{f}{args:List AV}{v}(h:aK P (eL E n) f args=some v):aK P (run E) f args=some v:=
 U1 (λf args H r a=>me.2 ⟨n,a⟩) h
def fM{E:Env}{f}{fn:Func}{c}(j:E.G f=true)(b:E.df f=false)(i:E.P.funcs[f]? =some fn)(d:fn.body=some c){args:List AV}(k:args.length<=fn.ntmps){H}{Q:AV×ab->Prop}
  (h:aF (aN E (run E) aL c (jq args) H) λe a H'=>∃r,finish E.P fn.results.toList (e,a,H')=some r/\Q r):∃r,run E f args H=some r/\Q r:=by
 rw[Cr j b i d k];obtain⟨e,a,H',h3,r,g,h5⟩:=ke h;rw[h3];exact⟨r,g,h5⟩
def ow{E:Env}{f}{fn:Func}{c}(j:E.G f=true)(b:E.df f=false)(i:E.P.funcs[f]? =some fn)(d:fn.body=some c){args:List AV}(k:args.length<=fn.ntmps){H}{r}
  (h:aF (aN E (run E) aL c (jq args) H) λe a H'=>finish E.P fn.results.toList (e,a,H')=some r):run E f args H=some r:=by
 rw[Cr j b i d k];obtain⟨e,a,H',h3,g⟩:=ke h;rw[h3];exact g
def eX{E:Env}{f}{fn:Func}{c}{args bE:List AV}{a:AV}(n:E.G f=true)(g:E.df f=false)(l:E.P.funcs[f]? =some fn)(i:fn.body=some c)(o:args.length<=fn.ntmps)(h:args.map AV.erase=bE)
  (d:AV.aq.go bE=true) (k:aF (aN E (run E) aL c (jq bE) .empty) λe b H'=>∃v,pU (finish E.P fn.results.toList (e,b,H'))=some v/\v.erase=a) (m:a.aq=true):
  aK E.P (run E) f args=some a:=by
 obtain⟨e,b,H',h3,v,j,h5⟩:=ke k;exact HR n g l i o h d (arS (by rw[h3];exact j)) h5 m
def qy{E:Env}{f}{fn:Func}{c}{args bE:List AV}{v:AV}(k:E.G f=true)(b:E.df f=false)(i:E.P.funcs[f]? =some fn)(g:fn.body=some c)(l:args.length<=fn.ntmps)(e:args.map AV.erase=bE)
  (a:AV.aq.go bE=true) (h:pU (an (aN E (run E) aL c (jq bE) .empty) (finish E.P fn.results.toList))=some v) (d:v.erase=v) (j:v.aq=true):aK E.P (run E) f args=some v:=HR k b i g l e a h d j
def lL{g}(I:Nat->az->ab->Prop)(P:Ex->az->ab->Prop)
  (k:∀d α H,I d α H->aF (g α H) λe b H'=>(e=.normal/\∃c,c<d/\I c b H')\/(e≠.normal/\P e b H')) (d):∀α H,I d α H->aF (aL g α H) P:=by
 induction d using Nat.strongRecOn with
 |_ d ih=>
  intro α H h;obtain⟨e,b,H',f,a⟩:=ke (k d α H h);rcases a with⟨a,c,h3,i⟩|⟨a,h3⟩
  ·subst a;rw[aJ,f];exact ih c h3 b H' i
  ·rw[aJ,f]
   cases e with
   |normal=>exact(a rfl).elim
   |exit j=>exact h3
   |ret=>exact h3
def jw{E}{call}{loop}{id}{c}{k}{α}{H}{P}
  (h:aF (aN E call loop c α H) λe b H'=>((e=.normal\/e=.exit id)/\aF (k b H') P)\/(e=.ret/\P .ret b H')):aF (an (aN E call loop (.block id c) α H) λr=>andThen r k) P:=by
 obtain⟨e,b,H',d,a⟩:=ke h;rw[N',d];rcases a with⟨a|a,h3⟩|⟨a,h3⟩
 ·subst a;exact h3
 ·subst a;simp[an,t_];exact h3
 ·subst a;exact h3
def An{E}{call}{loop}{id}{c}{α}{H}{P}
  (h:aF (aN E call loop c α H) λe b H'=>((e=.normal\/e=.exit id)/\P .normal b H')\/(e=.ret/\P .ret b H')):aF (aN E call loop (.block id c) α H) P:=by
 obtain⟨e,b,H',d,a⟩:=ke h;rw[N',d];rcases a with⟨a|a,h3⟩|⟨a,h3⟩
 ·subst a;exact h3
 ·subst a;simp[an,t_];exact h3
 ·subst a;exact h3
def f_(l)(k)(x y):aH (aH l k x) k y=aH l k y:=by
 induction l with
 |nil=>simp[aH]
 |cons p r ih=>obtain⟨a,z⟩:=p;by_cases h:a=k<;>simp_all [aH]
def eqo:Ab.Own->Ab.Own->Bool
 | .ro,.ro=>true
 | .nil,.nil=>true
 | .full,.full=>true
 |_,_=>false
def arU:∀{a b:Ab.Own},eqo a b=true->a=b
 | .ro,.ro,_=>rfl
 | .nil,.nil,_=>rfl
 | .full,.full,_=>rfl
def Tm:Value->Value->Bool
 | .nilIface,.nilIface=>true
 | .nilFunc,.nilFunc=>true
 | .pointer none,.pointer none=>true
 | .map none,.map none=>true
 |_,_=>false
def arV{a b}(h:Tm a b=true):a=b:=by
 unfold Tm at h;split at h<;>first|rfl|cases h
mutual
def eqv(a:AV):AV->Bool:=
 match a with
 | .int k n=>λb=>match b with
  | .int k' n'=>decide (k=k')&&decide (n=n')
  |_=>false
 | .bool x=>λb=>match b with
  | .bool y=>x==y
  |_=>false
 | .str x=>λb=>match b with
  | .str y=>decide (x=y)
  |_=>false
 | .agg x=>λb=>match b with
  | .agg y=>Dv x y
  |_=>false
 | .tup x=>λb=>match b with
  | .tup y=>Dv x y
  |_=>false
 | .vec o x=>λb=>match b with
  | .vec o' y=>eqo o o'&&Dv x y
  |_=>false
 | .val x=>λb=>match b with
  | .val y=>Tm x y
  |_=>false
 |_=>λ_=>false
def Dv(a:List AV):List AV->Bool:=
 match a with
 |[]=>λb=>b.isEmpty
 |x::a=>λb=>match b with
  |y::b=>eqv x y&&Dv a b
  |[]=>false
end
mutual
def aa2(a b:AV)(h:eqv a b=true):a=b:=by
 match a,b with
 | .int k n,.int k' n'=>simp[eqv] at h;rw[h.1,h.2]
 | .bool x,.bool y=>simp[eqv] at h;rw[h]
 | .str x,.str y=>simp[eqv] at h;rw[h]
 | .agg x,.agg y=>simp[eqv] at h;rw[IH x y h]
 | .tup x,.tup y=>simp[eqv] at h;rw[IH x y h]
 | .vec o x,.vec o' y=>simp[eqv] at h;rw[arU h.1,IH x y h.2]
 | .val x,.val y=>simp[eqv] at h;rw[arV h]
 | .ts,_=>simp[eqv] at h
 | .any,_=>simp[eqv] at h
 | .ptr _ _,_=>simp[eqv] at h
 | .rptr _,_=>simp[eqv] at h
 | .fn _ _ _,_=>simp[eqv] at h
 | .iface _ _,_=>simp[eqv] at h
 | .sl _ _ _ _,_=>simp[eqv] at h
 | .map _,_=>simp[eqv] at h
def IH(a b:List AV)(h:Dv a b=true):a=b:=by
 match a,b with
 |[],[]=>rfl
 |x::a,y::b=>simp[Dv] at h;rw[aa2 x y h.1,IH a b h.2]
end
def isV(v:AV):Option AV->Bool
 |some u=>eqv u v
 |none=>false
def PQ{v}{o:Option AV}(h:isV v o=true):o=some v:=by
 cases o with
 |none=>cases h
 |some u=>exact Ι some (aa2 u v h)
def b8(l:List Nat):List UInt8:=l.map UInt8.ofNat
def okF(E:Env)(f:FuncId):Bool:=
 match E.P.funcs[f]? with
 |some fn=>match fn.body with
  |some c=> !(fn.name== "runtime.NumGoroutine")&&nk E fn.ntmps c
  |none=>false
 |none=>false
def Xm{E:Env}{f:FuncId}(h:okF E f=true):∃fn c,E.P.funcs[f]? =some fn/\fn.body=some c/\(fn.name== "runtime.NumGoroutine")=false/\nk E fn.ntmps c=true:=by
 unfold okF at h
 cases h1:E.P.funcs[f]? with
 |none=>simp[h1] at h
 |some fn=>grind
def Am{E:Env}{f}(d:E.G f=false){args:List AV}{v:AV}{H}(a:AV.aq.go (args.map AV.erase)=true)(c:E.ext f (args.map AV.erase) .empty=some (v,H))(b:v.erase.aq=true):aK E.P (run E) f args=some v.erase:=by unfold aK;rw[μ a,wK d,c];simp only;rw[μ b]
def MP{E}(b:ir E){f}{args}{v}(h:aK E.P (run E) f args=some v)(H):Jh E.P f args H v H:=by intro B W0 σ w us a c;exact(MU a (EI b) c h).2
end Go.Ab
namespace Go.Proofs.YtmehamiifalmaaaGreatDoor
open Go Go.Ab
def isLet(b:UInt8):Bool:=decide (97<=b.toNat/\b.toNat<=122)||decide (65<=b.toNat/\b.toNat<=90)||decide (b.toNat=95)
def jz(b:UInt8):Bool:=decide (48<=b.toNat/\b.toNat<=57)
def kn(b:UInt8):Bool:=decide (b.toNat=32)||decide (b.toNat=9)||decide (b.toNat=10)||decide (b.toNat=13)
def bp(b:UInt8):Bool:=isLet b||jz b
def xd:Nat->List UInt8->List UInt8
 |0,r=>r
 |_+1,[]=>[]
 |n+1,c::t=>if kn c=true then xd n t else if c.toNat=35 then xd n (t.dropWhile λb=>decide (b.toNat≠10)) else c::t
def MX:∀n m r,r.length<=n->r.length<=m->xd n r=xd m r
 |0,m,r,a,_=>by have:r=[]:=Ξ.1 aa;subst this;cases m<;>rfl
 |n+1,0,r,_,hm=>by have:r=[]:=Ξ.1 aa;subst this;rfl
 |n+1,m+1,[],_,_=>rfl
 |n+1,m+1,c::t,a,hm=>by simp at a hm;have hl:=(aFO (l:=t) (λb:UInt8=>decide (b.toNat≠10))).length_le;rw[xd,xd,MX n m t aa aa,MX n m _ aa aa]
def lead(r:List UInt8):List UInt8:=xd r.length r
def Xn:lead []=[]:=rfl
def Cd(c:UInt8)(t:List UInt8):lead (c::t)=if kn c=true then lead t else if c.toNat=35 then lead (t.dropWhile λb=>decide (b.toNat≠10)) else c::t:=by show xd (t.length+1) (c::t)=_;rw[xd,MX t.length _ (t.dropWhile λb=>decide (b.toNat≠10)) ((aFO (l:=t) (λb:UInt8=>decide (b.toNat≠10))).length_le) (ν _)];rfl
def YY:∀r:List UInt8,lead (r.dropWhile kn)=lead r
 |[]=>rfl
 |c::t=>by
  rw[Cd];by_cases h:kn c=true
  ·rw[μ h,aFn,μ h,YY t]
  ·rw[aFn,κ h,Cd]
def Xo(r):∃a,r=a++lead r:=by
 induction h:r.length using Nat.strongRecOn generalizing r with
 |_ n ih=>
  cases r with
  |nil=>exact⟨[],by rw[Xn];rfl⟩
  |cons c t=>
   rw[Cd];simp at h;split
   ·grind
   ·split
    ·have hl:=(aFO (l:=t) (λb:UInt8=>decide (b.toNat≠10))).length_le;obtain⟨a,d⟩:=ih _ aa (t.dropWhile λb=>decide (b.toNat≠10)) rfl;refine⟨c::t.takeWhile (λb=>decide (b.toNat≠10))++a,?_⟩;rw[Λ,<-d,aE9,aGm]
    ·exact⟨[],rfl⟩
def Ob(r:List UInt8):(lead r).length<=r.length:=by obtain⟨a,b⟩:=Xo r;have:=Ι List.length b;simp at this;omega
def ahu(r:List UInt8):r.drop (r.length-(lead r).length)=lead r:=by
 obtain⟨a,b⟩:=Xo r;have c:=Ι List.length b;simp at c;have:r.length-(lead r).length=a.length:=aa;rw[this];conv=>lhs;rw[b]
 simp
def kP:List UInt8->Option Nat
 |[]=>none
 |c::t=>if c.toNat=34 then some 1 else if c.toNat=10 then none else if c.toNat=92 then(match t with
  |[]=>none
  |_::t'=>(kP t').map (·+2)) else(kP t).map (·+1)
def zM:List UInt8->Bool
 |[]=>true
 |c::t=>if c.toNat=92 then(match t with
  |[]=>false
  |d::t'=>(decide (d.toNat=110)||decide (d.toNat=116)||decide (d.toNat=34)||decide (d.toNat=92))&&zM t') else !(decide (c.toNat<32)||decide (c.toNat=34))&&zM t
def xp:List (List UInt8):=[[100,101,102],[100,121,110],[101,108,115,101],[102,110],[105,102],[105,110,112,117,116],[105,110,116],[108,101,116],[112,114,105,110,116],[114,101,116,117,114,110],[115,116,114],[117,115,101],[119,104,105,108,101]]
def isKey(w:List UInt8):Bool:=xp.contains w
def oJ:List UInt8:=[40,41,123,125,44,59,58,46,61,43,45,42,60]
def jL:List UInt8->Nat
 |[]=>0
 |c::t=>if c.toNat=61/\(t.head?.map UInt8.toNat)=some 61 then 2 else if oJ.contains c=true then 1 else 0
def one:List UInt8->Except Nat (Nat×Nat)
 |[]=>.ok (0,0)
 |c::t=>
  if bp c=true then
   if isKey ((c::t).takeWhile bp)=true then .ok (2,((c::t).takeWhile bp).length)
   else if isLet c=true then(if 40<((c::t).takeWhile bp).length then .error 26 else .ok (1,((c::t).takeWhile bp).length))
   else if yZ ((c::t).takeWhile bp)=true then .ok (3,((c::t).takeWhile bp).length) else .error 23
  else if c.toNat=34 then
   match kP t with
   |none=>.error 22
   |some n=>if zM (t.take (n-1))=true then .ok (4,n+1) else .error 22
  else if jL (c::t)=0 then .error 21 else .ok (5,jL (c::t))
def B2(c:UInt8)(t):kP (c::t)=if c.toNat=34 then some 1 else if c.toNat=10 then none else if c.toNat=92 then(match t with
  |[]=>none
  |_::t'=>(kP t').map (·+2)) else(kP t).map (·+1):=by cases t<;>rfl
def aiM(c:UInt8)(t):zM (c::t)=if c.toNat=92 then(match t with
  |[]=>false
  |d::t'=>(decide (d.toNat=110)||decide (d.toNat=116)||decide (d.toNat=34)||decide (d.toNat=92))&&zM t') else !(decide (c.toNat<32)||decide (c.toNat=34))&&zM t:=by cases t<;>rfl
def Ce:∀t n,kP t=some n->1<=n/\n<=t.length
 |[],n,h=>by simp[kP] at h
 |c::t,n,h=>by
  rw[B2] at h;split at h
  ·grind
  ·split at h
   ·cases h
   ·split at h
    ·match t,h with
     |[],h=>cases h
     |d::t',h=>simp at h;obtain⟨m,hm,rfl⟩:=h;have:=Ce t' m hm;simp;omega
    ·simp at h;obtain⟨m,hm,rfl⟩:=h;have:=Ce t m hm;simp;omega
def Az{r:List UInt8}{k n}(h:one r=.ok (k,n)):n<=r.length/\(k=0↔r=[])/\(r≠[]->1<=n)/\k<=5:=by
 cases r with
 |nil=>simp[one] at h;obtain⟨rfl,rfl⟩:=h;simp
 |cons c t=>
  have hw:((c::t).takeWhile bp).length<=(c::t).length:=(aFP (l:=c::t) bp).length_le;have lG:bp c=true->1<=((c::t).takeWhile bp).length:=λh=>by rw[aFo,μ h];simp
  simp[one] at h;split at h
  ·grind
  ·split at h
   ·split at h
    ·cases h
    ·rename_i m hm;have:=Ce t m hm;split at h
     ·grind
     ·cases h
   ·split at h
    ·cases h
    ·rename_i h0;simp at h;obtain⟨rfl,rfl⟩:=h;refine⟨?_,ah,λ_=>aa,aa⟩;rw[jL];split
     ·rename_i a
      cases t with
      |nil=>simp at a
      |cons d t=>simp
     ·split<;>simp
def uC(s:List UInt8):Nat->Nat->Option Nat
 |0,_=>none
 |f+1,a=>if a<s.length then(if(dec (s.drop a)).1=65533/\(dec (s.drop a)).2=1 then some a else uC s f (a+(dec (s.drop a)).2)) else none
def bad(s:List UInt8):Option Nat:=uC s (s.length+1) 0
abbrev Tok:=Nat×Nat×List UInt8×List UInt8
def mP(t:Tok):AV:=.agg [.i t.1,.i t.2.1,.str t.2.2.1,.str t.2.2.2]
def tv(s:List UInt8):Nat->Nat->List Tok->Except (Nat×Nat) (List Tok)
 |0,a,_=>.error (0,a)
 |f+1,a,out=>
  match one (lead (s.drop a)) with
  | .error e=>.error (e,s.length-(lead (s.drop a)).length)
  | .ok (k,n)=>
   if 4000<=out.length then .error (5,s.length-(lead (s.drop a)).length)
   else if k=0 then .ok (out++[(k,s.length-(lead (s.drop a)).length,(s.drop a).take ((s.drop a).length-(lead (s.drop a)).length),(lead (s.drop a)).take n)])
   else tv s f (s.length-(lead (s.drop a)).length+n) (out++[(k,s.length-(lead (s.drop a)).length,(s.drop a).take ((s.drop a).length-(lead (s.drop a)).length),(lead (s.drop a)).take n)])
def lex(s:List UInt8):Except (Nat×Nat) (List Tok):=
 if 16384<s.length then .error (5,16384) else match bad s with
 |some a=>.error (20,a)
 |none=>tv s (s.length+1) 0 []
def j_{s:List UInt8}{i}{c}(h:s[i]? =some c):s.drop i=c::s.drop (i+1):=by obtain⟨hi,rfl⟩:=φ.1 h;exact Μ hi
def get_some{s:List UInt8}{i}(h:i<s.length):∃c,s[i]? =some c:=⟨_,Ν h⟩
def ep{s:List UInt8}{i}{c}(h:s[i]? =some c):i<s.length:=(φ.1 h).1
def fp(p:UInt8->Bool)(s:List UInt8)(i:Nat):Nat:=s.length-((s.drop i).dropWhile p).length
def PT(p)(r:List UInt8):(r.dropWhile p).length<=r.length:=(aFO (l:=r) p).length_le
def YZ(p):∀r:List UInt8,r.drop (r.length-(r.dropWhile p).length)=r.dropWhile p
 |[]=>rfl
 |c::r=>by
  by_cases h:p c=true
  ·rw[aFn,μ h];have:=PT p r;rw[show(c::r).length-(r.dropWhile p).length=(r.length-(r.dropWhile p).length)+1 by simp;omega,aFb];exact YZ p r
  ·rw[aFn,κ h,aFI];rfl
def EV(p)(s:List UInt8)(i):fp p s i<=s.length:=Nat.sub_le _ _
def Ih(p)(s:List UInt8){i}(h:i<=s.length):i<=fp p s i:=by have:=PT p (s.drop i);rw[adv] at this;unfold fp;omega
def VD(p)(s:List UInt8){i}(h:i<=s.length):s.drop (fp p s i)=(s.drop i).dropWhile p:=by have a:=PT p (s.drop i);rw[<-YZ p (s.drop i),List.drop_drop];rw[adv] at a⊢;congr 1;unfold fp;omega
def tU{p}{s}{i}{c}(h:s[i]? =some c)(a:p c=true):fp p s i=fp p s (i+1):=by unfold fp;rw[j_ h,aFn,μ a]
def Nf{p}{s}{i}{c}(h:s[i]? =some c)(a:p c=false):fp p s i=i:=by have:=ep h;unfold fp;rw[j_ h,aFn,κ (by rw[a];decide),Γ,adv];omega
def ND{p}{s:List UInt8}{i}(h:i=s.length):fp p s i=i:=by subst h;unfold fp;simp
def axc(p)(r:List UInt8):(r.takeWhile p).length+(r.dropWhile p).length=r.length:=by rw[<-List.length_append,aGm]
def Oc(p)(s:List UInt8){i}(h:i<=s.length):fp p s i=i+((s.drop i).takeWhile p).length:=by have:=axc p (s.drop i);rw[adv] at this;unfold fp;omega
def Y0(p):∀r:List UInt8,r.take (r.takeWhile p).length=r.takeWhile p
 |[]=>rfl
 |c::r=>by
  by_cases h:p c=true
  ·rw[aFo,μ h,Γ,aFa,Y0 p r]
  ·rw[aFo,κ h];rfl
def CP(s:List UInt8)(a b):(s.take b).drop a=(s.drop a).take (b-a):=List.drop_take
def NF(p)(s:List UInt8){i}(h:i<=s.length):(s.take (fp p s i)).drop i=(s.drop i).takeWhile p:=by rw[CP,Oc p s h,aGb,Y0]
def g_(b:UInt8):Bool:=decide (b.toNat≠10)
def bj(s:List UInt8)(i:Nat):Nat:=s.length-(lead (s.drop i)).length
def EL(s:List UInt8)(i):bj s i<=s.length:=Nat.sub_le _ _
def EM(s:List UInt8){i}(h:i<=s.length):i<=bj s i:=by have:=Ob (s.drop i);rw[adv] at this;unfold bj;omega
def U7(s:List UInt8){i}(h:i<=s.length):s.drop (bj s i)=lead (s.drop i):=by have a:=Ob (s.drop i);rw[<-ahu (s.drop i),List.drop_drop];rw[adv] at a⊢;congr 1;unfold bj;omega
def aff{s}{i}{c}(h:s[i]? =some c)(a:kn c=true):bj s i=bj s (i+1):=by unfold bj;rw[j_ h,Cd,μ a]
def agA{s:List UInt8}{i}(h:i<=s.length):bj s (fp kn s i)=bj s i:=by unfold bj;rw[VD kn s h,YY]
def U8{s}{i}{c:UInt8}(h:s[i]? =some c)(hb:kn c=false)(a:c.toNat=35):bj s i=bj s (fp g_ s i):=by
 have hi:=ep h;have b:g_ c=true:=by simp[g_,a]
 unfold bj;rw[tU h b,VD g_ s aa,j_ h,Cd,κ (by rw[hb];decide),μ a];rfl
def U9{s}{i}{c:UInt8}(h:s[i]? =some c)(hb:kn c=false)(a:c.toNat≠35):bj s i=i:=by have hi:=ep h;unfold bj;rw[j_ h,Cd,κ (by rw[hb];decide),κ a,Γ,adv];omega
def VE{s:List UInt8}{i}(h:i=s.length):bj s i=i:=by subst h;unfold bj;rw[List.drop_length,Xn];rfl
def GK:Lib.NumEnd Nat->Bool
 | .ok _=>true
 |_=>false
def oN(n:Nat)(l:List UInt8):Bool:=GK (Lib.parseUintM 9223372036854775807 n l)
def Xp(w)(h:w≠[]):yZ w=oN 0 w:=by unfold yZ oN GK Lib.parseUintB;rw[κ h]<;>rfl
def aiN(n):oN n []=true:=rfl
def aiO{c}(h:jz c=false)(n)(l):oN n (c::l)=false:=by
 have:¬(48<=c.toNat/\c.toNat<=57):=by simpa[jz] using h
 simp[oN,Lib.parseUintM,this,GK]
def aiP{c:UInt8}(h:jz c=true){n}(hn:(9223372036854775807-(c.toNat-48))/10<n)(l):oN n (c::l)=false:=by
 have a:48<=c.toNat/\c.toNat<=57:=by simpa[jz] using h
 have d:9223372036854775807<n*10+(c.toNat-48):=aa;by_cases b:1844674407370955162<=n
 ·simp[oN,Lib.parseUintM,a,b,GK]
 ·simp[oN,Lib.parseUintM,a,b,d,GK]
def ahv{c:UInt8}(h:jz c=true){n}(hn:n<=(9223372036854775807-(c.toNat-48))/10)(l):oN n (c::l)=oN (n*10+(c.toNat-48)) l/\n*10+(c.toNat-48)<=9223372036854775807:=by
 have a:48<=c.toNat/\c.toNat<=57:=by simpa[jz] using h
 have d:n*10+(c.toNat-48)<=9223372036854775807:=aa;have b:¬1844674407370955162<=n:=aa;have h3:¬9223372036854775807<n*10+(c.toNat-48):=aa;refine⟨?_,d⟩;simp[oN,Lib.parseUintM,a,b,h3]
def aiQ:∀{c:UInt8} {w:List UInt8},isKey (c::w)=true->isLet c=true:=by
 intro c w h;have h:(c::w)∈xp:=by simpa[isKey] using h
 simp[xp] at h;rcases h with h|h|h|h|h|h|h|h|h|h|h|h|h<;>(obtain⟨rfl,_⟩:=h;decide)
def OV{c}(h:jz c=true):isLet c=false:=by
 have hd:48<=c.toNat/\c.toNat<=57:=by simpa[jz] using h
 simp[isLet];omega
def Y1{c}(w)(h:jz c=true):isKey (c::w)=false:=by
 cases hk:isKey (c::w)
 ·rfl
 ·have:=aiQ hk;rw[OV h] at this;cases this
def kB(d:UInt8):Option UInt8:=if d.toNat=110 then some 10 else if d.toNat=116 then some 9 else if d.toNat=34 then some 34 else if d.toNat=92 then some 92 else none
def hM:List UInt8->Option (List UInt8)
 |[]=>some []
 |c::t=>if c.toNat=92 then(match t with
  |[]=>none
  |d::t'=>(kB d).bind λe=>(hM t').map (e::·)) else if c.toNat<32\/c.toNat=34 then none else(hM t).map (c::·)
def Cf(c:UInt8)(t):hM (c::t)=if c.toNat=92 then(match t with
  |[]=>none
  |d::t'=>(kB d).bind λe=>(hM t').map (e::·)) else if c.toNat<32\/c.toNat=34 then none else(hM t).map (c::·):=by cases t<;>rfl
def PU:∀l:List UInt8,zM l=(hM l).isSome
 |[]=>rfl
 |c::t=>by
  rw[aiM,Cf];by_cases h:c.toNat=92
  ·rw[μ h,μ h]
   cases t with
   |nil=>rfl
   |cons d t'=>
    show((decide (d.toNat=110)||decide (d.toNat=116)||decide (d.toNat=34)||decide (d.toNat=92))&&zM t')=((kB d).bind λe=>(hM t').map (e::·)).isSome;rw[PU t'];unfold kB;by_cases a:d.toNat=110
    ·simp[a]
    ·grind
  ·rw[κ h,κ h,PU t];by_cases h2:c.toNat<32\/c.toNat=34
   ·grind
   ·grind
def pre(out:List UInt8)(x:Option (List UInt8)):Option (List UInt8):=x.map (out++·)
def pre_nil(x):pre [] x=x:=by cases x<;>rfl
def pre_some(o t):pre o (some t)=some (o++t):=rfl
def Xq(o)(c)(x:Option (List UInt8)):pre o (x.map (c::·))=pre (o++[c]) x:=by cases x<;>simp[pre]
def Xr:hM []=some []:=rfl
def Xs{c:UInt8}(h:c.toNat=92):hM [c]=none:=by rw[Cf,μ h]
def Xt{c d e:UInt8}(h:c.toNat=92)(a:kB d=some e)(t)(o):pre o (hM (c::d::t))=pre (o++[e]) (hM t):=by rw[Cf,μ h];show pre o ((kB d).bind λe=>(hM t).map (e::·))=_;rw[a,Option.bind_some,Xq]
def Xu{c d:UInt8}(h:c.toNat=92)(a:kB d=none)(t):hM (c::d::t)=none:=by rw[Cf,μ h];show((kB d).bind λe=>(hM t).map (e::·))=_;rw[a];rfl
def Xv{c:UInt8}(h:c.toNat≠92)(a:c.toNat<32\/c.toNat=34)(t):hM (c::t)=none:=by rw[Cf,κ h,μ a]
def Wc{c:UInt8}(h:c.toNat≠92)(a:¬(c.toNat<32\/c.toNat=34))(t)(o):pre o (hM (c::t))=pre (o++[c]) (hM t):=by rw[Cf,κ h,κ a,Xq]
def wN(s:List UInt8):Option (List UInt8):=
 if s.length<2\/s.head?≠some 34\/s[s.length-1]?≠some 34 then none else hM ((s.take (s.length-1)).drop 1)
def jm(s:List UInt8)(i:Nat):Option Nat:=(kP (s.drop i)).map (·+i)
def NG{s:List UInt8}{i}(h:s.length<=i):jm s i=none:=by rw[jm,aEk h];rfl
def U_{s}{i}{c:UInt8}(h:s[i]? =some c)(a:c.toNat=34):jm s i=some (i+1):=by rw[jm,j_ h,B2,μ a,aFJ];congr 1;omega
def Xw{s}{i}{c:UInt8}(h:s[i]? =some c)(a:c.toNat=10):jm s i=none:=by rw[jm,j_ h,B2,bM,μ a];rfl
def Wd{s}{i}{c:UInt8}(h:s[i]? =some c)(a:c.toNat=92):jm s i=jm s (i+2):=by
 rw[jm,j_ h,B2,bM,bM,μ a]
 cases hd:s[i+1]? with
 |none=>rw[List.getElem?_eq_none_iff] at hd;rw[NG (s:=s) (i:=i+2) aa,aEk hd];rfl
 |some d=>rw[j_ hd,jm];show((kP (s.drop (i+1+1))).map (·+2)).map (·+i)=_;rw[Option.map_map];congr 1;funext n;show n+2+i=n+(i+2);omega
def U'{s}{i}{c:UInt8}(h:s[i]? =some c)(a:c.toNat≠34)(b:c.toNat≠10)(h3:c.toNat≠92):jm s i=jm s (i+1):=by rw[jm,j_ h,B2,κ a,κ b,κ h3,jm,Option.map_map];congr 1;funext n;show n+1+i=n+(i+1);omega
def Y2{c}{t}(h:isLet c=true):one (c::t)=if isKey ((c::t).takeWhile bp)=true then .ok (2,((c::t).takeWhile bp).length) else if 40<((c::t).takeWhile bp).length then .error 26 else .ok (1,((c::t).takeWhile bp).length):=by
 have a:bp c=true:=by simp[bp,h]
 simp[one];rw[μ a,μ h]
def Y3{c}{t}(h:jz c=true):one (c::t)=if oN 0 ((c::t).takeWhile bp)=true then .ok (3,((c::t).takeWhile bp).length) else .error 23:=by
 have b:bp c=true:=by simp[bp,h]
 have a:(c::t).takeWhile bp=c::t.takeWhile bp:=by rw[aFo,μ b]
 simp[one];rw[μ b,κ (by rw[a,Y1 _ h];decide),κ (by rw[OV h];decide),Xp _ (by rw[a];simp)]
def axd{c:UInt8}(h:c.toNat=34):bp c=false:=by simp[bp,isLet,jz,h]
def Y4{c:UInt8}{t:List UInt8}(h:c.toNat=34):one (c::t)=match kP t with
  |none=>.error 22
  |some n=>if(hM (t.take (n-1))).isSome=true then .ok (4,n+1) else .error 22:=by
 simp[one];rw[κ (by rw[axd h];decide),μ h]
 cases kP t with
 |none=>rfl
 |some n=>simp[PU]
def Xx{c:UInt8}{t}(a:bp c=false)(b:c.toNat≠34):one (c::t)=if jL (c::t)=0 then .error 21 else .ok (5,jL (c::t)):=by simp[one];rw[κ (by rw[a];decide),κ b]
def ti(s:List UInt8)(i k n:Nat):Tok:=(k,bj s i,(s.take (bj s i)).drop i,(s.take (bj s i+n)).drop (bj s i))
def OW(s:List UInt8)(f i)(out:List Tok)(h:i<=s.length):tv s (f+1) i out=match one (s.drop (bj s i)) with
  | .error e=>.error (e,bj s i)
  | .ok (k,n)=>if 4000<=out.length then .error (5,bj s i) else if k=0 then .ok (out++[ti s i k n]) else tv s f (bj s i+n) (out++[ti s i k n]):=by
 have a:(s.drop i).take ((s.drop i).length-(lead (s.drop i)).length)=(s.take (bj s i)).drop i:=by rw[CP,adv];congr 1;unfold bj;omega
 rw[tv,U7 s h]
 cases ho:one (lead (s.drop i)) with
 |error e=>rfl
 |ok p=>
  obtain⟨k,n⟩:=p;have b:(lead (s.drop i)).take n=(s.take (bj s i+n)).drop (bj s i):=by rw[CP,U7 s h,aGb]
  show(if 4000<=out.length then _ else if k=0 then Except.ok (out++[(k,bj s i,(s.drop i).take ((s.drop i).length-(lead (s.drop i)).length),(lead (s.drop i)).take n)]) else tv s f (bj s i+n) (out++[(k,bj s i,(s.drop i).take ((s.drop i).length-(lead (s.drop i)).length),(lead (s.drop i)).take n)]))=_;rw[a,b];rfl
def We(s:List UInt8):∀f i out,i<=s.length->s.length-i<f->tv s f i out=tv s (f+1) i out
 |0,i,out,h,hf=>by omega
 |f+1,i,out,h,hf=>by
  rw[OW s f i out h,OW s (f+1) i out h]
  cases ho:one (s.drop (bj s i)) with
  |error e=>rfl
  |ok p=>
   obtain⟨k,n⟩:=p;have a:=Az ho;have hg:=EM s h;have hle:=EL s i;simp only;by_cases c:4000<=out.length
   ·grind
   ·rw[κ c,κ c];by_cases b:k=0
    ·grind
    ·rw[κ b,κ b];have h3:s.drop (bj s i)≠[]:=λd=>b (a.2.1.2 d);have h4:=a.2.2.1 h3;have h5:=a.1;rw[adv] at h5;exact We s f _ _ aa aa
def se(s:List UInt8)(i:Nat)(out:List Tok):Except (Nat×Nat) (List Tok):=tv s (s.length-i+1) i out
def Y5(s:List UInt8)(i)(out:List Tok)(h:i<=s.length):∀f,s.length-i<f->tv s f i out=se s i out
 |0,hf=>by omega
 |f+1,hf=>by
  by_cases a:s.length-i=f
  ·rw[se,a]
  ·rw[<-We s f i out h aa];exact Y5 s i out h f aa
def OX(s:List UInt8)(i)(out:List Tok)(h:i<=s.length):se s i out=match one (s.drop (bj s i)) with
  | .error e=>.error (e,bj s i)
  | .ok (k,n)=>if 4000<=out.length then .error (5,bj s i) else if k=0 then .ok (out++[ti s i k n]) else se s (bj s i+n) (out++[ti s i k n]):=by
 rw[se,OW s _ i out h]
 cases ho:one (s.drop (bj s i)) with
 |error e=>rfl
 |ok p=>
  obtain⟨k,n⟩:=p;have a:=Az ho;have hg:=EM s h;have hle:=EL s i;simp only;by_cases c:4000<=out.length
  ·grind
  ·rw[κ c,κ c];by_cases b:k=0
   ·grind
   ·rw[κ b,κ b];have h3:s.drop (bj s i)≠[]:=λd=>b (a.2.1.2 d);have h4:=a.2.2.1 h3;have h5:=a.1;rw[adv] at h5;exact Y5 s _ _ aa _ aa
def PV(s:List UInt8):lex s=if 16384<s.length then .error (5,16384) else match bad s with
  |some a=>.error (20,a)
  |none=>se s 0 []:=rfl
def Xy(s:List UInt8):∀d i out e a,i<=s.length->s.length-i<=d->se s i out=.error (e,a)->e∈[5,21,22,23,26]
 |d,i,out,e,a,h,hd,f=>by
  rw[OX s i out h] at f
  cases b:one (s.drop (bj s i)) with
  |error e'=>
   rw[b] at f;simp at f;obtain⟨rfl,_⟩:=f;revert b
   cases s.drop (bj s i) with
   |nil=>intro b;simp[one] at b
   |cons c t=>
    intro b;simp[one] at b;repeat' split at b
    all_goals first|(cases b;done)|(simp at b;subst b;simp)
  |ok p=>
   obtain⟨k,n⟩:=p;rw[b] at f;have g:=Az b;have hg:=EM s h;have hle:=EL s i;simp only at f;split at f
   ·grind
   ·split at f
    ·cases f
    ·rename_i j;have h3:s.drop (bj s i)≠[]:=λl=>j (g.2.1.2 l);have h4:=g.2.2.1 h3;have h5:=g.1;rw[adv] at h5
     cases d with
     |zero=>omega
     |succ d=>exact Xy s d _ _ e a aa aa f
def amb{s}{e a}(h:lex s=.error (e,a)):e∈[5,20,21,22,23,26]:=by
 rw[PV] at h;split at h
 ·grind
 ·split at h
  ·grind
  ·have:=Xy s s.length 0 [] e a aa aa h;simp at this⊢;omega
def pT(b:UInt8):Bool:=decide (128<=b.toNat)&&decide (b.toNat<192)
def zn(v least:Nat):Bool:= !(decide (v<least)||decide (1114111<v)||(decide (55296<=v)&&decide (v<57344)))
def Cy(v least):zn v least=true↔(v≥least/\(v<55296\/(57344<=v/\v<=1114111))):=by simp[zn,aFk];omega
def cont:Nat->Nat->List UInt8->Option Nat
 |0,a,_=>some a
 |n+1,a,[]=>none
 |n+1,a,c::t=>if pT c=true then cont n (a*64+(c.toNat-128)) t else none
def amc{c}(h:pT c=false)(n a)(t):cont (n+1) a (c::t)=none:=by rw[cont,κ (by rw[h];decide)]
def aiR{c:UInt8}(h:pT c=true)(n a)(t):cont (n+1) a (c::t)=cont n (a*64+(c.toNat-128)) t:=by rw[cont,μ h]
def gC(n first least:Nat)(t:List UInt8):Option (Nat×Nat):=
 if t.length+1<n then none else match cont (n-1) first t with
 |none=>none
 |some v=>if zn v least=true then some (v,n) else none
def ly(x:Option (Nat×Nat)):Nat×Nat:=x.getD (65533,1)
def As(c:UInt8):pT c=true↔c.toNat/64=2:=by have:=c.toNat_lt;simp[pT];omega
def Cz{c:UInt8}(h:¬pT c=true):¬c.toNat/64=2:=λa=>h ((As c).2 a)
def Y6{b:UInt8}(h:b.toNat<128)(t):dec (b::t)=(b.toNat,1):=by simp[dec,Lib.decodeN,h]
def OY{b:UInt8}(h:128<=b.toNat)(h2:b.toNat<192\/248<=b.toNat)(t):dec (b::t)=(65533,1):=by have e:¬b.toNat<128:=aa;have c:¬b.toNat/32=6:=aa;have a:¬b.toNat/16=14:=aa;have d:¬b.toNat/8=30:=aa;simp[dec,Lib.decodeN,e,c,a,d]
def Y7{b:UInt8}(h:192<=b.toNat/\b.toNat<224)(t):dec (b::t)=ly (gC 2 (b.toNat-192) 128 t):=by
 have d:¬b.toNat<128:=aa;have i:b.toNat/32=6:=aa;have e:¬b.toNat/16=14:=aa;have f:¬b.toNat/8=30:=aa
 match t with
 |[]=>simp[dec,Lib.decodeN,gC,ly,d,e,f]
 |c::t=>
  by_cases k1:pT c=true
  ·have m1:=(As c).1 k1;have v:b.toNat%32*64+c.toNat%64=(b.toNat-192)*64+(c.toNat-128):=aa;simp only[dec,Lib.decodeN,gC,cont,ly,Γ,aFi,aE1,κ d,i,m1,aGh,k1,aEl,v,aF3];rw[κ (show ¬(t.length+1+1<2) by omega),μ (show 1<t.length+1+1/\True by simp)];by_cases a:zn ((b.toNat-192)*64+(c.toNat-128)) 128=true
   ·rw[μ a,μ ((Cy _ _).1 a).1];rfl
   ·rw[κ a,κ (λg=>a ((Cy _ _).2 ⟨g,aa⟩))];rfl
  ·have m1:=Cz k1;simp[dec,Lib.decodeN,gC,cont,ly,d,e,f,m1,k1]
def Wf{b:UInt8}(h:224<=b.toNat/\b.toNat<240)(t):dec (b::t)=ly (gC 3 (b.toNat-224) 2048 t):=by
 have a:¬b.toNat<128:=aa;have e:¬b.toNat/32=6:=aa;have k:b.toNat/16=14:=aa;have g:¬b.toNat/8=30:=aa
 match t with
 |[]=>simp[dec,Lib.decodeN,gC,ly,a,e,g]
 |[c]=>simp[dec,Lib.decodeN,gC,ly,a,e,g]
 |c::d::t=>
  by_cases k1:pT c=true
  ·have m1:=(As c).1 k1;by_cases k2:pT d=true
   ·have i:=(As d).1 k2;have v:b.toNat%16*4096+c.toNat%64*64+d.toNat%64=((b.toNat-224)*64+(c.toNat-128))*64+(d.toNat-128):=aa;simp only[dec,Lib.decodeN,gC,cont,ly,Γ,aFi,aEX,aE1,κ a,e,k,m1,i,aGh,false_and,and_true,k1,k2,aEl,ap1,v,aF3];rw[κ (show ¬(t.length+1+1+1<3) by omega),μ (show 1<t.length+1+1+1/\2<t.length+1+1+1 by omega)];by_cases f:zn (((b.toNat-224)*64+(c.toNat-128))*64+(d.toNat-128)) 2048=true
    ·rw[μ f,μ ((Cy _ _).1 f)];rfl
    ·rw[κ f,κ (λj=>f ((Cy _ _).2 j))];rfl
   ·have i:=Cz k2;simp[dec,Lib.decodeN,gC,cont,ly,a,e,g,i,k1,k2]
  ·have m1:=Cz k1;simp[dec,Lib.decodeN,gC,cont,ly,a,e,g,m1,k1]
def Xz{b:UInt8}(h:240<=b.toNat/\b.toNat<248)(t):dec (b::t)=ly (gC 4 (b.toNat-240) 65536 t):=by
 have a:¬b.toNat<128:=aa;have g:¬b.toNat/32=6:=aa;have f:¬b.toNat/16=14:=aa;have n:b.toNat/8=30:=aa
 match t with
 |[]=>simp[dec,Lib.decodeN,gC,ly,a,g,f]
 |[c]=>simp[dec,Lib.decodeN,gC,ly,a,g,f]
 |[c,d]=>simp[dec,Lib.decodeN,gC,ly,a,g,f]
 |c::d::e::t=>
  by_cases k1:pT c=true
  ·have m1:=(As c).1 k1;by_cases k2:pT d=true
   ·have k:=(As d).1 k2;by_cases j:pT e=true
    ·have l:=(As e).1 j;have v:b.toNat%8*262144+c.toNat%64*4096+d.toNat%64*64+e.toNat%64=(((b.toNat-240)*64+(c.toNat-128))*64+(d.toNat-128))*64+(e.toNat-128):=aa;simp only[dec,Lib.decodeN,gC,cont,ly,Γ,aFi,aEX,aE1,κ a,g,f,n,m1,k,l,aGh,false_and,and_true,k1,k2,j,aEl,ap1,v,aF3];rw[κ (show ¬(t.length+1+1+1+1<4) by omega),μ (show 1<t.length+1+1+1+1/\2<t.length+1+1+1+1/\3<t.length+1+1+1+1 by omega)];by_cases i:zn ((((b.toNat-240)*64+(c.toNat-128))*64+(d.toNat-128))*64+(e.toNat-128)) 65536=true
     ·rw[μ i,μ ((Cy _ _).1 i)];rfl
     ·rw[κ i,κ (λm=>i ((Cy _ _).2 m))];rfl
    ·have l:=Cz j;simp[dec,Lib.decodeN,gC,cont,ly,a,g,f,l,k1,k2,j]
   ·have k:=Cz k2;simp[dec,Lib.decodeN,gC,cont,ly,a,g,f,k,k1,k2]
  ·have m1:=Cz k1;simp[dec,Lib.decodeN,gC,cont,ly,a,g,f,m1,k1]
def Wg{n first least}{t:List UInt8}{r}(h:gC n first least t=some r):r.2=n/\n<=t.length+1:=by
 unfold gC at h;split at h
 ·cases h
 ·grind
def II(b)(t:List UInt8):1<=(dec (b::t)).2/\(dec (b::t)).2<=t.length+1:=by
 by_cases a:b.toNat<128
 ·rw[Y6 a];simp
 ·by_cases d:b.toNat<192\/248<=b.toNat
  ·rw[OY aa d];simp
  ·have:∃n first least,2<=n/\dec (b::t)=ly (gC n first least t):=by
    by_cases h3:b.toNat<224
    ·exact⟨_,_,_,aa,Y7 aa t⟩
    ·by_cases h4:b.toNat<240
     ·exact⟨_,_,_,aa,Wf aa t⟩
     ·exact⟨_,_,_,aa,Xz aa t⟩
   obtain⟨n,first,least,hn,c⟩:=this
   rw[c]
   cases hd:gC n first least t with
   |none=>simp[ly]
   |some r=>have:=Wg hd;simp[ly];omega
def Wh(s:List UInt8):∀f i,s.length-i<f->uC s f i=uC s (f+1) i
 |0,i,hf=>by omega
 |f+1,i,hf=>by
  rw[uC,uC];by_cases h:i<s.length
  ·rw[μ h,μ h];obtain⟨c,a⟩:=get_some h;have:=II c (s.drop (i+1));rw[<-j_ a] at this;split
   ·rfl
   ·exact Wh s f _ aa
  ·grind
def ub(s:List UInt8)(i:Nat):Option Nat:=uC s (s.length-i+1) i
def Y8(s:List UInt8)(i):∀f,s.length-i<f->uC s f i=ub s i
 |0,hf=>by omega
 |f+1,hf=>by
  by_cases a:s.length-i=f
  ·rw[ub,a]
  ·rw[<-Wh s f i aa];exact Y8 s i f aa
def bad_eq(s:List UInt8):bad s=ub s 0:=rfl
def Va{s:List UInt8}{i}(h:s.length<=i):ub s i=none:=by rw[ub,uC,bM]
def Vb{s:List UInt8}{i}(h:i<s.length)(a:(dec (s.drop i)).1=65533)(b:(dec (s.drop i)).2=1):ub s i=some i:=by rw[ub,uC,μ h,μ ⟨a,b⟩]
def MY{s:List UInt8}{i}(h:i<s.length)(a:¬((dec (s.drop i)).1=65533/\(dec (s.drop i)).2=1)):ub s i=ub s (i+(dec (s.drop i)).2):=by obtain⟨c,b⟩:=get_some h;have:=II c (s.drop (i+1));rw[<-j_ b] at this;rw[ub,uC,μ h,κ a];exact Y8 s _ _ aa
inductive Nd where
 |mk (k f t:Nat) (w:List UInt8) (a:Nat) (ks:List Nd)
 deriving Inhabited
def Nd.k:Nd->Nat| .mk k _ _ _ _ _=>k
def Nd.f:Nd->Nat| .mk _ f _ _ _ _=>f
def Nd.t:Nd->Nat| .mk _ _ t _ _ _=>t
def Nd.w:Nd->List UInt8| .mk _ _ _ w _ _=>w
def Nd.a:Nd->Nat| .mk _ _ _ _ a _=>a
def Nd.ks:Nd->List Nd| .mk _ _ _ _ _ ks=>ks
def dR:Nd:=.mk 0 0 0 [] 0 []
structure PS where
 at_:Nat
 err:Option Nat
abbrev PR:=Option (Nd×PS)
section
variable (l:List Tok)
def fC(s:PS):Tok:=(l[s.at_]?).getD (0,0,[],[])
def dH(s:PS)(x:List UInt8):Bool:=(decide ((fC l s).1=2)||decide ((fC l s).1=5))&&decide ((fC l s).2.2.2=x)
def jA(s:PS):PS:=match s.err with|none=>{s with err:=some s.at_}|some _=>s
def aZ(s:PS)(x:List UInt8):Bool:=s.err.isNone&&dH l s x
def bc(s:PS):PS:={s with at_:=s.at_+1}
def mQ(s:PS)(x:List UInt8):PS:=if aZ l s x then bc s else s
def cB(x:List UInt8)(s:PS):PS:=if aZ l s x then bc s else jA s
def cZ(s:PS):Option (List UInt8×Nat)×PS:=
 let a:=if(fC l s).1=1 then s else jA s
 if a.err.isNone then(some ((fC l s).2.2.2,s.at_),bc a) else(none,a)
def e9(n:Nd):Option (List UInt8×Nat)->Nd
 |some (w,a)=>.mk n.k n.f n.t w a n.ks
 |none=>n
def iN(n:Nd)(l:List Nd):Nd:=.mk n.k n.f n.t n.w n.a (n.ks++l)
def hX(n:Nd)(t:Nat):Nd:=.mk n.k n.f t n.w n.a n.ks
def bn{α β:Type}(x:Option α)(f:α->Option β):Option β:=match x with|some a=>f a|none=>none
def fy{A B:Type}(a:A)(f:A->Option B):bn (some a) f=f a:=rfl
def al{A B:Type}{x}{f:A->Option B}{r:B}(h:bn x f=some r):∃a,x=some a/\f a=some r:=by
 cases x with
 |none=>cases h
 |some a=>exact⟨a,rfl,h⟩
def mN(one:PS->PR)(e:List UInt8):Nat->List Nd->PS->Option (List Nd×PS)
 |0,_,_=>none
 |n+1,ks,s=>if s.err.isNone then bn (one s) λr=>if aZ l r.2 e then some (ks++[r.1],bc r.2) else mN one e n (ks++[r.1]) (cB l [44] r.2) else some (ks,s)
def lR(one:PS->PR)(e:List UInt8)(n:Nat)(ks:List Nd)(s:PS):Option (List Nd×PS):=if aZ l s e then some (ks,bc s) else mN l one e n ks s
def VF{one:PS->PR}{e:List UInt8}:∀{n:Nat} {ks:List Nd} {s:PS} {r:List Nd×PS},mN l one e n ks s=some r->r.1.length<=ks.length+n
 |0,ks,s,r,h=>by cases h
 |n+1,ks,s,r,h=>by
  rw[mN] at h;split at h
  ·obtain⟨x,hx,h⟩:=al h;split at h
   ·grind
   ·have:=VF h;simp at this;omega
  ·cases h;simp
def B5{one}{e}{n}{ks:List Nd}{s:PS}{r:List Nd×PS}(h:lR l one e n ks s=some r):r.1.length<=ks.length+n:=by
 rw[lR] at h;split at h
 ·cases h;simp
 ·exact VF l h
def nN(one:PS->PR):Nat->List Nd->PS->Option (List Nd×PS)
 |0,_,_=>none
 |n+1,ks,s=>if s.err.isNone then if aZ l s [125] then some (ks,bc s) else bn (one s) λr=>nN one n (ks++[r.1]) r.2 else some (ks,s)
def lz(k:Nat)(a:Nd)(one:PS->PR)(s:PS):PR:=bn (one s) λr=>some (.mk k a.f r.2.at_ [] 0 [a,r.1],r.2)
def kS(one:PS->PR):Nat->Nd->PS->PR
 |0,_,_=>none
 |n+1,a,s=>if s.err.isNone then
   if aZ l s [43] then bn (lz 16 a one (bc s)) λr=>kS one n r.1 r.2
   else if aZ l s [45] then bn (lz 17 a one (bc s)) λr=>kS one n r.1 r.2
   else some (a,s)
  else some (a,s)
def qH(one:PS->PR):Nat->Nd->PS->PR
 |0,_,_=>none
 |n+1,a,s=>if aZ l s [42] then bn (lz 18 a one (bc s)) λr=>qH one n r.1 r.2 else some (a,s)
def mK(one:PS->PR):Nat->Nd->PS->PR
 |0,_,_=>none
 |n+1,a,s=>if s.err.isNone then
   if aZ l s [46] then
    let r:=cZ l (bc s)
    mK one n (hX (e9 (.mk 19 a.f 0 [] 0 [a]) r.1) r.2.at_) r.2
   else if aZ l s [40] then bn (lR l one [41] n [a] (bc s)) λr=>mK one n (.mk 20 a.f r.2.at_ [] 0 r.1) r.2
   else some (a,s)
  else some (a,s)
inductive Task where
 |kind|field|typed|params|param|block|stmt|expr|sum|term|post|atom|entry
def qL(s:PS):Bool:=decide ((fC l s).1=1)&&(match l[s.at_+1]? with|some t=>decide (t.1=5)&&decide (t.2.2.2=[61])|none=>false)
def P:Nat->Task->PS->PR
 |0,_,_=>none
 |n+1,.kind,s=>
  if aZ l s [105,110,116] then let d:=bc s;some (.mk 29 s.at_ d.at_ [] 0 [],d)
  else if aZ l s [115,116,114] then let d:=bc s;some (.mk 30 s.at_ d.at_ [] 0 [],d)
  else if aZ l s [100,121,110] then let d:=bc s;some (.mk 31 s.at_ d.at_ [] 0 [],d)
  else if aZ l s [123] then bn (lR l (P n .field) [125] n [] (bc s)) λr=>some (.mk 32 s.at_ r.2.at_ [] 0 r.1,r.2)
  else if aZ l s [102,110] then
   bn (lR l (P n .kind) [41] n [] (cB l [40] (bc s))) λr=>
   bn (P n .kind (cB l [58] r.2)) λq=>some (.mk 34 s.at_ q.2.at_ [] 0 (r.1++[q.1]),q.2)
  else let d:=jA s;some (.mk 29 s.at_ d.at_ [] 0 [],d)
 |n+1,.field,s=>
  let r:=cZ l s
  bn (P n .kind (cB l [58] r.2)) λq=>some (hX (iN (e9 (.mk 33 s.at_ 0 [] 0 []) r.1) [q.1]) q.2.at_,q.2)
 |n+1,.typed,s=>if aZ l s [58] then P n .kind (bc s) else some (dR,s)
 |n+1,.params,s=>bn (lR l (P n .param) [41] n [] (cB l [40] s)) λr=>some (.mk 4 s.at_ r.2.at_ [] 0 r.1,r.2)
 |n+1,.param,s=>
  let r:=cZ l s
  bn (P n .typed r.2) λq=>some (hX (iN (e9 (.mk 5 s.at_ 0 [] 0 []) r.1) [q.1]) q.2.at_,q.2)
 |n+1,.block,s=>bn (nN l (P n .stmt) n [] (cB l [123] s)) λr=>some (.mk 6 s.at_ r.2.at_ [] 0 r.1,r.2)
 |n+1,.stmt,s=>
  let fin:=λ(x:Nd×PS)=>let d:=cB l [59] x.2;some (hX x.1 d.at_,d)
  if aZ l s [108,101,116] then
   let r:=cZ l (bc s)
   bn (P n .typed r.2) λq=>bn (P n .expr (cB l [61] q.2)) λp=>fin (iN (iN (e9 (.mk 7 s.at_ 0 [] 0 []) r.1) [q.1]) [p.1],p.2)
  else if aZ l s [105,102] then
   bn (P n .expr (bc s)) λc=>bn (P n .block c.2) λb=>
    if aZ l b.2 [101,108,115,101] then bn (P n .block (bc b.2)) λe=>some (.mk 9 s.at_ e.2.at_ [] 0 [c.1,b.1,e.1],e.2)
    else some (.mk 9 s.at_ b.2.at_ [] 0 [c.1,b.1,dR],b.2)
  else if aZ l s [119,104,105,108,101] then
   bn (P n .expr (bc s)) λc=>bn (P n .block c.2) λb=>some (.mk 10 s.at_ b.2.at_ [] 0 [c.1,b.1],b.2)
  else if aZ l s [112,114,105,110,116] then bn (P n .expr (bc s)) λp=>fin (.mk 11 s.at_ 0 [] 0 [p.1],p.2)
  else if aZ l s [114,101,116,117,114,110] then bn (P n .expr (bc s)) λp=>fin (.mk 12 s.at_ 0 [] 0 [p.1],p.2)
  else if qL l s then
   let r:=cZ l s
   bn (P n .expr (cB l [61] r.2)) λp=>fin (iN (e9 (.mk 8 s.at_ 0 [] 0 []) r.1) [p.1],p.2)
  else bn (P n .expr s) λp=>fin (.mk 13 s.at_ 0 [] 0 [p.1],p.2)
 |n+1,.expr,s=>bn (P n .sum s) λr=>
   if aZ l r.2 [60] then lz 14 r.1 (P n .sum) (bc r.2)
   else if aZ l r.2 [61,61] then lz 15 r.1 (P n .sum) (bc r.2)
   else some r
 |n+1,.sum,s=>bn (P n .term s) λr=>kS l (P n .term) n r.1 r.2
 |n+1,.term,s=>bn (P n .post s) λr=>qH l (P n .post) n r.1 r.2
 |n+1,.post,s=>bn (P n .atom s) λr=>mK l (P n .expr) n r.1 r.2
 |n+1,.atom,s=>
  let t:=fC l s;let one:=λk=>let d:=bc s;some (.mk k s.at_ d.at_ t.2.2.2 s.at_ [],d)
  if t.1=3 then one 21
  else if t.1=4 then one 22
  else if t.1=1 then let r:=cZ l s;some (hX (e9 (.mk 23 s.at_ 0 [] 0 []) r.1) r.2.at_,r.2)
  else if aZ l s [105,110,112,117,116] then let d:=bc s;some (.mk 24 s.at_ d.at_ [] 0 [],d)
  else if aZ l s [40] then bn (P n .expr (bc s)) λr=>let d:=cB l [41] r.2;some (.mk 25 s.at_ d.at_ [] 0 [r.1],d)
  else if aZ l s [123] then bn (lR l (P n .entry) [125] n [] (bc s)) λr=>some (.mk 26 s.at_ r.2.at_ [] 0 r.1,r.2)
  else if aZ l s [102,110] then bn (P n .params (bc s)) λa=>bn (P n .typed a.2) λb=>bn (P n .block b.2) λc=>some (.mk 28 s.at_ c.2.at_ [] 0 [a.1,b.1,c.1],c.2)
  else let d:=jA s;some (.mk 21 s.at_ d.at_ [] 0 [],d)
 |n+1,.entry,s=>
  let r:=cZ l s
  bn (P n .expr (cB l [58] r.2)) λq=>some (hX (iN (e9 (.mk 27 s.at_ 0 [] 0 []) r.1) [q.1]) q.2.at_,q.2)
def mR(s:PS):Nd×PS:=
 let a:=cB l [117,115,101] s;let m:=cZ l a;let c:=cB l [46] m.2;let r:=cZ l c;let b:=cB l [59] r.2
 (hX (e9 (.mk 2 s.at_ 0 [] 0 [hX (e9 (.mk 23 a.at_ 0 [] 0 []) m.1) m.2.at_]) r.1) b.at_,b)
def uD(n:Nat)(s:PS):PR:=
 let r:=cZ l (cB l [100,101,102] s)
 bn (P l n .params r.2) λa=>bn (P l n .typed a.2) λb=>bn (P l n .block b.2) λc=>some (hX (iN (e9 (.mk 3 s.at_ 0 [] 0 []) r.1) [a.1,b.1,c.1]) c.2.at_,c.2)
def mL:Nat->List Nd->PS->Option (List Nd×PS)
 |0,_,_=>none
 |n+1,ks,s=>if s.err.isNone&& !decide ((fC l s).1=0) then
   if dH l s [117,115,101] then let r:=mR l s;mL n (ks++[r.1]) r.2
   else if dH l s [100,101,102] then bn (uD l n s) λr=>mL n (ks++[r.1]) r.2
   else mL n ks (jA s)
  else some (ks,s)
def xe(n:Nat):PR:=bn (mL l n [] ⟨0,none⟩) λr=>some (.mk 1 0 r.2.at_ [] 0 r.1,r.2)
end
structure RS where
 at_:Nat
 bad:Option Nat
abbrev RR:=Option (Nd×RS)
section
variable (l:List Tok)
def cV(at_:Nat)(x:List UInt8):Option Bool:=(l[at_]?).map λt=>(decide (t.1=2)||decide (t.1=5))&&decide (t.2.2.2=x)
def xq(s:RS)(x:List UInt8):Option Bool:=if s.bad.isNone then cV l s.at_ x else some false
def bZ(x:List UInt8)(s:RS):Option RS:=if s.bad.isNone then bn (cV l s.at_ x) λb=>some (if b then⟨s.at_+1,none⟩ else⟨s.at_,some s.at_⟩) else some s
def iu(n:Nd)(s:RS):RR:=if s.bad.isNone then bn (l[s.at_]?) λt=>some (if t.1=1 then(.mk n.k n.f n.t t.2.2.2 s.at_ n.ks,⟨s.at_+1,none⟩) else(n,⟨s.at_,some s.at_⟩)) else some (n,s)
def ended(n:Nd)(t:Nat)(ks:List Nd):Nd:=.mk n.k n.f t n.w n.a ks
def jn(one:RS->RR)(e:List UInt8)(first:Nat):Nat->List Nd->RS->Option (List Nd×RS)
 |0,_,_=>none
 |n+1,ks,s=>
  if s.bad.isNone then
   bn (if ks.length=first then cV l s.at_ e else some false) λb=>
   if b then some (ks,s) else
   bn (one s) λr=>
    bn (if r.2.bad.isNone then cV l r.2.at_ e else some true) λb=>
    if b then some (ks++[r.1],r.2) else bn (bZ l [44] r.2) λa=>jn one e first n (ks++[r.1]) a
  else some (ks,s)
def oD(one:RS->RR):Nat->List Nd->RS->Option (List Nd×RS)
 |0,_,_=>none
 |n+1,ks,s=>if s.bad.isNone then bn (cV l s.at_ [125]) λb=>if b then some (ks,s) else bn (one s) λr=>oD one n (ks++[r.1]) r.2 else some (ks,s)
def o6(one:RS->RR):Nat->Nd->RS->RR
 |0,_,_=>none
 |n+1,a,s=>if s.bad.isNone then
   bn (cV l s.at_ [43]) λp=>bn (if p then some true else cV l s.at_ [45]) λq=>
   if q then bn (one ⟨s.at_+1,none⟩) λr=>o6 one n (.mk (if p then 16 else 17) a.f r.2.at_ [] 0 [a,r.1]) r.2 else some (a,s)
  else some (a,s)
def s8(one:RS->RR):Nat->Nd->RS->RR
 |0,_,_=>none
 |n+1,a,s=>if s.bad.isNone then
   bn (cV l s.at_ [42]) λp=>if p then bn (one ⟨s.at_+1,none⟩) λr=>s8 one n (.mk 18 a.f r.2.at_ [] 0 [a,r.1]) r.2 else some (a,s)
  else some (a,s)
def oX(one:RS->RR):Nat->Nd->RS->RR
 |0,_,_=>none
 |n+1,a,s=>if s.bad.isNone then
   bn (cV l s.at_ [46]) λp=>
   if p then bn (iu l (.mk 19 a.f 0 [] 0 []) ⟨s.at_+1,none⟩) λr=>oX one n (ended r.1 r.2.at_ [a]) r.2
   else bn (cV l s.at_ [40]) λq=>
    if q then bn (jn l one [41] 1 n [a] ⟨s.at_+1,none⟩) λr=>bn (bZ l [41] r.2) λb=>oX one n (.mk 20 a.f b.at_ [] 0 r.1) b
    else some (a,s)
  else some (a,s)
def R:Nat->Task->RS->RR
 |0,_,_=>none
 |n+1,.kind,s=>
  if s.bad.isNone then
   bn (cV l s.at_ [105,110,116]) λb=>if b then some (.mk 29 s.at_ (s.at_+1) [] 0 [],⟨s.at_+1,none⟩) else
   bn (cV l s.at_ [115,116,114]) λb=>if b then some (.mk 30 s.at_ (s.at_+1) [] 0 [],⟨s.at_+1,none⟩) else
   bn (cV l s.at_ [100,121,110]) λb=>if b then some (.mk 31 s.at_ (s.at_+1) [] 0 [],⟨s.at_+1,none⟩) else
   bn (cV l s.at_ [123]) λb=>
    if b then bn (jn l (R n .field) [125] 0 n [] ⟨s.at_+1,none⟩) λr=>bn (bZ l [125] r.2) λg=>some (.mk 32 s.at_ g.at_ [] 0 r.1,g)
    else bn (bZ l [102,110] s) λd=>bn (bZ l [40] d) λg=>
     bn (jn l (R n .kind) [41] 0 n [] g) λr=>bn (bZ l [41] r.2) λh=>bn (bZ l [58] h) λj=>
     bn (R n .kind j) λq=>some (.mk 34 s.at_ q.2.at_ [] 0 (r.1++[q.1]),q.2)
  else some (dR,s)
 |n+1,.field,s=>bn (iu l (.mk 33 s.at_ 0 [] 0 []) s) λx=>bn (bZ l [58] x.2) λd=>bn (R n .kind d) λt=>some (ended x.1 t.2.at_ [t.1],t.2)
 |n+1,.typed,s=>bn (xq l s [58]) λb=>if b then R n .kind ⟨s.at_+1,none⟩ else some (dR,s)
 |n+1,.params,s=>bn (bZ l [40] s) λd=>bn (jn l (R n .param) [41] 0 n [] d) λr=>bn (bZ l [41] r.2) λg=>some (.mk 4 s.at_ g.at_ [] 0 r.1,g)
 |n+1,.param,s=>bn (iu l (.mk 5 s.at_ 0 [] 0 []) s) λx=>bn (R n .typed x.2) λt=>some (ended x.1 t.2.at_ [t.1],t.2)
 |n+1,.block,s=>bn (bZ l [123] s) λd=>bn (oD l (R n .stmt) n [] d) λr=>bn (bZ l [125] r.2) λg=>some (.mk 6 s.at_ g.at_ [] 0 r.1,g)
 |n+1,.stmt,s=>
  let fin:=λ(m:Nd) (ks:List Nd) (d:RS)=>bn (R n .expr d) λx=>bn (bZ l [59] x.2) λg=>some (ended m g.at_ (ks++[x.1]),g)
  bn (cV l s.at_ [105,102]) λi=>bn (if i then some true else cV l s.at_ [119,104,105,108,101]) λw=>
  if w then
   bn (R n .expr ⟨s.at_+1,s.bad⟩) λc=>bn (R n .block c.2) λb=>
    if i then
     bn (xq l b.2 [101,108,115,101]) λe=>
     if e then bn (R n .block ⟨b.2.at_+1,b.2.bad⟩) λo=>some (.mk 9 s.at_ o.2.at_ [] 0 [c.1,b.1,o.1],o.2)
     else some (.mk 9 s.at_ b.2.at_ [] 0 [c.1,b.1,dR],b.2)
    else some (.mk 10 s.at_ b.2.at_ [] 0 [c.1,b.1],b.2)
  else
  bn (cV l s.at_ [108,101,116]) λe=>
  if e then bn (iu l (.mk 7 s.at_ 0 [] 0 []) ⟨s.at_+1,s.bad⟩) λx=>bn (R n .typed x.2) λt=>bn (bZ l [61] t.2) λd=>fin x.1 [t.1] d
  else bn (cV l s.at_ [112,114,105,110,116]) λp=>
  if p then fin (.mk 11 s.at_ 0 [] 0 []) [] ⟨s.at_+1,s.bad⟩
  else bn (cV l s.at_ [114,101,116,117,114,110]) λq=>
  if q then fin (.mk 12 s.at_ 0 [] 0 []) [] ⟨s.at_+1,s.bad⟩
  else bn (l[s.at_]?) λt=>bn (if t.1=1 then cV l (s.at_+1) [61] else some false) λb=>
  if b then bn (iu l (.mk 8 s.at_ 0 [] 0 []) s) λx=>fin x.1 [] ⟨x.2.at_+1,x.2.bad⟩
  else fin (.mk 13 s.at_ 0 [] 0 []) [] s
 |n+1,.expr,s=>bn (R n .sum s) λr=>
   if r.2.bad.isNone then
    bn (cV l r.2.at_ [60]) λa=>bn (if a then some true else cV l r.2.at_ [61,61]) λb=>
    if b then bn (cV l r.2.at_ [61,61]) λk=>bn (R n .sum ⟨r.2.at_+1,none⟩) λq=>some (.mk (if k then 15 else 14) r.1.f q.2.at_ [] 0 [r.1,q.1],q.2)
    else some r
   else some r
 |n+1,.sum,s=>bn (R n .term s) λr=>o6 l (R n .term) n r.1 r.2
 |n+1,.term,s=>bn (R n .post s) λr=>s8 l (R n .post) n r.1 r.2
 |n+1,.post,s=>bn (R n .atom s) λr=>oX l (R n .expr) n r.1 r.2
 |n+1,.atom,s=>
  if s.bad.isNone then
   bn (l[s.at_]?) λt=>
   let one:=λk=>some (Nd.mk k s.at_ (s.at_+1) t.2.2.2 s.at_ [],RS.mk (s.at_+1) none)
   if t.1=3 then one 21 else if t.1=4 then one 22 else if t.1=1 then one 23 else
   bn (cV l s.at_ [105,110,112,117,116]) λb=>if b then some (.mk 24 s.at_ (s.at_+1) [] 0 [],⟨s.at_+1,none⟩) else
   bn (cV l s.at_ [40]) λb=>if b then bn (R n .expr ⟨s.at_+1,none⟩) λx=>bn (bZ l [41] x.2) λd=>some (.mk 25 s.at_ d.at_ [] 0 [x.1],d) else
   bn (cV l s.at_ [123]) λb=>
    if b then bn (jn l (R n .entry) [125] 0 n [] ⟨s.at_+1,none⟩) λr=>bn (bZ l [125] r.2) λg=>some (.mk 26 s.at_ g.at_ [] 0 r.1,g)
    else bn (bZ l [102,110] s) λd=>bn (R n .params d) λa=>bn (R n .typed a.2) λb=>bn (R n .block b.2) λc=>some (.mk 28 s.at_ c.2.at_ [] 0 [a.1,b.1,c.1],c.2)
  else some (dR,s)
 |n+1,.entry,s=>bn (iu l (.mk 27 s.at_ 0 [] 0 []) s) λx=>bn (bZ l [58] x.2) λd=>bn (R n .expr d) λt=>some (ended x.1 t.2.at_ [t.1],t.2)
def Bj(s:RS):RR:=
 bn (iu l (.mk 23 (s.at_+1) 0 [] 0 []) ⟨s.at_+1,s.bad⟩) λm=>bn (bZ l [46] m.2) λb=>bn (iu l (.mk 2 s.at_ 0 [] 0 []) b) λx=>bn (bZ l [59] x.2) λa=>
 some (ended x.1 a.at_ [hX m.1 m.2.at_],a)
def Bk(n:Nat)(s:RS):RR:=
 bn (bZ l [100,101,102] s) λs0=>bn (iu l (.mk 3 s.at_ 0 [] 0 []) s0) λx=>
 bn (R l n .params x.2) λa=>bn (R l n .typed a.2) λb=>bn (R l n .block b.2) λc=>some (ended x.1 c.2.at_ [a.1,b.1,c.1],c.2)
def rN:Nat->List Nd->RS->Option (List Nd×RS)
 |0,_,_=>none
 |n+1,ks,s=>if s.bad.isNone then bn (l[s.at_]?) λt=>if t.1=0 then some (ks,s) else
   bn (cV l s.at_ [117,115,101]) λb=>bn (if b then Bj l s else Bk l n s) λr=>rN n (ks++[r.1]) r.2
  else some (ks,s)
def Db(n:Nat):RR:=bn (rN l n [] ⟨0,none⟩) λr=>some (.mk 1 0 r.2.at_ [] 0 r.1,r.2)
end
structure iO(l:List Tok):Prop where
 ends:∀(i:Nat) (t:Tok),l[i]? =some t->t.1≠0->i+1<l.length
 keys:∀(i:Nat) (t:Tok),l[i]? =some t->t.1=2->t.2.2.2≠[61]
inductive Rl (l:List Tok):PS->RS->Prop
 |live (a:Nat) (h:a<l.length):Rl l ⟨a,none⟩ ⟨a,none⟩
 |dead (a a' b:Nat):Rl l ⟨a,some b⟩ ⟨a',some b⟩
def jH(k:Nat)(s a:PS):Prop:=a.err=none->s.err=none/\s.at_+k<=a.at_
def jH.refl(s):jH 0 s s:=λh=>⟨h,ν _⟩
def jH.trans{i j}{s b a}(h:jH i s b)(c:jH j b a):jH (i+j) s a:=λd=>by obtain⟨e,h2⟩:=c d;obtain⟨h3,h4⟩:=h e;exact⟨h3,aa⟩
def jH.less{i j}{s b}(h:jH i s b)(hj:j<=i):jH j s b:=λa=>⟨(h a).1,by have:=(h a).2;omega⟩
def jH.dead(k a b)(s):jH k s ⟨a,some b⟩:=λh=>by cases h
section
variable {l:List Tok}
def Au{a}(h:a<l.length):∃t,l[a]? =some t:=⟨_,Ν h⟩
def iK{a}(e)(x)(h:a<l.length):cV l a x=some (dH l ⟨a,e⟩ x):=by obtain⟨t,b⟩:=Au h;simp[cV,dH,fC,b]
def aiS{a}{e}{x}{t}(b:l[a]? =some t)(h:dH l ⟨a,e⟩ x=true):t.1≠0:=by simp[dH,fC,b] at h;omega
def i_(c:iO l){a}{e}{x}(d:a<l.length)(h:dH l ⟨a,e⟩ x=true):a+1<l.length:=by obtain⟨t,b⟩:=Au d;exact c.ends a t b (aiS b h)
def Cg(a b)(x):aZ l ⟨a,some b⟩ x=false:=rfl
def Y9(a)(x):aZ l ⟨a,none⟩ x=dH l ⟨a,none⟩ x:=rfl
def ask{s}{t}(h:Rl l s t)(x):xq l t x=some (aZ l s x):=by
 cases h with
 |live a h=>exact iK none x h
 |dead a a' b=>rfl
def Wi(d:iO l){s}{t}{x}(h:Rl l s t)(c:aZ l s x=true):∃a,s=⟨a,none⟩/\t=⟨a,none⟩/\a+1<l.length:=by
 cases h with
 |live a h=>exact⟨a,rfl,rfl,i_ d h c⟩
 |dead a a' b=>cases c
def sL(d:iO l){s}{t}(h:Rl l s t)(x):∃t',bZ l x t=some t'/\Rl l (cB l x s) t'/\jH 1 s (cB l x s):=by
 cases h with
 |dead a a' b=>exact⟨_,rfl,.dead a a' b,.dead 1 a b _⟩
 |live a h=>
  have c:=iK none x h
  cases hp:dH l ⟨a,none⟩ x with
  |true=>
   refine⟨⟨a+1,none⟩,by simp[bZ,c,hp,bn],?_,?_⟩
   ·have:cB l x ⟨a,none⟩=⟨a+1,none⟩:=by simp[cB,aZ,hp,bc]
    rw[this];exact .live _ (i_ d h hp)
   ·simp[cB,aZ,hp,bc,jH]
  |false=>
   refine⟨⟨a,some a⟩,by simp[bZ,c,hp,bn],?_,?_⟩
   ·have:cB l x ⟨a,none⟩=⟨a,some a⟩:=by simp[cB,aZ,hp,jA]
    rw[this];exact .dead a a a
   ·simp[cB,aZ,hp,jA,jH]
def yh(i:iO l){s}{t}(h:Rl l s t)(n):∃q,iu l n t=some q/\Rl l (cZ l s).2 q.2/\jH 1 s (cZ l s).2/\((cZ l s).2.err=none->q.1=e9 n (cZ l s).1):=by
 cases h with
 |dead a a' b=>
  have:cZ l ⟨a,some b⟩=(none,⟨a,some b⟩):=by simp only[cZ,jA];split<;>rfl
  rw[this];exact⟨(n,⟨a',some b⟩),rfl,.dead a a' b,.dead 1 a b _,λh=>by cases h⟩
 |live a h=>
  obtain⟨x,d⟩:=Au h;have g:fC l ⟨a,none⟩=x:=by simp[fC,d]
  by_cases c:x.1=1
  ·have e:cZ l ⟨a,none⟩=(some (x.2.2.2,a),⟨a+1,none⟩):=by simp[cZ,g,c,bc]
   rw[e];refine⟨(.mk n.k n.f n.t x.2.2.2 a n.ks,⟨a+1,none⟩),by simp[iu,d,bn,c],.live _ (i.ends a x d aa),λ_=>⟨rfl,ν _⟩,λ_=>rfl⟩
  ·have e:cZ l ⟨a,none⟩=(none,⟨a,some a⟩):=by simp[cZ,g,c,jA]
   rw[e];exact⟨(n,⟨a,some a⟩),by simp[iu,d,bn,c],.dead a a a,.dead 1 a a _,λh=>by cases h⟩
def Bo(l:List Tok)(k:Nat)(s:PS)(p:PR)(q:RR):Prop:=∃r a,p=some r/\q=some a/\Rl l r.2 a.2/\jH k s r.2/\(r.2.err=none->r.1=a.1)
def GL(l:List Tok)(k:Nat)(s:PS)(p:Option (List Nd×PS))(q:Option (List Nd×RS)):Prop:=∃r a,p=some r/\q=some a/\Rl l r.2 a.2/\jH k s r.2/\(r.2.err=none->r.1=a.1)
def One(l:List Tok)(a0:Nat)(one:PS->PR)(eR:RS->RR):Prop:=∀a,a0<=a->a<l.length->Bo l 1 ⟨a,none⟩ (one ⟨a,none⟩) (eR ⟨a,none⟩)
def One.less{a0 a1}{one:PS->PR}{eR:RS->RR}(h:One l a0 one eR)(ha:a0<=a1):One l a1 one eR:=λa h1 b=>h a aa b
def A4(l:List Tok)(one:RS->RR)(e:List UInt8)(first n:Nat)(ks:List Nd)(s:RS):Option (List Nd×RS):=bn (jn l one e first n ks s) λr=>bn (bZ l e r.2) λa=>some (r.1,a)
def Wj(g:iO l){a0}{one:PS->PR}{eR:RS->RR}(p:One l a0 one eR)(e)(first):∀(n a:Nat) (ks:List Nd),a0<=a->a<l.length->l.length-a+1<=n->first<=ks.length->(ks.length=first->cV l a e=some false)->
  GL l 1 ⟨a,none⟩ (mN l one e n ks ⟨a,none⟩) (A4 l eR e first n ks ⟨a,none⟩)
 |0,a,ks,_,h,D,_,_=>by omega
 |n+1,a,ks,v,h,D,hf,hi=>by
  obtain⟨r,t,F,y,x,u,h3⟩:=p a v h;obtain⟨nd,s1⟩:=r;obtain⟨j,t1⟩:=t;have hb:(if ks.length=first then cV l a e else some false)=some false:=by grind
  simp[A4,mN,jn,F,y,fy,hb]
  cases x with
  |dead b m c=>
   cases n with
   |zero=>omega
   |succ n=>
    refine⟨(ks++[nd],⟨b,some c⟩),(ks++[j],⟨m,some c⟩),?_,?_,.dead b m c,.dead 1 b c _,λh=>by cases h⟩
    ·simp[Cg,cB,jA,mN]
    ·simp[bn,bZ]
  |live b f=>
   obtain⟨_,C⟩:=u rfl;have jG:a+1<=b:=C;have z:nd=j:=h3 rfl;subst z;have s:=iK none e f
   cases hp:dH l ⟨b,none⟩ e with
   |true=>
    refine⟨(ks++[nd],⟨b+1,none⟩),(ks++[nd],⟨b+1,none⟩),?_,?_,.live _ (i_ g f hp),λ_=>⟨rfl,by simp only;omega⟩,λ_=>rfl⟩
    ·simp[aZ,hp,bc]
    ·simp[s,hp,bn,bZ]
   |false=>
    obtain⟨t2,G,o,h5⟩:=sL g (Rl.live b f) [44];simp[aZ,hp,s,fy,G];generalize bF:cB l [44] ⟨b,none⟩=s2 at o h5
    cases o with
    |dead c k d=>
     cases n with
     |zero=>omega
     |succ n=>
      refine⟨(ks++[nd],⟨c,some d⟩),(ks++[nd],⟨k,some d⟩),?_,?_,.dead c k d,.dead 1 c d _,λh=>by cases h⟩
      ·simp[mN]
      ·simp[jn,bn,bZ]
    |live c K=>
     obtain⟨_,A⟩:=h5 rfl;have jU:b+1<=c:=A;obtain⟨q,J,w,E,I,H,B⟩:=Wj g p e first n c (ks++[nd]) aa K aa aP (λi=>by simp at i;omega)
     refine⟨q,J,w,E,I,λi=>⟨rfl,?_⟩,B⟩;have:=(H i).2;simp only at this⊢;omega
def EN(c:iO l){one}{eR:RS->RR}{s:PS}{t:RS}(h:Rl l s t)(g:s.err=none->One l s.at_ one eR)(e){n}(ks:List Nd)(f:s.err=none->l.length-s.at_+1<=n)(h1:1<=n):
  GL l 1 s (lR l one e n ks s) (A4 l eR e ks.length n ks t):=by
 cases h with
 |dead a a' b=>obtain⟨n,rfl⟩:∃k,n=k+1:=⟨n-1,aa⟩;exact⟨(ks,⟨a,some b⟩),(ks,⟨a',some b⟩),by simp[lR,Cg,mN],by simp[A4,jn,bn,bZ],.dead a a' b,.dead 1 a b _,λh=>by cases h⟩
 |live a h=>
  have d:=iK none e h
  cases hp:dH l ⟨a,none⟩ e with
  |true=>obtain⟨n,rfl⟩:∃k,n=k+1:=⟨n-1,aa⟩;exact⟨(ks,⟨a+1,none⟩),(ks,⟨a+1,none⟩),by simp[lR,aZ,hp,bc],by simp[A4,jn,d,hp,bn,bZ],.live _ (i_ c h hp),λ_=>⟨rfl,ν _⟩,λ_=>rfl⟩
  |false=>
   have:lR l one e n ks ⟨a,none⟩=mN l one e n ks ⟨a,none⟩:=by simp[lR,aZ,hp]
   rw[this];exact Wj c (g rfl) e ks.length n a ks (ν _) h (f rfl) (ν _) (λ_=>by rw[d,hp])
def VG(u:iO l){a0}{one:PS->PR}{eR:RS->RR}:∀(n:Nat) (ks:List Nd) (s:PS) (t:RS),Rl l s t->(s.err=none->One l a0 one eR)->(s.err=none->a0<=s.at_/\l.length-s.at_+1<=n)->1<=n->
  GL l 1 s (nN l one n ks s) (bn (oD l eR n ks t) λr=>bn (bZ l [125] r.2) λy=>some (r.1,y))
 |0,ks,s,t,_,_,_,B=>by omega
 |n+1,ks,s,t,h,e,L,B=>by
  cases h with
  |dead a a' b=>exact⟨(ks,⟨a,some b⟩),(ks,⟨a',some b⟩),by simp[nN],by simp[oD,bn,bZ],.dead a a' b,.dead 1 a b _,λh=>by cases h⟩
  |live a h=>
   have v:=iK none [125] h;have e:=e rfl;obtain⟨m,F⟩:=L rfl;simp only at m F
   cases hp:dH l ⟨a,none⟩ [125] with
   |true=>exact⟨(ks,⟨a+1,none⟩),(ks,⟨a+1,none⟩),by simp[nN,aZ,hp,bc],by simp[oD,v,hp,bn,bZ],.live _ (i_ u h hp),λ_=>⟨rfl,ν _⟩,λ_=>rfl⟩
   |false=>
    obtain⟨r,w,I,C,j,h3,A⟩:=e a m h;obtain⟨nd,g⟩:=r;obtain⟨i,p⟩:=w;have H:1<=n:=aa
    have ih:=VG u n (ks++[nd]) g p j (λ_=>e) (λK=>by
     have:=(h3 K).2;simp only at this
     omega) H
    obtain⟨q,O,x,G,M,J,E⟩:=ih;have z:nN l one (n+1) ks ⟨a,none⟩=nN l one n (ks++[nd]) g:=by simp[nN,aZ,hp,I,bn]
    have N:oD l eR (n+1) ks ⟨a,none⟩=oD l eR n (ks++[i]) p:=by simp[oD,v,hp,C,bn]
    rw[z,N];by_cases f:g.err=none
    ·have d:=A f;simp only at d;subst d;exact⟨q,O,x,G,M,λD=>⟨rfl,by have:=(h3 f).2;have:=(J D).2;simp only at*;omega⟩,E⟩
    ·cases j with
     |live b hb=>exact(f rfl).elim
     |dead b o c=>obtain⟨n,rfl⟩:∃k,n=k+1:=⟨n-1,aa⟩;exact⟨(ks++[nd],⟨b,some c⟩),(ks++[i],⟨o,some c⟩),by simp[nN],by simp[oD,bn,bZ],.dead b o c,.dead 1 b c _,λh=>by cases h⟩
def Wk(m:iO l){a0}{one:PS->PR}{eR:RS->RR}:∀(n:Nat) (x x':Nd) (s:PS) (t:RS),Rl l s t->(s.err=none->One l a0 one eR)->(s.err=none->x=x'/\a0<=s.at_/\l.length-s.at_+1<=n)->1<=n->
  Bo l 0 s (kS l one n x s) (o6 l eR n x' t)
 |0,x,x',s,t,_,_,_,E=>by omega
 |n+1,x,x',s,t,h,g,K,E=>by
  cases h with
  |dead a a' b=>exact⟨(x,⟨a,some b⟩),(x',⟨a',some b⟩),by simp[kS],by simp[o6],.dead a a' b,.dead 0 a b _,λh=>by cases h⟩
  |live a h=>
   obtain⟨rfl,A,H⟩:=K rfl;have g:=g rfl;simp only at A H;have j:=iK none [43] h;have hm:=iK none [45] h
   have w:∀k,dH l ⟨a,none⟩ [43]=true\/dH l ⟨a,none⟩ [45]=true->Bo l 0 ⟨a,none⟩ (bn (lz k x one ⟨a+1,none⟩) λr=>kS l one n r.1 r.2) (bn (eR ⟨a+1,none⟩) λr=>o6 l eR n (.mk k x.f r.2.at_ [] 0 [x,r.1]) r.2):=by
    intro k B;have hb:a+1<l.length:=B.elim (i_ m h) (i_ m h);obtain⟨r,y,e,d,p,h3,D⟩:=g (a+1) aa hb;obtain⟨nd,v⟩:=r;obtain⟨z,u⟩:=y;simp[lz,e,d,fy]
    obtain⟨q,M,C,I,L,J,G⟩:=Wk m n (.mk k x.f v.at_ [] 0 [x,nd]) (.mk k x.f u.at_ [] 0 [x,z]) v u p (λ_=>g) (λo=>by
     have h5:=D o;simp only at h5;subst h5;have i:=(h3 o).2;simp only at i;refine⟨?_,aa,aa⟩
     cases p with
     |live b hb=>rfl
     |dead b b' c=>cases o) aa
    exact⟨q,M,C,I,L,λF=>⟨rfl,by have i:=J F;have:=(h3 i.1).2;have:=i.2;simp only at*;omega⟩,G⟩
   cases l8:dH l ⟨a,none⟩ [43] with
   |true=>
    have e:kS l one (n+1) x ⟨a,none⟩=bn (lz 16 x one ⟨a+1,none⟩) λr=>kS l one n r.1 r.2:=by simp[kS,aZ,l8,bc]
    have d:o6 l eR (n+1) x ⟨a,none⟩=bn (eR ⟨a+1,none⟩) λr=>o6 l eR n (.mk 16 x.f r.2.at_ [] 0 [x,r.1]) r.2:=by simp[o6,j,l8,bn]
    rw[e,d];exact w 16 (.inl l8)
   |false=>
    cases tI:dH l ⟨a,none⟩ [45] with
    |true=>
     have e:kS l one (n+1) x ⟨a,none⟩=bn (lz 17 x one ⟨a+1,none⟩) λr=>kS l one n r.1 r.2:=by simp[kS,aZ,l8,tI,bc]
     have d:o6 l eR (n+1) x ⟨a,none⟩=bn (eR ⟨a+1,none⟩) λr=>o6 l eR n (.mk 17 x.f r.2.at_ [] 0 [x,r.1]) r.2:=by simp[o6,j,hm,l8,tI,bn]
     rw[e,d];exact w 17 (.inr tI)
    |false=>exact⟨(x,⟨a,none⟩),(x,⟨a,none⟩),by simp[kS,aZ,l8,tI],by simp[o6,j,hm,l8,tI,bn],.live a h,.refl _,λ_=>rfl⟩
def VH(m:iO l){a0}{one:PS->PR}{eR:RS->RR}:∀(n:Nat) (x x':Nd) (s:PS) (t:RS),Rl l s t->(s.err=none->One l a0 one eR)->(s.err=none->x=x'/\a0<=s.at_/\l.length-s.at_+1<=n)->1<=n->
  Bo l 0 s (qH l one n x s) (s8 l eR n x' t)
 |0,x,x',s,t,_,_,_,z=>by omega
 |n+1,x,x',s,t,h,d,I,z=>by
  cases h with
  |dead a a' b=>exact⟨(x,⟨a,some b⟩),(x',⟨a',some b⟩),by simp[qH,Cg],by simp[s8],.dead a a' b,.dead 0 a b _,λh=>by cases h⟩
  |live a h=>
   obtain⟨rfl,v,E⟩:=I rfl;have d:=d rfl;simp only at v E;have j:=iK none [42] h
   cases l8:dH l ⟨a,none⟩ [42] with
   |true=>
    have G:qH l one (n+1) x ⟨a,none⟩=bn (lz 18 x one ⟨a+1,none⟩) λr=>qH l one n r.1 r.2:=by simp[qH,aZ,l8,bc]
    have A:s8 l eR (n+1) x ⟨a,none⟩=bn (eR ⟨a+1,none⟩) λr=>s8 l eR n (.mk 18 x.f r.2.at_ [] 0 [x,r.1]) r.2:=by simp[s8,j,l8,bn]
    rw[G,A];obtain⟨r,p,B,g2,i,h3,y⟩:=d (a+1) aa (i_ m h l8);obtain⟨nd,o⟩:=r;obtain⟨u,k⟩:=p;simp[lz,B,g2,fy]
    obtain⟨q,K,w,F,J,H,D⟩:=VH m n (.mk 18 x.f o.at_ [] 0 [x,nd]) (.mk 18 x.f k.at_ [] 0 [x,u]) o k i (λ_=>d) (λg=>by
     have h5:=y g;simp only at h5;subst h5;have e:=(h3 g).2;simp only at e;refine⟨?_,aa,aa⟩
     cases i with
     |live b hb=>rfl
     |dead b b' c=>cases g) aa
    exact⟨q,K,w,F,J,λC=>⟨rfl,by have e:=H C;have:=(h3 e.1).2;have:=e.2;simp only at*;omega⟩,D⟩
   |false=>exact⟨(x,⟨a,none⟩),(x,⟨a,none⟩),by simp[qH,aZ,l8],by simp[s8,j,l8,bn],.live a h,.refl _,λ_=>rfl⟩
end
section
variable {l:List Tok}
def gA{s:PS}{t:RS}(h:Rl l s t)(c:s.err=none):t.at_=s.at_/\s.at_<l.length:=by
 cases h with
 |live a h=>exact⟨rfl,h⟩
 |dead a a' b=>cases c
def Y_(k f t)(ks)(x):hX (e9 (.mk k f 0 [] 0 ks) x) t=ended (e9 (.mk k f 0 [] 0 []) x) t ks:=by cases x<;>rfl
def IJ(k f t)(ks ms)(x):hX (iN (e9 (.mk k f 0 [] 0 ks) x) ms) t=ended (e9 (.mk k f 0 [] 0 []) x) t (ks++ms):=by cases x<;>rfl
def Ng(j:iO l){a0}{one}{eR}:∀n x x' s t,Rl l s t->(s.err=none->One l a0 one eR)->(s.err=none->x=x'/\a0<=s.at_/\l.length-s.at_+2<=n)->1<=n->
  Bo l 0 s (mK l one n x s) (oX l eR n x' t)
 |0,x,x',s,t,_,_,_,K=>by omega
 |n+1,x,x',s,t,h,m,P,K=>by
  cases h with
  |dead a a' b=>exact⟨(x,⟨a,some b⟩),(x',⟨a',some b⟩),by simp[mK],by simp[oX],.dead a a' b,.dead 0 a b _,λh=>by cases h⟩
  |live a h=>
   obtain⟨rfl,I,N⟩:=P rfl;have m:=m rfl;simp only at I N;have v:=iK none [46] h;have hm:=iK none [40] h
   cases l8:dH l ⟨a,none⟩ [46] with
   |true=>
    have hb:=i_ j h l8;obtain⟨q,L,k,h3,p⟩:=yh j (Rl.live (a+1) hb) (.mk 19 x.f 0 [] 0 []);have A:mK l one (n+1) x ⟨a,none⟩=mK l one n (hX (e9 (.mk 19 x.f 0 [] 0 [x]) (cZ l ⟨a+1,none⟩).1) (cZ l ⟨a+1,none⟩).2.at_) (cZ l ⟨a+1,none⟩).2:=by simp[mK,aZ,l8,bc]
    have B:oX l eR (n+1) x ⟨a,none⟩=oX l eR n (ended q.1 q.2.at_ [x]) q.2:=by simp[oX,v,l8,bn,L]
    rw[A,B]
    obtain⟨r,i,o,z,D,C,y⟩:=Ng j n (hX (e9 (.mk 19 x.f 0 [] 0 [x]) (cZ l ⟨a+1,none⟩).1) (cZ l ⟨a+1,none⟩).2.at_) (ended q.1 q.2.at_ [x]) (cZ l ⟨a+1,none⟩).2 q.2 k (λ_=>m) (λg=>by
     rw[Y_,p g];have e:=(h3 g).2;simp only at e
     exact⟨by rw[(gA k g).1],aa,aa⟩) aa
    exact⟨r,i,o,z,D,λw=>⟨rfl,by have e:=C w;have:=(h3 e.1).2;have:=e.2;simp only at*;omega⟩,y⟩
   |false=>
    cases tI:dH l ⟨a,none⟩ [40] with
    |true=>
     have hb:=i_ j h tI;obtain⟨r,i,M,g2,k,h3,p⟩:=EN j (Rl.live (a+1) hb) (λ_=>m.less (by simp only;omega)) [41] (n:=n) [x] (λ_=>by simp only;omega) aa;have A:mK l one (n+1) x ⟨a,none⟩=mK l one n (.mk 20 x.f r.2.at_ [] 0 r.1) r.2:=by simp[mK,aZ,l8,tI,bc,M,bn]
     have B:oX l eR (n+1) x ⟨a,none⟩=oX l eR n (.mk 20 x.f i.2.at_ [] 0 i.1) i.2:=by unfold A4 at g2;obtain⟨c,E,c2⟩:=al g2;obtain⟨d,J,H⟩:=al c2;cases H;simp[aE6] at E;simp[oX,v,hm,l8,tI,bn,E,J]
     rw[A,B];obtain⟨O,G⟩:=r;obtain⟨u,F⟩:=i
     obtain⟨q,Q,o,z,D,C,y⟩:=Ng j n (.mk 20 x.f G.at_ [] 0 O) (.mk 20 x.f F.at_ [] 0 u) G F k (λ_=>m) (λg=>by
      have h5:=p g;simp only at h5;subst h5;have e:=(h3 g).2;simp only at e;refine⟨?_,aa,aa⟩
      cases k with
      |live b hb=>rfl
      |dead b b' c=>cases g) aa
     exact⟨q,Q,o,z,D,λw=>⟨rfl,by have e:=C w;have:=(h3 e.1).2;have:=e.2;simp only at*;omega⟩,y⟩
    |false=>exact⟨(x,⟨a,none⟩),(x,⟨a,none⟩),by simp[mK,aZ,l8,tI],by simp[oX,v,hm,l8,tI,bn],.live a h,.refl _,λ_=>rfl⟩
def Task.dB:Task->Nat
 | .kind=>3| .field=>4| .typed=>4| .params=>5| .param=>5| .block=>9| .stmt=>8| .expr=>7| .sum=>6| .term=>5| .post=>4| .atom=>3| .entry=>8
def Task.h_:Task->Nat
 | .typed=>0
 |_=>1
def Fit(l:List Tok)(n:Nat):Prop:=∀task s t,Rl l s t->(s.err=none->16*(l.length-s.at_)+task.dB<=n)->task.dB<=n->(task=.stmt->s.err=none)->Bo l task.h_ s (P l n task s) (R l n task t)
def yz{n}(h:Fit l n)(task:Task)(c:task.h_=1)(a0)(hb:16*(l.length-a0)+task.dB<=n):One l a0 (P l n task) (R l n task):=λa h0 b=>by have:=h task ⟨a,none⟩ ⟨a,none⟩ (.live a b) (λ_=>by simp only;omega) aa (λ_=>rfl);rwa [c] at this
def HS{one}{e}{first n}{ks}{s}{r}(h:A4 l one e first n ks s=some r):∃c,jn l one e first n ks s=some (r.1,c)/\bZ l e c=some r.2:=by obtain⟨c,f,c2⟩:=al h;obtain⟨d,a,b⟩:=al c2;cases b;exact⟨c.2,f,a⟩
def aiT{one}{n}{ks}{s}{r}(h:(bn (oD l one n ks s) λr=>bn (bZ l [125] r.2) λb=>some (r.1,b))=some r):∃c,oD l one n ks s=some (r.1,c)/\bZ l [125] c=some r.2:=by obtain⟨c,f,c2⟩:=al h;obtain⟨d,a,e⟩:=al c2;cases e;exact⟨c.2,f,a⟩
def sub{n k}(ih:Fit l n){task:Task}{s a:PS}{b}(h:Rl l a b)(f:jH k s a)(j:s.err=none->16*(l.length-s.at_)+task.dB<=n+16*k)(g:task.dB<=n)(i:task≠.stmt)(m:s.err=none->s.at_<l.length):Bo l task.h_ a (P l n task a) (R l n task b):=
 ih task a b h (λc=>by
  have d:=f c;have h2:=j d.1;have h3:=m d.1;have h4:=(gA h c).2
  omega) g (λe=>(i e).elim)
def QJ{s:PS}{t}(h:Rl l s t)(a:s.err=none):s.at_<l.length:=(gA h a).2
def ahw(c:iO l){n}(ih:Fit l n)(s:PS)(t)(h:Rl l s t)(j:s.err=none->16*(l.length-s.at_)+4<=n+1)(hr:4<=n+1):Bo l 1 s (P l (n+1) .field s) (R l (n+1) .field t):=by obtain⟨q,i,g,a2,n2⟩:=yh c h (.mk 33 t.at_ 0 [] 0 []);obtain⟨t3,f,h3,a3⟩:=sL c g [58];obtain⟨r,b,p4,e,d,a4,n4⟩:=sub ih (task:=.kind) h3 (a2.trans a3) (λa=>by have:=j a;simp[Task.dB];omega) (by simp[Task.dB];omega) ah (QJ h);refine⟨(hX (iN (e9 (.mk 33 s.at_ 0 [] 0 []) (cZ l s).1) [r.1]) r.2.at_,r.2),(ended q.1 b.2.at_ [b.1],b.2),by simp[P,p4,fy],by simp[R,i,f,e,fy],d,((a2.trans a3).trans a4).less (by simp[Task.h_]),λa=> ?_⟩;have b2:=(a3 ((a4 a).1)).1;simp[IJ,n2 b2,n4 a,(gA h ((a2 b2).1)).1,(gA d a).1]
def ahx(c:iO l){n}(ih:Fit l n)(s:PS)(t)(h:Rl l s t)(j:s.err=none->16*(l.length-s.at_)+8<=n+1)(hr:8<=n+1):Bo l 1 s (P l (n+1) .entry s) (R l (n+1) .entry t):=by obtain⟨q,i,g,a2,n2⟩:=yh c h (.mk 27 t.at_ 0 [] 0 []);obtain⟨t3,f,h3,a3⟩:=sL c g [58];obtain⟨r,b,p4,e,d,a4,n4⟩:=sub ih (task:=.expr) h3 (a2.trans a3) (λa=>by have:=j a;simp[Task.dB];omega) (by simp[Task.dB];omega) ah (QJ h);refine⟨(hX (iN (e9 (.mk 27 s.at_ 0 [] 0 []) (cZ l s).1) [r.1]) r.2.at_,r.2),(ended q.1 b.2.at_ [b.1],b.2),by simp[P,p4,fy],by simp[R,i,f,e,fy],d,((a2.trans a3).trans a4).less (by simp[Task.h_]),λa=> ?_⟩;have b2:=(a3 ((a4 a).1)).1;simp[IJ,n2 b2,n4 a,(gA h ((a2 b2).1)).1,(gA d a).1]
def ahy(e:iO l){n}(ih:Fit l n)(s:PS)(t)(h:Rl l s t)(i:s.err=none->16*(l.length-s.at_)+5<=n+1)(hr:5<=n+1):Bo l 1 s (P l (n+1) .param s) (R l (n+1) .param t):=by obtain⟨q,g,f,a2,n2⟩:=yh e h (.mk 5 t.at_ 0 [] 0 []);obtain⟨r,b,p4,d,c,a4,n4⟩:=sub ih (task:=.typed) f a2 (λa=>by have:=i a;simp[Task.dB];omega) (by simp[Task.dB];omega) ah (QJ h);refine⟨(hX (iN (e9 (.mk 5 s.at_ 0 [] 0 []) (cZ l s).1) [r.1]) r.2.at_,r.2),(ended q.1 b.2.at_ [b.1],b.2),by simp[P,p4,fy],by simp[R,g,d,fy],c,(a2.trans a4).less (by simp[Task.h_]),λa=> ?_⟩;have b2:=(a4 a).1;simp[IJ,n2 b2,n4 a,(gA h ((a2 b2).1)).1,(gA c a).1]
def ahz(e:iO l){n}(ih:Fit l n)(s:PS)(t)(h:Rl l s t)(j:s.err=none->16*(l.length-s.at_)+4<=n+1)(hr:4<=n+1):Bo l 0 s (P l (n+1) .typed s) (R l (n+1) .typed t):=by
 have b:=ask h [58]
 cases ht:aZ l s [58] with
 |false=>exact⟨(dR,s),(dR,t),by simp[P,ht],by simp[R,b,ht,bn],h,.refl s,λ_=>rfl⟩
 |true=>obtain⟨a,rfl,rfl,hb⟩:=Wi e h ht;have f:=j rfl;simp only at f;obtain⟨r,d,p4,c,i,a4,n4⟩:=ih .kind ⟨a+1,none⟩ ⟨a+1,none⟩ (.live _ hb) (λ_=>by simp[Task.dB];omega) (by simp[Task.dB];omega) ah;exact⟨r,d,by simp[P,ht,bc,p4],by simp[R,b,ht,bn,c],i,λg=>⟨rfl,by have:=(a4 g).2;simp[Task.h_] at*;omega⟩,n4⟩
def agB(d:iO l){n}(ih:Fit l n)(s:PS)(t)(h:Rl l s t)(i:s.err=none->16*(l.length-s.at_)+5<=n+1)(hr:5<=n+1):Bo l 1 s (P l (n+1) .params s) (R l (n+1) .params t):=by
 obtain⟨t1,k,f,a1⟩:=sL d h [40]
 obtain⟨r,b,p4,j,e,a4,n4⟩:=EN d f (n:=n) (one:=P l n .param) (eR:=R l n .param) (λa=>yz ih .param rfl _ (by
  have m:=a1 a;have h3:=i m.1;have h5:=(gA f a).2;simp[Task.dB]
  omega)) [41] [] (λa=>by have:=i (a1 a).1;have:=(a1 a).2;omega) aa
 obtain⟨c,g,c2⟩:=HS j;rw[Χ] at g;refine⟨(.mk 4 s.at_ r.2.at_ [] 0 r.1,r.2),(.mk 4 t.at_ b.2.at_ [] 0 b.1,b.2),by simp[P,p4,fy],by simp[R,k,g,c2,fy],e,(a1.trans a4).less aa,λa=> ?_⟩;simp[n4 a,(gA h ((a1 (a4 a).1).1)).1,(gA e a).1]
def ahA(d:iO l){n}(ih:Fit l n)(s:PS)(t)(h:Rl l s t)(g:s.err=none->16*(l.length-s.at_)+9<=n+1)(hr:9<=n+1):Bo l 1 s (P l (n+1) .block s) (R l (n+1) .block t):=by
 obtain⟨j,m,f,a1⟩:=sL d h [123]
 obtain⟨r,b,p4,i,e,a4,n4⟩:=VG d (a0:=(cB l [123] s).at_) (one:=P l n .stmt) (eR:=R l n .stmt) n [] _ j f (λa=>yz ih .stmt rfl _ (by
  have k:=a1 a;have h3:=g k.1;have h5:=(gA f a).2;simp[Task.dB]
  omega)) (λa=>⟨ν _,by have:=g (a1 a).1;have:=(a1 a).2;omega⟩) aa
 obtain⟨c,o,c2⟩:=aiT i;refine⟨(.mk 6 s.at_ r.2.at_ [] 0 r.1,r.2),(.mk 6 t.at_ b.2.at_ [] 0 b.1,b.2),by simp[P,p4,fy],by simp[R,m,o,c2,fy],e,(a1.trans a4).less aa,λa=> ?_⟩;simp[n4 a,(gA h ((a1 (a4 a).1).1)).1,(gA e a).1]
def amd(i:iO l){n}(ih:Fit l n)(s:PS)(t)(h:Rl l s t)(c:s.err=none->16*(l.length-s.at_)+6<=n+1)(hr:6<=n+1):Bo l 1 s (P l (n+1) .sum s) (R l (n+1) .sum t):=by
 obtain⟨r,d,p4,f,o,a4,n4⟩:=ih .term s t h (λa=>by have:=c a;simp[Task.dB];omega) (by simp[Task.dB];omega) ah
 obtain⟨q,p,j,e,m,g,k⟩:=Wk i (a0:=r.2.at_) (one:=P l n .term) (eR:=R l n .term) n r.1 d.1 r.2 d.2 o (λa=>yz ih .term rfl _ (by
  have b:=a4 a;have h3:=c b.1
  simp[Task.dB,Task.h_] at*
  omega)) (λa=>⟨n4 a,ν _,by have b:=a4 a;have h3:=c b.1;simp[Task.h_] at*;omega⟩) aa
 exact⟨q,p,by simp[P,p4,fy,j],by simp[R,f,fy,e],m,(a4.trans g).less (by simp[Task.h_]),k⟩
def aiU(i:iO l){n}(ih:Fit l n)(s:PS)(t)(h:Rl l s t)(c:s.err=none->16*(l.length-s.at_)+5<=n+1)(hr:5<=n+1):Bo l 1 s (P l (n+1) .term s) (R l (n+1) .term t):=by
 obtain⟨r,d,p4,f,o,a4,n4⟩:=ih .post s t h (λa=>by have:=c a;simp[Task.dB];omega) (by simp[Task.dB];omega) ah
 obtain⟨q,p,j,e,m,g,k⟩:=VH i (a0:=r.2.at_) (one:=P l n .post) (eR:=R l n .post) n r.1 d.1 r.2 d.2 o (λa=>yz ih .post rfl _ (by
  have b:=a4 a;have h3:=c b.1
  simp[Task.dB,Task.h_] at*
  omega)) (λa=>⟨n4 a,ν _,by have b:=a4 a;have h3:=c b.1;simp[Task.h_] at*;omega⟩) aa
 exact⟨q,p,by simp[P,p4,fy,j],by simp[R,f,fy,e],m,(a4.trans g).less (by simp[Task.h_]),k⟩
def aiV(j:iO l){n}(ih:Fit l n)(s:PS)(t)(h:Rl l s t)(d:s.err=none->16*(l.length-s.at_)+4<=n+1)(hr:4<=n+1):Bo l 1 s (P l (n+1) .post s) (R l (n+1) .post t):=by
 obtain⟨r,e,p4,g,c,a4,n4⟩:=ih .atom s t h (λa=>by have:=d a;simp[Task.dB];omega) (by simp[Task.dB];omega) ah
 obtain⟨q,p,k,f,o,i,m⟩:=Ng j (a0:=r.2.at_) (one:=P l n .expr) (eR:=R l n .expr) n r.1 e.1 r.2 e.2 c (λa=>yz ih .expr rfl _ (by
  have b:=a4 a;have h3:=d b.1;have h5:=(gA c a).2
  simp[Task.dB,Task.h_] at*
  omega)) (λa=>⟨n4 a,ν _,by have b:=a4 a;have h3:=d b.1;have h5:=(gA c a).2;simp[Task.h_] at*;omega⟩) aa
 exact⟨q,p,by simp[P,p4,fy,k],by simp[R,g,fy,f],o,(a4.trans i).less (by simp[Task.h_]),m⟩
def aiW(v:iO l){n}(ih:Fit l n)(s:PS)(t)(h:Rl l s t)(z:s.err=none->16*(l.length-s.at_)+7<=n+1)(hr:7<=n+1):Bo l 1 s (P l (n+1) .expr s) (R l (n+1) .expr t):=by
 obtain⟨r,D,p4,m,w,a4,n4⟩:=ih .sum s t h (λe=>by have:=z e;simp[Task.dB];omega) (by simp[Task.dB];omega) ah;obtain⟨x,s1⟩:=r;obtain⟨x',t1⟩:=D;simp only at w a4 n4
 cases w with
 |dead a a' b=>exact⟨(x,⟨a,some b⟩),(x',⟨a',some b⟩),by simp[P,p4,bn,Cg],by simp[R,m,bn],.dead a a' b,.dead 1 a b _,λh=>by cases h⟩
 |live a j=>
  obtain rfl:x=x':=n4 rfl;have o:=a4 rfl;have jg:=z o.1;simp[Task.h_] at o;have p:=iK none [60] j;have u:=iK none [61,61] j;have y:dH l ⟨a,none⟩ [60]=true\/dH l ⟨a,none⟩ [61,61]=true->∀k,Bo l 1 s (lz k x (P l n .sum) ⟨a+1,none⟩) (bn (R l n .sum ⟨a+1,none⟩) λq=>some (.mk k x.f q.2.at_ [] 0 [x,q.1],q.2)):=by intro B k;obtain⟨q,d,i,g2,g3,A,C⟩:=ih .sum ⟨a+1,none⟩ ⟨a+1,none⟩ (.live _ (B.elim (i_ v j) (i_ v j))) (λ_=>by simp[Task.dB];omega) (by simp[Task.dB];omega) ah;refine⟨(.mk k x.f q.2.at_ [] 0 [x,q.1],q.2),(.mk k x.f d.2.at_ [] 0 [x,d.1],d.2),by simp[lz,i,fy],by simp[g2,fy],g3,λe=>⟨o.1,by have:=(A e).2;simp[Task.h_] at*;omega⟩,λe=> ?_⟩;simp[C e,(gA g3 e).1]
  cases h1:dH l ⟨a,none⟩ [60] with
  |true=>
   have c:dH l ⟨a,none⟩ [61,61]=false:=by simp[dH] at h1;simp[dH,h1.2]
   obtain⟨q,d,i,g2,g⟩:=y (.inl h1) 14;exact⟨q,d,by simp[P,p4,fy,aZ,h1,bc,i],by simpa[R,m,bn,p,u,h1,c] using g2,g⟩
  |false=>
   cases c:dH l ⟨a,none⟩ [61,61] with
   |true=>obtain⟨q,d,i,g2,g⟩:=y (.inr c) 15;exact⟨q,d,by simp[P,p4,fy,aZ,h1,c,bc,i],by simpa[R,m,bn,p,u,h1,c] using g2,g⟩
   |false=>exact⟨(x,⟨a,none⟩),(x,⟨a,none⟩),by simp[P,p4,bn,aZ,h1,c],by simp[R,m,bn,p,u,h1,c],.live a j,λ_=>o,λ_=>rfl⟩
end
section
variable {l:List Tok}
def aiX(f:iO l){n}(ih:Fit l n)(s:PS)(t)(h:Rl l s t)(F:s.err=none->16*(l.length-s.at_)+3<=n+1)(hr:3<=n+1):Bo l 1 s (P l (n+1) .kind s) (R l (n+1) .kind t):=by
 cases h with
 |dead a a' b=>exact⟨(.mk 29 a a [] 0 [],⟨a,some b⟩),(dR,⟨a',some b⟩),by simp[P,Cg,jA],by simp[R],.dead a a' b,.dead 1 a b _,λh=>by cases h⟩
 |live a e=>
  have D:=F rfl;simp only at D;have g:=iK none [105,110,116] e;have j:=iK none [115,116,114] e;have u:=iK none [100,121,110] e;have w:=iK none [123] e;have y:=iK none [102,110] e
  cases p1:dH l ⟨a,none⟩ [105,110,116] with
  |true=>exact⟨(.mk 29 a (a+1) [] 0 [],⟨a+1,none⟩),(.mk 29 a (a+1) [] 0 [],⟨a+1,none⟩),by simp[P,aZ,p1,bc],by simp[R,g,p1,bn],.live _ (i_ f e p1),λ_=>⟨rfl,ν _⟩,λ_=>rfl⟩
  |false=>
  cases p2:dH l ⟨a,none⟩ [115,116,114] with
  |true=>exact⟨(.mk 30 a (a+1) [] 0 [],⟨a+1,none⟩),(.mk 30 a (a+1) [] 0 [],⟨a+1,none⟩),by simp[P,aZ,p1,p2,bc],by simp[R,g,j,p1,p2,bn],.live _ (i_ f e p2),λ_=>⟨rfl,ν _⟩,λ_=>rfl⟩
  |false=>
  cases p3:dH l ⟨a,none⟩ [100,121,110] with
  |true=>exact⟨(.mk 31 a (a+1) [] 0 [],⟨a+1,none⟩),(.mk 31 a (a+1) [] 0 [],⟨a+1,none⟩),by simp[P,aZ,p1,p2,p3,bc],by simp[R,g,j,u,p1,p2,p3,bn],.live _ (i_ f e p3),λ_=>⟨rfl,ν _⟩,λ_=>rfl⟩
  |false=>
  cases p4:dH l ⟨a,none⟩ [123] with
  |true=>have hb:=i_ f e p4;obtain⟨r,i,v,g2,p,a4,n4⟩:=EN f (Rl.live (a+1) hb) (λ_=>yz ih .field rfl (a+1) (by simp[Task.dB];omega)) [125] (n:=n) [] (λ_=>by simp only;omega) aa;obtain⟨c,o,c2⟩:=HS g2;rw[Χ] at o;exact⟨(.mk 32 a r.2.at_ [] 0 r.1,r.2),(.mk 32 a i.2.at_ [] 0 i.1,i.2),by simp[P,aZ,p1,p2,p3,p4,bc,v,bn],by simp[R,g,j,u,w,p1,p2,p3,p4,bn,o,c2],p,λd=>⟨rfl,by have:=(a4 d).2;simp only at*;omega⟩,λd=>by simp[n4 d,(gA p d).1]⟩
  |false=>
  cases p5:dH l ⟨a,none⟩ [102,110] with
  |true=>have hb:=i_ f e p5;obtain⟨t1,w1,E,a1⟩:=sL f (Rl.live (a+1) hb) [40];obtain⟨r,i,v,g2,p,a4,n4⟩:=EN f E (one:=P l n .kind) (eR:=R l n .kind) (λd=>yz ih .kind rfl _ (by have:=(a1 d).2;simp[Task.dB] at*;omega)) [41] (n:=n) [] (λd=>by have:=(a1 d).2;simp only at*;omega) aa;obtain⟨c,o,c2⟩:=HS g2;rw[Χ] at o;obtain⟨B,A,h5,a5⟩:=sL f p [58];obtain⟨q,x,C,G,z,a6,n6⟩:=ih .kind _ B h5 (λd=>by have:=a5 d;have:=a4 this.1;have:=a1 this.1;simp[Task.dB] at*;omega) (by simp[Task.dB];omega) ah;refine⟨(.mk 34 a q.2.at_ [] 0 (r.1++[q.1]),q.2),(.mk 34 a x.2.at_ [] 0 (i.1++[x.1]),x.2),by simp[P,aZ,p1,p2,p3,p4,p5,bc,v,C,bn],by simp[R,g,j,u,w,bZ,y,p1,p2,p3,p4,p5,bn] at w1 A c2⊢;simp[w1,o,c2,A,G],z,λd=>⟨rfl,by have:=a6 d;have:=a5 this.1;have:=a4 this.1;have:=a1 this.1;simp[Task.h_] at*;omega⟩,λd=> ?_⟩;simp[n6 d,n4 ((a5 ((a6 d).1)).1),(gA z d).1]
  |false=>obtain⟨m,rfl⟩:∃k,n=k+1:=⟨n-1,aa⟩;exact⟨(.mk 29 a a [] 0 [],⟨a,some a⟩),(.mk 34 a a [] 0 [dR],⟨a,some a⟩),by simp[P,aZ,p1,p2,p3,p4,p5,jA],by simp[R,g,j,u,w,y,p1,p2,p3,p4,p5,bn,bZ,jn],.dead a a a,.dead 1 a a _,λh=>by cases h⟩
def aiY(p:iO l){n}(ih:Fit l n)(s:PS)(t)(h:Rl l s t)(S:s.err=none->16*(l.length-s.at_)+3<=n+1)(hr:3<=n+1):Bo l 1 s (P l (n+1) .atom s) (R l (n+1) .atom t):=by
 cases h with
 |dead a a' b=>
  have O:cZ l ⟨a,some b⟩=(none,⟨a,some b⟩):=by simp only[cZ,jA];split<;>rfl
  have:∃nd a2,P l (n+1) .atom ⟨a,some b⟩=some (nd,⟨a2,some b⟩):=by
   simp[P,Cg,jA,bc,O];split
   ·grind
   ·split
    ·grind
    ·split
     ·grind
     ·grind
  obtain⟨nd,a2,e⟩:=this;exact⟨(nd,⟨a2,some b⟩),(dR,⟨a',some b⟩),e,by simp[R],.dead a2 a' b,.dead 1 a2 b _,λh=>by cases h⟩
 |live a v=>
  have M:=S rfl;simp only at M;obtain⟨x,j⟩:=Au v;have o:fC l ⟨a,none⟩=x:=by simp[fC,j]
  by_cases g:x.1=3
  ·exact⟨(.mk 21 a (a+1) x.2.2.2 a [],⟨a+1,none⟩),(.mk 21 a (a+1) x.2.2.2 a [],⟨a+1,none⟩),by simp[P,o,g,bc],by simp[R,j,g,bn],.live _ (p.ends a x j aa),λ_=>⟨rfl,ν _⟩,λ_=>rfl⟩
  by_cases i:x.1=4
  ·exact⟨(.mk 22 a (a+1) x.2.2.2 a [],⟨a+1,none⟩),(.mk 22 a (a+1) x.2.2.2 a [],⟨a+1,none⟩),by simp[P,o,i,bc],by simp[R,j,i,bn],.live _ (p.ends a x j aa),λ_=>⟨rfl,ν _⟩,λ_=>rfl⟩
  by_cases k1:x.1=1
  ·have Q:cZ l ⟨a,none⟩=(some (x.2.2.2,a),⟨a+1,none⟩):=by simp[cZ,o,k1,bc]
   exact⟨(.mk 23 a (a+1) x.2.2.2 a [],⟨a+1,none⟩),(.mk 23 a (a+1) x.2.2.2 a [],⟨a+1,none⟩),by simp[P,o,k1,Q,e9,hX,Nd.k,Nd.f,Nd.w,Nd.a,Nd.ks,Nd.t],by simp[R,j,k1,bn],.live _ (p.ends a x j aa),λ_=>⟨rfl,ν _⟩,λ_=>rfl⟩
  have B:=iK none [105,110,112,117,116] v;have C:=iK none [40] v;have E:=iK none [123] v;have J:=iK none [102,110] v
  cases p1:dH l ⟨a,none⟩ [105,110,112,117,116] with
  |true=>exact⟨(.mk 24 a (a+1) [] 0 [],⟨a+1,none⟩),(.mk 24 a (a+1) [] 0 [],⟨a+1,none⟩),by simp[P,o,g,i,k1,aZ,p1,bc],by simp[R,j,g,i,k1,B,p1,bn],.live _ (i_ p v p1),λ_=>⟨rfl,ν _⟩,λ_=>rfl⟩
  |false=>
  cases p2:dH l ⟨a,none⟩ [40] with
  |true=>have hb:=i_ p v p2;obtain⟨r,y,A,g2,z,a4,n4⟩:=ih .expr ⟨a+1,none⟩ ⟨a+1,none⟩ (.live _ hb) (λ_=>by simp[Task.dB];omega) (by simp[Task.dB];omega) ah;obtain⟨F,W,h5,a5⟩:=sL p z [41];refine⟨(.mk 25 a (cB l [41] r.2).at_ [] 0 [r.1],cB l [41] r.2),(.mk 25 a F.at_ [] 0 [y.1],F),by simp[P,o,g,i,k1,aZ,p1,p2,bc,A,bn],by simp[R,j,g,i,k1,B,C,p1,p2,bn,g2,W],h5,λd=>⟨rfl,by have:=a5 d;have:=a4 this.1;simp[Task.h_] at*;omega⟩,λd=>by simp[n4 (a5 d).1,(gA h5 d).1]⟩
  |false=>
  cases p3:dH l ⟨a,none⟩ [123] with
  |true=>have hb:=i_ p v p3;obtain⟨r,y,A,g2,z,a4,n4⟩:=EN p (Rl.live (a+1) hb) (λ_=>yz ih .entry rfl (a+1) (by simp[Task.dB];omega)) [125] (n:=n) [] (λ_=>by simp only;omega) aa;obtain⟨c,H,c2⟩:=HS g2;rw[Χ] at H;exact⟨(.mk 26 a r.2.at_ [] 0 r.1,r.2),(.mk 26 a y.2.at_ [] 0 y.1,y.2),by simp[P,o,g,i,k1,aZ,p1,p2,p3,bc,A,bn],by simp[R,j,g,i,k1,B,C,E,p1,p2,p3,bn,H,c2],z,λd=>⟨rfl,by have:=(a4 d).2;simp only at*;omega⟩,λd=>by simp[n4 d,(gA z d).1]⟩
  |false=>
  cases p4:dH l ⟨a,none⟩ [102,110] with
  |true=>have hb:=i_ p v p4;obtain⟨r,y,A,g2,z,a4,n4⟩:=ih .params ⟨a+1,none⟩ ⟨a+1,none⟩ (.live _ hb) (λ_=>by simp[Task.dB];omega) (by simp[Task.dB];omega) ah;obtain⟨q,K,N,T,h5,a5,L⟩:=ih .typed r.2 y.2 z (λd=>by have:=a4 d;simp[Task.dB,Task.h_] at*;omega) (by simp[Task.dB];omega) ah;obtain⟨u,D,V,U,I,a6,n6⟩:=ih .block q.2 K.2 h5 (λd=>by have:=a5 d;have:=a4 this.1;simp[Task.dB,Task.h_] at*;omega) (by simp[Task.dB];omega) ah;refine⟨(.mk 28 a u.2.at_ [] 0 [r.1,q.1,u.1],u.2),(.mk 28 a D.2.at_ [] 0 [y.1,K.1,D.1],D.2),by simp[P,o,g,i,k1,aZ,p1,p2,p3,p4,bc,A,N,V,bn],by simp[R,j,g,i,k1,B,C,E,J,p1,p2,p3,p4,bn,bZ,g2,T,U],I,λd=>⟨rfl,by have:=a6 d;have:=a5 this.1;have:=a4 this.1;simp[Task.h_] at*;omega⟩,λd=> ?_⟩;have G:=(a6 d).1;simp[n6 d,L G,n4 ((a5 G).1),(gA I d).1]
  |false=>obtain⟨m,rfl⟩:∃k,n=k+2:=⟨n-2,aa⟩;exact⟨(.mk 21 a a [] 0 [],⟨a,some a⟩),(.mk 28 a a [] 0 [.mk 4 a a [] 0 [],dR,.mk 6 a a [] 0 []],⟨a,some a⟩),by simp[P,o,g,i,k1,aZ,p1,p2,p3,p4,jA],by simp[R,j,g,i,k1,B,C,E,J,p1,p2,p3,p4,bn,bZ,xq,jn,oD],.dead a a a,.dead 1 a a _,λh=>by cases h⟩
def EW(p:iO l){s0}{n k}(ih:Fit l n){s:PS}{t}(h:Rl l s t)(u:jH k s0 s)(y:s.err=none->16*(l.length-s.at_)+7<=n)(hr:7<=n)(mp mr)(ks i:List Nd)(hm:s.err=none->∀e,hX (iN mp [e]) 0=ended mr 0 (i++[e])):
  ∃r b,P l n .expr s=some r/\(bn (R l n .expr t) λx=>bn (bZ l [59] x.2) λm=>some (ended mr m.at_ (i++[x.1]),m))=some b/\Rl l (cB l [59] r.2) b.2/\jH (k+1) s0 (cB l [59] r.2)/\((cB l [59] r.2).err=none->hX (iN mp [r.1]) (cB l [59] r.2).at_=b.1):=by
 obtain⟨r,b,o,g2,q,a4,n4⟩:=ih .expr s t h (λc=>by have:=y c;simp[Task.dB];omega) (by simp[Task.dB];omega) ah;obtain⟨j,v,h5,a5⟩:=sL p q [59];refine⟨r,(ended mr j.at_ (i++[b.1]),j),o,by simp[g2,fy,v],h5,((u.trans a4).trans a5).less (by simp only[Task.h_];omega),λc=> ?_⟩;have g:=(a5 c).1;have d:=hm ((a4 g).1) r.1;simp[n4 g,(gA h5 c).1];rw[n4 g] at d;obtain⟨k1,f1,t1,w1,c1,s1⟩:=mp;obtain⟨k2,f2,t3,w3,c3,s3⟩:=mr;simp[hX,iN,ended,Nd.k,Nd.f,Nd.w,Nd.a,Nd.ks,Nd.t,Nd.mk.injEq] at d⊢;simp[d]
def aiZ(d:iO l){n}(ih:Fit l n)(a:Nat)(o:a<l.length)(hn:16*(l.length-a)+8<=n+1):Bo l 1 ⟨a,none⟩ (P l (n+1) .stmt ⟨a,none⟩) (R l (n+1) .stmt ⟨a,none⟩):=by
 have A:=iK none [105,102] o;have D:=iK none [119,104,105,108,101] o;have H:=iK none [108,101,116] o;have M:=iK none [112,114,105,110,116] o;have O:=iK none [114,101,116,117,114,110] o;have p:∀{x y:List UInt8},x≠y->dH l ⟨a,none⟩ x=true->dH l ⟨a,none⟩ y=false:=λ{x y} a_ z=>by simp[dH] at z;simp[dH,z.2,a_]
 have rk:∀{s:PS},jH 1 ⟨a,none⟩ s->s.err=none->s.at_<l.length->16*(l.length-s.at_)+7<=n:=λ{s} h b aO=>by have:=(h b).2;simp only at this;omega
 cases p1:dH l ⟨a,none⟩ [105,102] with
 |true=>
  have J:=p (y:=[108,101,116]) aA p1;have hb:=i_ d o p1;obtain⟨r,v,F,g2,C,a4,n4⟩:=ih .expr ⟨a+1,none⟩ ⟨a+1,none⟩ (.live _ hb) (λ_=>by simp[Task.dB];omega) (by simp[Task.dB];omega) ah;obtain⟨q,B,g,i,h5,a5,I⟩:=ih .block r.2 v.2 C (λb=>by have:=(a4 b).2;have:=(gA C b).2;simp[Task.dB,Task.h_] at*;omega) (by simp[Task.dB];omega) ah;have hq:=ask h5 [101,108,115,101]
  cases pe:aZ l q.2 [101,108,115,101] with
  |true=>
   obtain⟨c,E,jU,Y⟩:=Wi d h5 pe;obtain⟨u,j,f3,f4,m,a6,n6⟩:=ih .block ⟨c+1,none⟩ ⟨c+1,none⟩ (.live _ Y) (λ_=>by have h7:=a5 (by rw[E]);have K:=(a4 h7.1).2;have L:=h7.2;rw[E] at L;simp[Task.dB,Task.h_] at K L⊢;omega) (by simp[Task.dB];omega) ah;have Q:q.2.err=none:=by rw[E]
   have G:=(a5 Q).1;have X:dH l ⟨c,none⟩ [101,108,115,101]=true:=by rw[E] at pe;exact pe
   have l7:xq l ⟨c,none⟩ [101,108,115,101]=some true:=by rw[<-jU,hq,pe]
   refine⟨(.mk 9 a u.2.at_ [] 0 [r.1,q.1,u.1],u.2),(.mk 9 a j.2.at_ [] 0 [v.1,B.1,j.1],j.2),by simp[P,Y9,p1,J,bc,F,g,bn,E,X,f3],by simp[R,A,p1,bn,g2,i,l7,jU,f4],m,λb=>⟨rfl,by have:=a6 b;have h7:=(a6 b).2;have K:=(a5 Q).2;have L:=(a4 G).2;rw[E] at K;simp[Task.h_] at h7 K L⊢;omega⟩,λb=> ?_⟩;simp[n6 b,I Q,n4 G,(gA m b).1]
  |false=>refine⟨(.mk 9 a q.2.at_ [] 0 [r.1,q.1,dR],q.2),(.mk 9 a B.2.at_ [] 0 [v.1,B.1,dR],B.2),by simp[P,Y9,p1,J,bc,F,g,bn,pe],by simp[R,A,p1,bn,g2,i,hq,pe],h5,λb=>⟨rfl,by have:=a5 b;have:=a4 this.1;simp[Task.h_] at*;omega⟩,λb=> ?_⟩;simp[I b,n4 (a5 b).1,(gA h5 b).1]
 |false=>
 cases p2:dH l ⟨a,none⟩ [119,104,105,108,101] with
 |true=>have J:=p (y:=[108,101,116]) aA p2;have hb:=i_ d o p2;obtain⟨r,v,F,g2,C,a4,n4⟩:=ih .expr ⟨a+1,none⟩ ⟨a+1,none⟩ (.live _ hb) (λ_=>by simp[Task.dB];omega) (by simp[Task.dB];omega) ah;obtain⟨q,B,g,i,h5,a5,I⟩:=ih .block r.2 v.2 C (λb=>by have:=(a4 b).2;have:=(gA C b).2;simp[Task.dB,Task.h_] at*;omega) (by simp[Task.dB];omega) ah;refine⟨(.mk 10 a q.2.at_ [] 0 [r.1,q.1],q.2),(.mk 10 a B.2.at_ [] 0 [v.1,B.1],B.2),by simp[P,aZ,p1,p2,J,bc,F,g,bn],by simp[R,A,D,p1,p2,bn,g2,i],h5,λb=>⟨rfl,by have:=a5 b;have:=a4 this.1;simp[Task.h_] at*;omega⟩,λb=> ?_⟩;simp[I b,n4 (a5 b).1,(gA h5 b).1]
 |false=>
 cases p3:dH l ⟨a,none⟩ [108,101,116] with
 |true=>
  have hb:=i_ d o p3;obtain⟨q,w1,h1,a1,n1⟩:=yh d (Rl.live (a+1) hb) (.mk 7 a 0 [] 0 []);obtain⟨r,v,F,g2,C,a4,n4⟩:=ih .typed _ q.2 h1 (λb=>by have:=(a1 b).2;have:=(gA h1 b).2;simp[Task.dB] at*;omega) (by simp[Task.dB];omega) ah;obtain⟨t2,w2,h5,a5⟩:=sL d C [61];have av:jH 2 ⟨a+1,none⟩ (cB l [61] r.2):=((a1.trans a4).trans a5).less (by simp[Task.h_])
  obtain⟨u,j,g,i,m,a6,n6⟩:=EW d ih h5 av (λb=>by have:=(av b).2;have:=(gA h5 b).2;simp only at*;omega) aa (iN (e9 (.mk 7 a 0 [] 0 []) (cZ l ⟨a+1,none⟩).1) [r.1]) q.1 [] [v.1] (λb e=>by
   have G:=(a5 b).1;rw[n1 ((a4 G).1),n4 G]
   cases(cZ l ⟨a+1,none⟩).1<;>rfl)
  exact⟨(hX (iN (iN (e9 (.mk 7 a 0 [] 0 []) (cZ l ⟨a+1,none⟩).1) [r.1]) [u.1]) (cB l [59] u.2).at_,cB l [59] u.2),j,by simp[P,aZ,p3,bc,F,g,bn],by simpa[R,A,D,H,p1,p2,p3,bn,w1,g2,w2] using i,m,λb=>⟨rfl,by have:=(a6 b).2;simp only at*;omega⟩,n6⟩
 |false=>
 cases p4:dH l ⟨a,none⟩ [112,114,105,110,116] with
 |true=>have hb:=i_ d o p4;obtain⟨u,j,g,i,m,a6,n6⟩:=EW d ih (Rl.live (a+1) hb) (jH.refl _) (λb=>by simp only;omega) aa (.mk 11 a 0 [] 0 []) (.mk 11 a 0 [] 0 []) [] [] (λb e=>rfl);exact⟨(hX (iN (.mk 11 a 0 [] 0 []) [u.1]) (cB l [59] u.2).at_,cB l [59] u.2),j,by simp[P,aZ,p1,p2,p3,p4,bc,g,bn,iN,Nd.k,Nd.f,Nd.t,Nd.w,Nd.a,Nd.ks],by simpa[R,A,D,H,M,p1,p2,p3,p4,bn] using i,m,λb=>⟨rfl,by have:=(a6 b).2;simp only at*;omega⟩,n6⟩
 |false=>
 cases p5:dH l ⟨a,none⟩ [114,101,116,117,114,110] with
 |true=>have hb:=i_ d o p5;obtain⟨u,j,g,i,m,a6,n6⟩:=EW d ih (Rl.live (a+1) hb) (jH.refl _) (λb=>by simp only;omega) aa (.mk 12 a 0 [] 0 []) (.mk 12 a 0 [] 0 []) [] [] (λb e=>rfl);exact⟨(hX (iN (.mk 12 a 0 [] 0 []) [u.1]) (cB l [59] u.2).at_,cB l [59] u.2),j,by simp[P,aZ,p1,p2,p3,p4,p5,bc,g,bn,iN,Nd.k,Nd.f,Nd.t,Nd.w,Nd.a,Nd.ks],by simpa[R,A,D,H,M,O,p1,p2,p3,p4,p5,bn] using i,m,λb=>⟨rfl,by have:=(a6 b).2;simp only at*;omega⟩,n6⟩
 |false=>
  obtain⟨x,z⟩:=Au o;have U:fC l ⟨a,none⟩=x:=by simp[fC,z]
  have S:qL l ⟨a,none⟩=false->(x.1=1->cV l (a+1) [61]=some false)->Bo l 1 ⟨a,none⟩ (P l (n+1) .stmt ⟨a,none⟩) (R l (n+1) .stmt ⟨a,none⟩):=by
   intro W xO;obtain⟨u,j,g,i,m,a6,n6⟩:=EW d ih (Rl.live a o) (jH.refl _) (λb=>by simp only;omega) aa (.mk 13 a 0 [] 0 []) (.mk 13 a 0 [] 0 []) [] [] (λb e=>rfl);have hb:(if x.1=1 then cV l (a+1) [61] else some false)=some false:=by grind
   exact⟨(hX (iN (.mk 13 a 0 [] 0 []) [u.1]) (cB l [59] u.2).at_,cB l [59] u.2),j,by simp[P,aZ,p1,p2,p3,p4,p5,W,g,bn,iN,Nd.k,Nd.f,Nd.t,Nd.w,Nd.a,Nd.ks],by simpa[R,A,D,H,M,O,p1,p2,p3,p4,p5,bn,z,hb] using i,m,λb=>⟨rfl,by have:=(a6 b).2;simp only at*;omega⟩,n6⟩
  by_cases k1:x.1=1
  ·have hb:=d.ends a x z aa;obtain⟨y,V⟩:=Au hb;have N:cV l (a+1) [61]=some ((decide (y.1=2)||decide (y.1=5))&&decide (y.2.2.2=[61])):=by simp[cV,V]
   have es:qL l ⟨a,none⟩=(decide (y.1=5)&&decide (y.2.2.2=[61])):=by simp[qL,U,k1,V]
   have key:((decide (y.1=2)||decide (y.1=5))&&decide (y.2.2.2=[61]))=(decide (y.1=5)&&decide (y.2.2.2=[61])):=by
    by_cases Z:y.1=2
    ·have:=d.keys _ y V Z;simp[this]
    ·simp[Z]
   rw[key] at N
   cases W:(decide (y.1=5)&&decide (y.2.2.2=[61])) with
   |false=>grind
   |true=>
    rw[W] at es N;have hw:cZ l ⟨a,none⟩=(some (x.2.2.2,a),⟨a+1,none⟩):=by simp[cZ,U,k1,bc]
    have mv:iu l (.mk 8 a 0 [] 0 []) ⟨a,none⟩=some (.mk 8 a 0 x.2.2.2 a [],⟨a+1,none⟩):=by simp[iu,z,bn,k1,Nd.k,Nd.f,Nd.t,Nd.ks]
    have hp:dH l ⟨a+1,none⟩ [61]=true:=by have:=iK none [61] hb;rw[N] at this;simpa using this.symm
    have Y:=i_ d hb hp;have T:cB l [61] ⟨a+1,none⟩=⟨a+1+1,none⟩:=by simp[cB,aZ,hp,bc]
    obtain⟨u,j,g,i,m,a6,n6⟩:=EW d ih (Rl.live (a+1+1) Y) (jH.refl _) (λb=>by simp only;omega) aa (.mk 8 a 0 x.2.2.2 a []) (.mk 8 a 0 x.2.2.2 a []) [] [] (λb e=>rfl);exact⟨(hX (iN (.mk 8 a 0 x.2.2.2 a []) [u.1]) (cB l [59] u.2).at_,cB l [59] u.2),j,by simp[P,aZ,p1,p2,p3,p4,p5,es,hw,T,g,bn,e9,iN,Nd.k,Nd.f,Nd.t,Nd.w,Nd.a,Nd.ks],by simpa[R,A,D,H,M,O,p1,p2,p3,p4,p5,bn,z,k1,N,mv] using i,m,λb=>⟨rfl,by have:=(a6 b).2;simp only at*;omega⟩,n6⟩
  ·exact S (by simp[qL,U,k1]) (λh=>(k1 h).elim)
def Y'(c:iO l):∀n,Fit l n
 |0=>λtask s t h e d f=>by cases task<;>simp[Task.dB] at d
 |n+1=>λtask s t h e d f=>by
  have ih:=Y' c n
  cases task with
  |kind=>exact aiX c ih s t h e d
  |field=>exact ahw c ih s t h e d
  |typed=>exact ahz c ih s t h e d
  |params=>exact agB c ih s t h e d
  |param=>exact ahy c ih s t h e d
  |block=>exact ahA c ih s t h e d
  |expr=>exact aiW c ih s t h e d
  |sum=>exact amd c ih s t h e d
  |term=>exact aiU c ih s t h e d
  |post=>exact aiV c ih s t h e d
  |atom=>exact aiY c ih s t h e d
  |entry=>exact ahx c ih s t h e d
  |stmt=>
   cases h with
   |live a g=>exact aiZ c ih a g (e rfl)
   |dead a a' b=>exact absurd (f rfl) ah
def ai0(c:iO l){a}(n:a<l.length)(e:dH l ⟨a,none⟩ [117,115,101]=true):Bo l 1 ⟨a,none⟩ (some (mR l ⟨a,none⟩)) (Bj l ⟨a,none⟩):=by
 have d:cB l [117,115,101] ⟨a,none⟩=⟨a+1,none⟩:=by simp[cB,aZ,e,bc]
 obtain⟨m,w1,g,a1,n1⟩:=yh c (Rl.live (a+1) (i_ c n e)) (.mk 23 (a+1) 0 [] 0 []);obtain⟨t2,p,k,a2⟩:=sL c g [46];obtain⟨x,o,h3,a3,q⟩:=yh c k (.mk 2 a 0 [] 0 []);obtain⟨h,j,f,a4⟩:=sL c h3 [59];refine⟨mR l ⟨a,none⟩,(ended x.1 h.at_ [hX m.1 m.2.at_],h),rfl,by simp[Bj,w1,p,o,j,fy],by simpa only[mR,d] using f,?_,λb=> ?_⟩
 ·simp[mR,d];exact λb=>⟨rfl,by have:=a4 b;have:=a3 this.1;have:=a2 this.1;have:=a1 this.1;simp only at*;omega⟩
 ·simp[mR,d] at b⊢;have i:=(a4 b).1;have b1:=(a2 ((a3 i).1)).1;rw[q i,n1 b1,Y_,(gA f b).1,(gA g b1).1]
def ai1(e:iO l){n a}(o:a<l.length)(hn:16*(l.length-a)+9<=n)(d:dH l ⟨a,none⟩ [100,101,102]=true):Bo l 1 ⟨a,none⟩ (uD l n ⟨a,none⟩) (Bk l n ⟨a,none⟩):=by
 have ih:=Y' e n;have y:cB l [100,101,102] ⟨a,none⟩=⟨a+1,none⟩:=by simp[cB,aZ,d,bc]
 have B:bZ l [100,101,102] ⟨a,none⟩=some ⟨a+1,none⟩:=by simp[bZ,iK none _ o,d,bn]
 obtain⟨m,w1,x,a1,n1⟩:=yh e (Rl.live (a+1) (i_ e o d)) (.mk 3 a 0 [] 0 []);have f:∀{s:PS},jH 1 ⟨a+1,none⟩ s->s.err=none->16*(l.length-s.at_)+9<=n:=λ{s} h b=>by have:=(h b).2;simp only at this;omega
 obtain⟨r,g,z,g2,w,a4,n4⟩:=ih .params _ m.2 x (λb=>by have:=f a1 b;simp[Task.dB];omega) (by simp[Task.dB];omega) ah;obtain⟨q,p,v,A,h5,a5,t⟩:=ih .typed r.2 g.2 w (λb=>by have:=f ((a1.trans a4).less ah) b;simp[Task.dB];omega) (by simp[Task.dB];omega) ah;obtain⟨u,c,D,C,k,a6,n6⟩:=ih .block q.2 p.2 h5 (λb=>by have:=f (((a1.trans a4).trans a5).less (by simp[Task.h_])) b;simp[Task.dB];omega) (by simp[Task.dB];omega) ah;refine⟨(hX (iN (e9 (.mk 3 a 0 [] 0 []) (cZ l ⟨a+1,none⟩).1) [r.1,q.1,u.1]) u.2.at_,u.2),(ended m.1 c.2.at_ [g.1,p.1,c.1],c.2),by simp[uD,y,z,v,D,fy],by simp[Bk,B,w1,g2,A,C,fy],k,λb=>⟨rfl,by have:=a6 b;have:=a5 this.1;have:=a4 this.1;have:=a1 this.1;simp[Task.h_] at*;omega⟩,λb=> ?_⟩;have i:=(a6 b).1;have j:=(a5 i).1;simp[IJ,n1 ((a4 j).1),n6 b,t i,n4 j,(gA k b).1]
def VI(j:iO l):∀n a ks,a<l.length->17*(l.length-a)+10<=n->GL l 0 ⟨a,none⟩ (mL l n ks ⟨a,none⟩) (rN l n ks ⟨a,none⟩)
 |0,a,ks,d,D=>by omega
 |n+1,a,ks,d,D=>by
  obtain⟨x,g⟩:=Au d;have i:fC l ⟨a,none⟩=x:=by simp[fC,g]
  by_cases e:x.1=0
  ·exact⟨(ks,⟨a,none⟩),(ks,⟨a,none⟩),by simp[mL,i,e],by simp[rN,g,e,bn],.live a d,.refl _,λ_=>rfl⟩
  have o:=iK none [117,115,101] d
  have z:∀{p:PR} {q:RR},Bo l 1 ⟨a,none⟩ p q->GL l 0 ⟨a,none⟩ (bn p λr=>mL l n (ks++[r.1]) r.2) (bn q λr=>rN l n (ks++[r.1]) r.2):=by
   intro p q hb;obtain⟨r,A,rfl,rfl,t,h3,v⟩:=hb;obtain⟨nd,s1⟩:=r;obtain⟨s,t1⟩:=A;simp[fy];simp only at t h3 v
   cases t with
   |live b hb=>have:=h3 rfl;simp only at this;obtain rfl:nd=s:=v rfl;obtain⟨q,I,B,E,H,F,C⟩:=VI j n b (ks++[nd]) hb aa;exact⟨q,I,B,E,H,λG=>⟨rfl,by have:=(F G).2;simp only at*;omega⟩,C⟩
   |dead b u c=>obtain⟨m,rfl⟩:∃k,n=k+1:=⟨n-1,aa⟩;exact⟨(ks++[nd],⟨b,some c⟩),(ks++[s],⟨u,some c⟩),by simp[mL],by simp[rN],.dead b u c,.dead 0 b c _,λh=>by cases h⟩
  cases p1:dH l ⟨a,none⟩ [117,115,101] with
  |true=>have:=z (ai0 j d p1);simpa[mL,rN,i,g,e,p1,o,bn] using this
  |false=>
  have y:=iK none [100,101,102] d
  cases p2:dH l ⟨a,none⟩ [100,101,102] with
  |true=>have:=z (ai1 j (n:=n) d aa p2);simpa[mL,rN,i,g,e,p1,p2,o,y,bn] using this
  |false=>obtain⟨m,rfl⟩:∃k,n=k+3:=⟨n-3,aa⟩;exact⟨(ks,⟨a,some a⟩),(ks++[.mk 3 a a [] 0 [.mk 4 a a [] 0 [],dR,.mk 6 a a [] 0 []]],⟨a,some a⟩),by simp[mL,i,e,p1,p2,jA],by simp[rN,g,e,p1,o,bn,Bk,bZ,y,p2,iu,R,jn,xq,oD,ended,Nd.k,Nd.f,Nd.w,Nd.a],.dead a a a,.dead 0 a a _,λh=>by cases h⟩
def HT(f:iO l)(h:l≠[]){n}(hn:17*l.length+10<=n):Bo l 0 ⟨0,none⟩ (xe l n) (Db l n):=by have a:0<l.length:=aE3.2 h;obtain⟨r,b,e,i,d,h3,g⟩:=VI f n 0 [] a aa;exact⟨(.mk 1 0 r.2.at_ [] 0 r.1,r.2),(.mk 1 0 b.2.at_ [] 0 b.1,b.2),by simp[xe,e,fy],by simp[Db,i,fy],d,h3,λc=>by simp[g c,(gA d c).1]⟩
end
def ame{r:List UInt8}{n}(h:one r=.ok (2,n)):isKey (r.take n)=true:=by
 cases r with
 |nil=>simp[one] at h
 |cons c t=>
  simp[one] at h;split at h
  ·split at h
   ·rename_i a;simp at h;obtain⟨_,rfl⟩:=h;have:(c::t).take ((c::t).takeWhile bp).length=(c::t).takeWhile bp:=by have:=aFP (l:=c::t) bp;exact(List.prefix_iff_eq_take.1 this).symm
    rw[this];exact a
   ·grind
  ·grind
def arW{w}(h:isKey w=true):w≠[61]:=by rintro rfl;revert h;decide
structure Body(s:List UInt8)(i:Nat)(out:List Tok):Prop where
 kind:∀t∈out,t.1≠0
 key:∀t∈out,t.1=2->t.2.2.2≠[61]
 Dw:out.Pairwise λa b=>a.2.1<b.2.1
 low:∀t∈out,t.2.1<i
 len:out.length<=4000
structure qP(l:List Tok):Prop where
 ex:∃out e,l=out++[e]/\e.1=0/\(∀t∈out,t.1≠0)/\(∀t∈out,t.1=2->t.2.2.2≠[61])
 Dw:l.Pairwise λa b=>a.2.1<b.2.1
 len:l.length<=4000
def Wl(s:List UInt8):∀f i out l,i<=s.length->tv s f i out=.ok l->Body s i out->qP l
 |0,i,out,l,hi,h,hb=>by cases h
 |f+1,i,out,l,hi,h,hb=>by
  rw[tv] at h;have w:=Ob (s.drop i);rw[adv] at w;generalize ha:s.length-(lead (s.drop i)).length=a at h;split at h
  ·cases h
  ·rename_i k n r;have v:=Az r;split at h
   ·cases h
   ·rename_i h4;generalize m:((k,a,(s.drop i).take ((s.drop i).length-(lead (s.drop i)).length),(lead (s.drop i)).take n):Tok)=tk at h;have q:tk.1=k:=by rw[<-m]
    have zN:tk.2.1=a:=by rw[<-m]
    have o:tk.2.2.2=(lead (s.drop i)).take n:=by rw[<-m]
    have p:(out++[tk]).Pairwise λa b=>a.2.1<b.2.1:=by rw[List.pairwise_append];refine⟨hb.Dw,ah,λx z y u=> ?_⟩;rw[aE8] at u;subst u;have:=hb.low x z;omega
    split at h
    ·rename_i j;simp at h;subst h;exact⟨⟨out,tk,rfl,by rw[q,j],hb.kind,hb.key⟩,p,aP⟩
    ·rename_i j;have a_:lead (s.drop i)≠[]:=λe=>j (v.2.1.2 e);refine Wl s f (a+n) (out++[tk]) l aa h ⟨λt d=> ?_,λt d g=> ?_,p,λt d=> ?_,aP⟩
     ·rcases aEo.1 d with c|c
      ·exact hb.kind t c
      ·grind
     ·rcases aEo.1 d with c|c
      ·exact hb.key t c g
      ·rw[aE8] at c;subst c;rw[q] at g;subst g;rw[o];exact arW (ame r)
     ·rcases aEo.1 d with c|c
      ·have:=hb.low t c;omega
      ·grind
def Ii{s}{l}(h:lex s=.ok l):qP l:=by
 rw[lex] at h;split at h
 ·cases h
 ·split at h
  ·cases h
  ·exact Wl s _ 0 [] l (aFc _) h ⟨λt a=>absurd a ah,λt a=>absurd a ah,List.Pairwise.nil,λt a=>absurd a ah,ah⟩
def qP.ne{l}(h:qP l):l≠[]:=by obtain⟨out,e,rfl,_⟩:=h.ex;simp
def qP.ok{l}(h:qP l):iO l:=by
 obtain⟨out,e,rfl,h0,h1,h2⟩:=h.ex;refine⟨λi t b a=> ?_,λi t b a=> ?_⟩
 ·grind
 ·grind
def qP.last{l:List Tok}(h:qP l):∃t,l[l.length-1]? =some t/\t.1=0:=by obtain⟨out,e,rfl,a,_⟩:=h.ex;exact⟨e,ah,a⟩
mutual
def db:Nd->Nat
 | .mk _ _ _ _ _ ks=>eS ks+1
def eS:List Nd->Nat
 |[]=>0
 |n::r=>max (db n) (eS r)
end
def XA:∀a b:List Nd,eS (a++b)=max (eS a) (eS b)
 |[],b=>by simp[eS]
 |x::a,b=>by simp[eS,XA a b,Nat.max_assoc]
def s9(k f t)(w)(a)(ks):db (.mk k f t w a ks)=eS ks+1:=by simp[db]
def ai2(a):eS [a]=db a:=by simp[eS]
section
variable {l:List Tok}
def bd:Nat->Nat
 |0=>1
 |n+1=>bd n+n+2
end
mutual
def mx:Nd->Nat
 | .mk _ _ _ _ _ ks=>max (fl ks) ks.length+1
def fl:List Nd->Nat
 |[]=>0
 |n::r=>max (mx n) (fl r)
end
def AA:∀a b:List Nd,fl (a++b)=max (fl a) (fl b)
 |[],b=>by simp[fl]
 |x::a,b=>by simp[fl,AA a b,Nat.max_assoc]
def sP(n)(t):mx (hX n t)=mx n:=by cases n;rfl
def wO(n)(o):mx (e9 n o)=mx n:=by cases n;cases o<;>rfl
def AB(n)(ks:List Nd):mx (iN n ks)<=max (mx n) (fl ks+1)+ks.length:=by cases n;simp[iN,Nd.ks,mx,AA];omega
def ew(k f t)(w)(a)(ks:List Nd):mx (.mk k f t w a ks)=max (fl ks) ks.length+1:=by simp[mx]
def nJ(a):fl [a]=mx a:=by simp[fl]
def Za(a b):fl [a,b]=max (mx a) (mx b):=by simp[fl]
def HU(a b c):fl [a,b,c]=max (mx a) (max (mx b) (mx c)):=by simp[fl]
def lp:fl []=0:=by simp[fl]
def aa3:mx dR=1:=by simp[dR,mx,fl]
mutual
def arX(n):db n<=mx n:=by
 match n with
 | .mk k f t w a ks=>have:=Ij ks;rw[s9,ew];omega
def Ij(l):eS l<=fl l:=by
 match l with
 |[]=>simp[eS]
 |n::r=>have:=arX n;have:=Ij r;simp[eS,fl];omega
end
def qC:∀{l:List Nd} {n:Nd},n∈l->mx n<=fl l
 |x::r,n,h=>by
  simp[fl];rcases Υ.1 h with rfl|h
  ·omega
  ·have:=qC h;omega
def sN:∀{l:List Nd} {n:Nd},n∈l->db n<=eS l
 |x::r,n,h=>by
  simp[eS];rcases Υ.1 h with rfl|h
  ·omega
  ·have:=sN h;omega
section
variable (l:List Tok)
def Vc{one}:∀{n:Nat} {ks:List Nd} {s:PS} {r:List Nd×PS},nN l one n ks s=some r->r.1.length<=ks.length+n
 |0,ks,s,r,h=>by cases h
 |n+1,ks,s,r,h=>by
  rw[nN] at h;split at h
  ·split at h
   ·cases h;simp
   ·obtain⟨x,hx,h⟩:=al h;have:=Vc h;simp[aE6] at this;omega
  ·cases h;simp
def HD:∀{n:Nat} {ks:List Nd} {s:PS} {r:List Nd×PS},mL l n ks s=some r->r.1.length<=ks.length+n
 |0,ks,s,r,h=>by cases h
 |n+1,ks,s,r,h=>by
  rw[mL] at h;simp only at h;split at h
  ·split at h
   ·have:=HD h;simp[aE6] at this;omega
   ·split at h
    ·obtain⟨x,hx,h⟩:=al h;have:=HD h;simp[aE6] at this;omega
    ·have:=HD h;omega
  ·cases h;simp
end
section
variable {l:List Tok}
def Mw(B:Nat)(one:PS->PR):Prop:=∀s r,one s=some r->mx r.1<=B
def Zb{B}{one:PS->PR}(b:Mw B one){e}:∀{n:Nat} {ks:List Nd} {s:PS} {r:List Nd×PS},mN l one e n ks s=some r->fl ks<=B->fl r.1<=B
 |0,ks,s,r,h,_=>by cases h
 |n+1,ks,s,r,h,c=>by
  rw[mN] at h;split at h
  ·obtain⟨x,d,h⟩:=al h;have h1:=b _ _ d;have a:fl (ks++[x.1])<=B:=by simp[AA,nJ];omega
   split at h
   ·cases h;exact a
   ·exact Zb b h a
  ·cases h;exact c
def E0{B}{one:PS->PR}(b:Mw B one){e}{n}{ks}{s}{r}(h:lR l one e n ks s=some r)(a:fl ks<=B):fl r.1<=B:=by
 rw[lR] at h;split at h
 ·cases h;exact a
 ·exact Zb b h a
def XB{B}{one:PS->PR}(b:Mw B one):∀{n:Nat} {ks:List Nd} {s:PS} {r:List Nd×PS},nN l one n ks s=some r->fl ks<=B->fl r.1<=B
 |0,ks,s,r,h,_=>by cases h
 |n+1,ks,s,r,h,a=>by
  rw[nN] at h;split at h
  ·split at h
   ·cases h;exact a
   ·obtain⟨x,c,h⟩:=al h;have h1:=b _ _ c;exact XB b h (by simp[AA,nJ];omega)
  ·cases h;exact a
def E1{B C}{one:PS->PR}(c:Mw B one)(h5:5<=B){k}{a}{s}{r}(h:lz k a one s=some r)(ha:mx a<=C)(hB:B<=C):mx r.1<=C+1:=by obtain⟨x,b,h⟩:=al h;cases h;have:=c _ _ b;simp[ew,Za];omega
def OZ{B}{one:PS->PR}(b:Mw B one)(h5:5<=B):∀{n:Nat} {a:Nd} {s:PS} {r:Nd×PS} {C:Nat},kS l one n a s=some r->mx a<=C->B<=C->mx r.1<=C+n
 |0,a,s,r,C,h,_,_=>by cases h
 |n+1,a,s,r,C,h,d,e=>by
  rw[kS] at h;split at h
  ·split at h
   ·obtain⟨x,c,h⟩:=al h;have:=OZ b h5 h (E1 b h5 c d e) aa;omega
   ·split at h
    ·obtain⟨x,c,h⟩:=al h;have:=OZ b h5 h (E1 b h5 c d e) aa;omega
    ·grind
  ·grind
def XC{B}{one:PS->PR}(b:Mw B one)(h5:5<=B):∀{n:Nat} {a:Nd} {s:PS} {r:Nd×PS} {C:Nat},qH l one n a s=some r->mx a<=C->B<=C->mx r.1<=C+n
 |0,a,s,r,C,h,_,_=>by cases h
 |n+1,a,s,r,C,h,c,d=>by
  rw[qH] at h;split at h
  ·obtain⟨x,e,h⟩:=al h;have:=XC b h5 h (E1 b h5 e c d) aa;omega
  ·grind
def Od{B}{one:PS->PR}(b:Mw B one)(h5:5<=B):∀{n:Nat} {a:Nd} {s:PS} {r:Nd×PS} {C:Nat},n+1<=C->mK l one n a s=some r->mx a<=C->B<=C->mx r.1<=C+n
 |0,a,s,r,C,_,h,_,_=>by cases h
 |n+1,a,s,r,C,hnC,h,d,f=>by
  rw[mK] at h;split at h
  ·split at h
   ·have:=Od b h5 (C:=C+1) aa h (by simp[sP,wO,ew,nJ];omega) aa;omega
   ·split at h
    ·obtain⟨x,c,h⟩:=al h;have g:=B5 l c;simp at g;have h1:=E0 (B:=C) (λs r e=>atB (b s r e) f) c (by rw[nJ];exact d);have:=Od b h5 (C:=C+1) aa h (by simp[ew];omega) aa;omega
    ·grind
  ·grind
def bm:Nat->Nat
 |0=>5
 |n+1=>bm n+n+9
def axe(n):bm n<=(n+9)*(n+9):=by
 induction n with
 |zero=>decide
 |succ n ih=>
  simp[bm];have:(n+1+9)*(n+1+9)=(n+9)*(n+9)+(2*n+19):=by grind
  omega
def amf(n):bm n<=bm (n+1):=by simp[bm];omega
def acE(n):n+5<=bm n:=by
 induction n with
 |zero=>decide
 |succ n ih=>simp[bm];omega
def aa4(n):5<=bm n:=by
 induction n with
 |zero=>decide
 |succ n ih=>simp only[bm];omega
def Jm:∀n task,Mw (bm n) (P l n task)
 |0,task=>λs r h=>by cases task<;>cases h
 |n+1,task=>λs r h=>by
  have ih:=λt=>Jm n t;have hb:bm (n+1)=bm n+n+9:=rfl;have f:=aa4 n
  cases task with
  |kind=>
   rw[P] at h;simp only at h;split at h
   ·cases h;simp[ew,lp];omega
   split at h
   ·cases h;simp[ew,lp];omega
   split at h
   ·cases h;simp[ew,lp];omega
   split at h
   ·obtain⟨x,a,h⟩:=al h;cases h;have e:=B5 l a;simp at e;have:=E0 (ih .field) a (by rw[lp];omega);simp[ew];omega
   split at h
   ·obtain⟨x,a,h⟩:=al h;obtain⟨y,d,h⟩:=al h;cases h;have e:=B5 l a;simp at e;have b:=E0 (ih .kind) a (by rw[lp];omega);have c:=ih .kind _ _ d;simp[ew,AA,nJ];omega
   ·cases h;simp[ew,lp];omega
  |field=>rw[P] at h;obtain⟨x,a,h⟩:=al h;cases h;have b:=ih .kind _ _ a;have c:=AB (e9 (.mk 33 s.at_ 0 [] 0 []) (cZ l s).1) [x.1];simp[wO,ew,lp,nJ] at c;simp[sP];omega
  |entry=>rw[P] at h;obtain⟨x,a,h⟩:=al h;cases h;have b:=ih .expr _ _ a;have c:=AB (e9 (.mk 27 s.at_ 0 [] 0 []) (cZ l s).1) [x.1];simp[wO,ew,lp,nJ] at c;simp[sP];omega
  |param=>rw[P] at h;obtain⟨x,a,h⟩:=al h;cases h;have b:=ih .typed _ _ a;have c:=AB (e9 (.mk 5 s.at_ 0 [] 0 []) (cZ l s).1) [x.1];simp[wO,ew,lp,nJ] at c;simp[sP];omega
  |typed=>
   rw[P] at h;split at h
   ·have:=ih .kind _ _ h;omega
   ·cases h;simp[aa3];omega
  |params=>rw[P] at h;obtain⟨x,a,h⟩:=al h;cases h;have e:=B5 l a;simp at e;have:=E0 (ih .param) a (by rw[lp];omega);simp[ew];omega
  |block=>rw[P] at h;obtain⟨x,a,h⟩:=al h;cases h;have e:=Vc l a;simp at e;have:=XB (ih .stmt) a (by rw[lp];omega);simp[ew];omega
  |expr=>
   rw[P] at h;obtain⟨x,a,h⟩:=al h;have b:=ih .sum _ _ a;split at h
   ·have:=E1 (C:=bm n) (ih .sum) f h b (ν _);omega
   split at h
   ·have:=E1 (C:=bm n) (ih .sum) f h b (ν _);omega
   ·cases h;omega
  |sum=>rw[P] at h;obtain⟨x,a,h⟩:=al h;have:=OZ (ih .term) f h (ih .term _ _ a) (ν _);omega
  |term=>rw[P] at h;obtain⟨x,a,h⟩:=al h;have:=XC (ih .post) f h (ih .post _ _ a) (ν _);omega
  |post=>rw[P] at h;obtain⟨x,a,h⟩:=al h;have:=Od (ih .expr) f (by have:=acE n;omega) h (ih .atom _ _ a) (ν _);omega
  |atom=>
   rw[P] at h;simp only at h;split at h
   ·cases h;simp[ew,lp];omega
   split at h
   ·cases h;simp[ew,lp];omega
   split at h
   ·cases h;simp[sP,wO,ew,lp];omega
   split at h
   ·cases h;simp[ew,lp];omega
   split at h
   ·obtain⟨x,a,h⟩:=al h;cases h;have:=ih .expr _ _ a;simp[ew,nJ];omega
   split at h
   ·obtain⟨x,a,h⟩:=al h;cases h;have e:=B5 l a;simp at e;have:=E0 (ih .entry) a (by rw[lp];omega);simp[ew];omega
   split at h
   ·obtain⟨x,a,h⟩:=al h;obtain⟨y,d,h⟩:=al h;obtain⟨z,g,h⟩:=al h;cases h;have b:=ih .params _ _ a;have c:=ih .typed _ _ d;have h3:=ih .block _ _ g;simp[ew,HU];omega
   ·cases h;simp[ew,lp];omega
  |stmt=>
   rw[P] at h;simp only at h;split at h
   ·obtain⟨x,a,h⟩:=al h;obtain⟨y,d,h⟩:=al h;cases h;have b:=ih .typed _ _ a;have c:=ih .expr _ _ d;have h3:=AB (e9 (.mk 7 s.at_ 0 [] 0 []) (cZ l (bc s)).1) [x.1];simp[wO,ew,lp,nJ] at h3;have i:=AB (iN (e9 (.mk 7 s.at_ 0 [] 0 []) (cZ l (bc s)).1) [x.1]) [y.1];simp[nJ] at i;simp[sP];omega
   split at h
   ·obtain⟨x,a,h⟩:=al h;obtain⟨y,d,h⟩:=al h;have b:=ih .expr _ _ a;have c:=ih .block _ _ d;split at h
    ·obtain⟨z,g,h⟩:=al h;cases h;have h3:=ih .block _ _ g;simp[ew,HU];omega
    ·cases h;simp[ew,HU,aa3];omega
   split at h
   ·obtain⟨x,a,h⟩:=al h;obtain⟨y,d,h⟩:=al h;cases h;have b:=ih .expr _ _ a;have c:=ih .block _ _ d;simp[ew,Za];omega
   split at h
   ·obtain⟨x,a,h⟩:=al h;cases h;have b:=ih .expr _ _ a;simp[sP,ew,nJ];omega
   split at h
   ·obtain⟨x,a,h⟩:=al h;cases h;have b:=ih .expr _ _ a;simp[sP,ew,nJ];omega
   split at h
   ·obtain⟨x,a,h⟩:=al h;cases h;have b:=ih .expr _ _ a;have h3:=AB (e9 (.mk 8 s.at_ 0 [] 0 []) (cZ l s).1) [x.1];simp[wO,ew,lp,nJ] at h3;simp[sP];omega
   ·obtain⟨x,a,h⟩:=al h;cases h;have b:=ih .expr _ _ a;simp[sP,ew,nJ];omega
def arY{n}{s}{r:Nd×PS}(h:uD l n s=some r):mx r.1<=bm n+5:=by simp[uD] at h;obtain⟨x,d,h⟩:=al h;obtain⟨y,a,h⟩:=al h;obtain⟨z,c,h⟩:=al h;cases h;have h1:=Jm n .params _ _ d;have h2:=Jm n .typed _ _ a;have h3:=Jm n .block _ _ c;have b:=AB (e9 (.mk 3 s.at_ 0 [] 0 []) (cZ l (cB l [100,101,102] s)).1) [x.1,y.1,z.1];simp[wO,ew,lp,HU] at b;simp[sP];omega
def Ik:∀{n:Nat} {ks:List Nd} {s:PS} {r:List Nd×PS},mL l n ks s=some r->∀B,bm n+5<=B->fl ks<=B->fl r.1<=B
 |0,ks,s,r,h,B,_,_=>by cases h
 |n+1,ks,s,r,h,B,hB,a=>by
  have hm:=amf n;rw[mL] at h;simp only at h;split at h
  ·split at h
   ·refine Ik h B aa ?_;simp[AA,nJ];have:mx (mR l s).1<=2:=by simp only[mR,sP,wO,ew,nJ,lp,Χ,Γ];omega
    have:=aa4 n;omega
   ·split at h
    ·obtain⟨x,b,h⟩:=al h;refine Ik h B aa ?_;have:=arY b;simp[AA,nJ];omega
    ·exact Ik h B aa a
  ·cases h;exact a
def amg{n}{r}(h:xe l n=some r):mx r.1<=bm n+9:=by simp[xe] at h;obtain⟨x,a,h⟩:=al h;cases h;have b:=HD l a;simp at b;have:=Ik a (bm n+5) (ν _) (by rw[lp];omega);have:=acE n;simp[ew];omega
end
section
variable (l:List Tok)
def Sb(s:RS):Prop:=∀b,s.bad=some b->b<l.length
def Bd(one:RS->RR):Prop:=∀s r,one s=some r->Sb l s->Sb l r.2
end
section
variable {l:List Tok}
def mG(a):Sb l ⟨a,none⟩:=λb h=>by cases h
def A5{s:RS}{a}(h:Sb l s):Sb l ⟨a,s.bad⟩:=h
def amh{a}{x}{b}(h:cV l a x=some b):a<l.length:=by
 unfold cV at h
 cases hx:l[a]? with
 |none=>rw[hx] at h;cases h
 |some t=>exact(φ.1 hx).1
def lN{x}{s a}(h:bZ l x s=some a)(c:Sb l s):Sb l a:=by
 unfold bZ at h;split at h
 ·obtain⟨b,hb,h⟩:=al h;cases h
  cases b with
  |true=>exact mG _
  |false=>intro b h;simp at h;have:=amh hb;omega
 ·cases h;exact c
def wP{n}{s}{r}(h:iu l n s=some r)(a:Sb l s):Sb l r.2:=by
 unfold iu at h;split at h
 ·obtain⟨t,c,h⟩:=al h;cases h;split
  ·exact mG _
  ·intro b h;simp at h;have:=(φ.1 c).1;omega
 ·cases h;exact a
def CA{one:RS->RR}(d:Bd l one){e}{first}:∀{n:Nat} {ks:List Nd} {s:RS} {r:List Nd×RS},jn l one e first n ks s=some r->Sb l s->Sb l r.2
 |0,ks,s,r,h,a=>by cases h
 |n+1,ks,s,r,h,a=>by
  rw[jn] at h;split at h
  ·obtain⟨b,hb,h⟩:=al h
   cases b with
   |true=>grind
   |false=>
    simp at h;obtain⟨x,i,h⟩:=al h;obtain⟨c,hc,h⟩:=al h;have g:=d _ _ i a
    cases c with
    |true=>grind
    |false=>simp at h;obtain⟨s2,f,h⟩:=al h;exact CA d h (lN f g)
  ·cases h;exact a
def XD{one:RS->RR}(c:Bd l one):∀{n:Nat} {ks:List Nd} {s:RS} {r:List Nd×RS},oD l one n ks s=some r->Sb l s->Sb l r.2
 |0,ks,s,r,h,a=>by cases h
 |n+1,ks,s,r,h,a=>by
  rw[oD] at h;split at h
  ·obtain⟨b,hb,h⟩:=al h
   cases b with
   |true=>grind
   |false=>simp at h;obtain⟨x,d,h⟩:=al h;exact XD c h (c _ _ d a)
  ·cases h;exact a
def Zc{one:RS->RR}(c:Bd l one):∀{n:Nat} {a:Nd} {s:RS} {r:Nd×RS},o6 l one n a s=some r->Sb l s->Sb l r.2
 |0,a,s,r,h,b=>by cases h
 |n+1,a,s,r,h,b=>by
  rw[o6] at h;split at h
  ·obtain⟨p,hp,h⟩:=al h;obtain⟨q,hq,h⟩:=al h
   cases q with
   |true=>simp at h;obtain⟨x,d,h⟩:=al h;exact Zc c h (c _ _ d (mG _))
   |false=>grind
  ·cases h;exact b
def XE{one:RS->RR}(c:Bd l one):∀{n:Nat} {a:Nd} {s:RS} {r:Nd×RS},s8 l one n a s=some r->Sb l s->Sb l r.2
 |0,a,s,r,h,b=>by cases h
 |n+1,a,s,r,h,b=>by
  rw[s8] at h;split at h
  ·obtain⟨q,hq,h⟩:=al h
   cases q with
   |true=>simp at h;obtain⟨x,d,h⟩:=al h;exact XE c h (c _ _ d (mG _))
   |false=>grind
  ·cases h;exact b
def Oe{one:RS->RR}(b:Bd l one):∀{n:Nat} {a:Nd} {s:RS} {r:Nd×RS},oX l one n a s=some r->Sb l s->Sb l r.2
 |0,a,s,r,h,d=>by cases h
 |n+1,a,s,r,h,d=>by
  rw[oX] at h;split at h
  ·obtain⟨p,hp,h⟩:=al h
   cases p with
   |true=>simp at h;obtain⟨x,c,h⟩:=al h;exact Oe b h (wP c (mG _))
   |false=>
    simp at h;obtain⟨q,hq,h⟩:=al h
    cases q with
    |true=>simp at h;obtain⟨x,c,h⟩:=al h;obtain⟨s2,e,h⟩:=al h;exact Oe b h (lN e (CA b c (mG _)))
    |false=>grind
  ·cases h;exact d
def Fm{n:Nat}(ih:∀t,Bd l (R l n t)){m}{ks}{b}{r}(h:(bn (R l n .expr b) λx=>bn (bZ l [59] x.2) λa=>some (ended m a.at_ (ks++[x.1]),a))=some r)(d:Sb l b):Sb l r.2:=by obtain⟨x,e,h⟩:=al h;obtain⟨a,c,h⟩:=al h;cases h;exact lN c (ih .expr _ _ e d)
def Jn:∀n task,Bd l (R l n task)
 |0,task=>λs r h=>by cases task<;>cases h
 |n+1,task=>λs r h d=>by
  have ih:=λt=>Jn n t
  cases task with
  |kind=>
   simp only[R] at h;split at h
   ·obtain⟨b,hb,h⟩:=al h
    cases b with
    |true=>simp only[aEl,Ζ] at h;subst h;exact mG _
    |false=>
    simp only[υ,ap1] at h;obtain⟨b,hb,h⟩:=al h
    cases b with
    |true=>simp only[aEl,Ζ] at h;subst h;exact mG _
    |false=>
    simp only[υ,ap1] at h;obtain⟨b,hb,h⟩:=al h
    cases b with
    |true=>simp only[aEl,Ζ] at h;subst h;exact mG _
    |false=>
    simp only[υ,ap1] at h;obtain⟨b,hb,h⟩:=al h
    cases b with
    |true=>simp only[aEl] at h;obtain⟨x,a,h⟩:=al h;obtain⟨v,j,h⟩:=al h;cases h;exact lN j (CA (ih .field) a (mG _))
    |false=>simp only[υ,ap1] at h;obtain⟨u,g,h⟩:=al h;obtain⟨v,j,h⟩:=al h;obtain⟨x,a,h⟩:=al h;obtain⟨s3,H,h⟩:=al h;obtain⟨s4,D,h⟩:=al h;obtain⟨y,m,h⟩:=al h;cases h;have f:=ih .kind _ _ m (lN D (lN H (CA (ih .kind) a (lN j (lN g d)))));exact f
   ·cases h;exact d
  |field=>simp only[R] at h;obtain⟨x,a,h⟩:=al h;obtain⟨u,g,h⟩:=al h;obtain⟨y,m,h⟩:=al h;cases h;have f:=ih .kind _ _ m (lN g (wP a d));exact f
  |typed=>
   simp only[R] at h;obtain⟨b,hb,h⟩:=al h
   cases b with
   |true=>simp only[aEl] at h;exact ih .kind _ _ h (mG _)
   |false=>grind
  |params=>simp only[R] at h;obtain⟨u,g,h⟩:=al h;obtain⟨x,a,h⟩:=al h;obtain⟨v,j,h⟩:=al h;cases h;exact lN j (CA (ih .param) a (lN g d))
  |param=>simp only[R] at h;obtain⟨x,a,h⟩:=al h;obtain⟨y,m,h⟩:=al h;cases h;have f:=ih .typed _ _ m (wP a d);exact f
  |block=>simp only[R] at h;obtain⟨u,g,h⟩:=al h;obtain⟨x,a,h⟩:=al h;obtain⟨v,j,h⟩:=al h;cases h;exact lN j (XD (ih .stmt) a (lN g d))
  |stmt=>
   simp only[R] at h;obtain⟨i,hi,h⟩:=al h;obtain⟨w,hw,h⟩:=al h
   cases w with
   |true=>
    simp only[aEl] at h;obtain⟨c,I,h⟩:=al h;obtain⟨b,hb,h⟩:=al h;have A:=ih .block _ _ hb (ih .expr _ _ I (A5 d))
    cases i with
    |true=>
     simp only[aEl] at h;obtain⟨e,G,h⟩:=al h
     cases e with
     |true=>simp only[aEl] at h;obtain⟨o,E,h⟩:=al h;cases h;have f:=ih .block _ _ E (A5 A);exact f
     |false=>grind
    |false=>grind
   |false=>
    simp only[υ,ap1] at h;obtain⟨e,G,h⟩:=al h
    cases e with
    |true=>simp only[aEl] at h;obtain⟨x,a,h⟩:=al h;obtain⟨t,B,h⟩:=al h;obtain⟨u,g,h⟩:=al h;exact Fm ih h (lN g (ih .typed _ _ B (wP a (A5 d))))
    |false=>
     simp only[υ,ap1] at h;obtain⟨p,C,h⟩:=al h
     cases p with
     |true=>simp only[aEl] at h;exact Fm ih h (A5 d)
     |false=>
      simp only[υ,ap1] at h;obtain⟨q,F,h⟩:=al h
      cases q with
      |true=>simp only[aEl] at h;exact Fm ih h (A5 d)
      |false=>
       simp only[υ,ap1] at h;obtain⟨t,B,h⟩:=al h;obtain⟨b,hb,h⟩:=al h
       cases b with
       |true=>simp only[aEl] at h;obtain⟨x,a,h⟩:=al h;exact Fm ih h (A5 (wP a d))
       |false=>simp only[υ,ap1] at h;exact Fm ih h d
  |expr=>
   simp only[R] at h;obtain⟨x,a,h⟩:=al h;have A:=ih .sum _ _ a d;split at h
   ·obtain⟨p,C,h⟩:=al h;obtain⟨q,F,h⟩:=al h
    cases q with
    |true=>simp only[aEl] at h;obtain⟨k,hk,h⟩:=al h;obtain⟨y,m,h⟩:=al h;cases h;have f:=ih .sum _ _ m (mG _);exact f
    |false=>grind
   ·cases h;exact A
  |sum=>simp only[R] at h;obtain⟨x,a,h⟩:=al h;exact Zc (ih .term) h (ih .term _ _ a d)
  |term=>simp only[R] at h;obtain⟨x,a,h⟩:=al h;exact XE (ih .post) h (ih .post _ _ a d)
  |post=>simp only[R] at h;obtain⟨x,a,h⟩:=al h;exact Oe (ih .expr) h (ih .atom _ _ a d)
  |atom=>
   simp only[R] at h;split at h
   ·obtain⟨t,B,h⟩:=al h;split at h
    ·cases h;exact mG _
    split at h
    ·cases h;exact mG _
    split at h
    ·cases h;exact mG _
    obtain⟨b,hb,h⟩:=al h
    cases b with
    |true=>simp only[aEl,Ζ] at h;subst h;exact mG _
    |false=>
    simp only[υ,ap1] at h;obtain⟨b,hb,h⟩:=al h
    cases b with
    |true=>simp only[aEl] at h;obtain⟨x,a,h⟩:=al h;obtain⟨v,j,h⟩:=al h;cases h;exact lN j (ih .expr _ _ a (mG _))
    |false=>
    simp only[υ,ap1] at h;obtain⟨b,hb,h⟩:=al h
    cases b with
    |true=>simp only[aEl] at h;obtain⟨x,a,h⟩:=al h;obtain⟨v,j,h⟩:=al h;cases h;exact lN j (CA (ih .entry) a (mG _))
    |false=>simp only[υ,ap1] at h;obtain⟨u,g,h⟩:=al h;obtain⟨x,a,h⟩:=al h;obtain⟨y,m,h⟩:=al h;obtain⟨z,J,h⟩:=al h;cases h;have f:=ih .block _ _ J (ih .typed _ _ m (ih .params _ _ a (lN g d)));exact f
   ·cases h;exact d
  |entry=>simp only[R] at h;obtain⟨x,a,h⟩:=al h;obtain⟨u,g,h⟩:=al h;obtain⟨y,m,h⟩:=al h;cases h;have f:=ih .expr _ _ m (lN g (wP a d));exact f
def XF:∀{n:Nat} {ks:List Nd} {s:RS} {r:List Nd×RS},rN l n ks s=some r->Sb l s->Sb l r.2
 |0,ks,s,r,h,c=>by cases h
 |n+1,ks,s,r,h,c=>by
  rw[rN] at h;split at h
  ·obtain⟨t,ht,h⟩:=al h;split at h
   ·cases h;exact c
   ·obtain⟨b,hb,h⟩:=al h;obtain⟨x,a,h⟩:=al h;refine XF h ?_
    cases b with
    |true=>simp[Bj] at a;obtain⟨m,hm,a⟩:=al a;obtain⟨s1,o,a⟩:=al a;obtain⟨y,d,a⟩:=al a;obtain⟨s2,f,a⟩:=al a;cases a;exact lN f (wP d (lN o (wP hm (A5 c))))
    |false=>simp[Bk] at a;obtain⟨s0,j,a⟩:=al a;obtain⟨y,d,a⟩:=al a;obtain⟨u,k,a⟩:=al a;obtain⟨v,g,a⟩:=al a;obtain⟨w,e,a⟩:=al a;cases a;have i:=Jn n .block _ _ e (Jn n .typed _ _ g (Jn n .params _ _ k (wP d (lN j c))));exact i
  ·cases h;exact c
def ami{n}{r}(h:Db l n=some r):Sb l r.2:=by simp[Db] at h;obtain⟨x,a,h⟩:=al h;cases h;exact XF a (mG _)
end
abbrev bl:=Op.bytesLess
def J1:∀x y,bl x y=decide (x<y)
 |[],[]=>by simp[Op.bytesLess]
 |_::_,[]=>by simp[Op.bytesLess]
 |[],_::_=>by simp[Op.bytesLess]
 |a::x,b::y=>by have ih:Op.bytesLess x y=decide (x<y):=J1 x y;simp[Op.bytesLess,List.cons_lt_cons_iff];rw[ih];by_cases c:a<b<;>by_cases d:a=b<;>by_cases h3:x<y<;>simp[c,d,h3]
def wG(x):bl x x=false:=by rw[J1];simp
def Cs{x y z}(h:bl x y=true)(k:bl y z=true):bl x z=true:=by
 rw[J1] at*
 simp at*
 exact List.lt_trans h k
def Jo{x y}(h:bl x y=false)(k:bl y x=false):x=y:=by
 rw[J1] at*
 simp at*
 exact List.le_antisymm (List.not_lt.1 k) (List.not_lt.1 h)
def XG{x y}(h:bl x y=true):bl y x=false:=by
 cases k:bl y x with
 |false=>rfl
 |true=>have:=Cs h k;rw[wG] at this;cases this
def axf(x y):(!(Op.bytesLess y x||y==x))=Op.bytesLess x y:=by
 cases h:bl x y with
 |true=>
  have a:=XG h;have b:(y==x)=false:=by grind
  rw[show Op.bytesLess y x=false from a,b];exact h.symm
 |false=>
  rw[show Op.bytesLess x y=false from h]
  cases k:bl y x with
  |true=>rw[show Op.bytesLess y x=true from k];rfl
  |false=>have:=Jo h k;subst this;simp
end Go.Proofs.YtmehamiifalmaaaGreatDoor
