/- LintFinds: part 40 of its proof. -/
import Derived.Test.YtmehamiifalmaaaGreatDoorG32
import Derived.Test.YtmehamiifalmaaaGreatDoorRows
import Derived.Lib.LaidU8T
import Derived.LaidMore
import Derived.MakeChecks
import Derived.ChangeArms
import Derived.FnData
set_option linter.all false
namespace Go.Proofs.YtmehamiifalmaaaGreatDoor
open Go Go.Ab Go.Lib Go.Proofs Go.Proofs.Tryz
def V1{P:Program}{W:World}{n}{g}{t}{x}{nm}{d:DataW Unit}(h:VarReads P W n (.iface nm d))(hg:P.globalNamed n=some g)(f:(P.globals[g]?).map (·.type)=some t)
  (l:P.underlying t=some (.interface x)):∃v,W.cell? ⟨g,0,none⟩=some v/\(v=.nilIface\/∃t p,v=.iface t p):=by
 obtain⟨g',t',cs,fuel,p,m,i,c,a⟩:=h;obtain rfl:=aEP (hg.symm.trans m);obtain rfl:=aEP (f.symm.trans i)
 have h3:∃v,cs.toList=[v]/\(v=.nilIface\/∃t p,v=.iface t p):=by
  cases fuel with
  |zero=>simp[DataW.trod] at a
  |succ fuel=>
   unfold DataW.trod at a;rw[l] at a;split at a;all_goals first|(rename_i e b;exact⟨_,b,.inl rfl⟩)|(rename_i e b;exact⟨_,b,.inr ⟨_,_,rfl⟩⟩)|(rename_i e b;cases e;done)|(cases a;done)|(split at a<;>simp at a;done)|(simp at a;done)|skip
 obtain⟨v,k,j⟩:=h3;refine⟨v,?_,j⟩;rw[World.var?_cell hg c 0,<-Array.getElem?_toList,k];rfl
def acs:prog.globalNamed "unicode/utf8.first" =some 0:=af
def SZ:prog.globalNamed "unicode/utf8.acceptRanges" =some 1:=af
def K0:prog.globalNamed "strconv.ErrSyntax" =some 2:=af
def K1:prog.globalNamed "strconv.ErrRange" =some 3:=af
def awU:(Rows.laid_unicode_utf8_first:DataW Unit)=Lib.firstData:=af
def aDN:(Rows.laid_unicode_utf8_acceptRanges:DataW Unit)=Lib.acceptData:=af
def K8{i:Nat}{x:String×DataW Unit}(h:Rows.lintFindsRow.laid[i]? =some x):x∈Rows.lintFindsRow.laid:=Δ h
def aA0{W:World}(h:laidMetH prog Rows.lintFindsRow.laid W):xm prog (·<W.heap.size) W:=by
 rw[MakeChecks.laidMetH_plain _ _ _ rfl] at h;have k:VarReads prog W "unicode/utf8.first" Lib.firstData:=awU▸laidMet.reads h (K8 (i:=6) rfl)
 have d:VarReads prog W "unicode/utf8.acceptRanges" Lib.acceptData:=aDN▸laidMet.reads h (K8 (i:=3) rfl);have j:VarReads prog W "strconv.ErrSyntax" Rows.laid_strconv_ErrSyntax:=laidMet.reads h (K8 (i:=5) rfl);have f:VarReads prog W "strconv.ErrRange" Rows.laid_strconv_ErrRange:=laidMet.reads h (K8 (i:=4) rfl);have u8:=utf8Tabs_of_readsT (P:=prog) (ρ:=Tryz.Vn) ⟨underlying5,underlying321,underlying323,underlying324⟩ ⟨acs,SZ,af,af,af,af,af⟩ k d;refine⟨λ_ h=>h,λb o p g=> ?_⟩
 have key:∃v,W.cell? ⟨b,o,none⟩=some v/\p v:=by
  cases g with
  |first c hg l=>obtain rfl:=aEP (acs.symm.trans hg);exact⟨_,u8.1 _ l,rfl⟩
  |lo i hg hi=>obtain rfl:=aEP (SZ.symm.trans hg);exact⟨_,(u8.2 i hi).1,rfl⟩
  |hi i hg hi=>obtain rfl:=aEP (SZ.symm.trans hg);exact⟨_,(u8.2 i hi).2,rfl⟩
  |syn hg=>obtain rfl:=aEP (K0.symm.trans hg);exact V1 j K0 (t:=307) rfl underlying307
  |ran hg=>obtain rfl:=aEP (K1.symm.trans hg);exact V1 f K1 (t:=307) rfl underlying307
 obtain⟨v,a,e⟩:=key;exact⟨World.block_lt_of_cell? _ _ a,v,a,e⟩
end Go.Proofs.YtmehamiifalmaaaGreatDoor
