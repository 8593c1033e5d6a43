/- LintCalls: part 36 of its proof. -/
import Derived.Test.YtmehamiifalmaaaGreatDoorG34
import Derived.Test.YtmehamiifalmaaaGreatDoorRows
import Derived.Lib.LaidU8T
import Derived.LaidMore
import Derived.MakeChecks
import Derived.ChangeArms
import Derived.FnData
set_option linter.all false
namespace Go.Proofs.YtmehamiifalmaaaGreatDoor
open Go Go.Ab Go.Lib Go.Proofs Go.Proofs.Tryz
def VF{P:Program}{W:World}{n}{g}{t}{x}{nm}{d:DataW Unit}(h:VarReads P W n (.iface nm d))(hg:P.globalNamed n=some g)(f:(P.globals[g]?).map (·.type)=some t)
  (m:P.underlying t=some (.interface x)):∃v,W.cell? ⟨g,0,none⟩=some v/\(v=.nilIface\/∃t p,v=.iface t p):=by
 obtain⟨g',t',cs,fuel,p,k,i,c,a⟩:=h;obtain rfl:=aDP (hg.symm.trans k);obtain rfl:=aDP (f.symm.trans i)
 have o:∃v,cs.toList=[v]/\(v=.nilIface\/∃t p,v=.iface t p):=by
  cases fuel with
  |zero=>simp[DataW.trod] at a
  |succ fuel=>
   unfold DataW.trod at a;rw[m] at a;split at a;all_goals first|(rename_i e b;exact⟨_,b,.inl rfl⟩)|(rename_i e b;exact⟨_,b,.inr ⟨_,_,rfl⟩⟩)|(rename_i e b;cases e;done)|(cases a;done)|(split at a<;>simp at a;done)|(simp at a;done)|skip
 obtain⟨v,l,j⟩:=o;refine⟨v,?_,j⟩;rw[World.var?_cell hg c 0,<-Array.getElem?_toList,l];rfl
def abK:prog.globalNamed "unicode/utf8.first" =some 0:=af
def SD:prog.globalNamed "unicode/utf8.acceptRanges" =some 1:=af
def Ka:prog.globalNamed "strconv.ErrSyntax" =some 2:=af
def Kb:prog.globalNamed "strconv.ErrRange" =some 3:=af
def avO:(Rows.laid_unicode_utf8_first:DataW Unit)=Lib.firstData:=af
def aCA:(Rows.laid_unicode_utf8_acceptRanges:DataW Unit)=Lib.acceptData:=af
def Ki{i:Nat}{x:String×DataW Unit}(h:Rows.lintCallsRow.laid[i]? =some x):x∈Rows.lintCallsRow.laid:=Β h
def azA{W:World}(h:laidMetH prog Rows.lintCallsRow.laid W):wQ prog (·<W.heap.size) W:=by
 rw[MakeChecks.laidMetH_plain _ _ _ rfl] at h;have k:VarReads prog W "unicode/utf8.first" Lib.firstData:=avO▸laidMet.reads h (Ki (i:=6) rfl)
 have d:VarReads prog W "unicode/utf8.acceptRanges" Lib.acceptData:=aCA▸laidMet.reads h (Ki (i:=3) rfl);have j:VarReads prog W "strconv.ErrSyntax" Rows.laid_strconv_ErrSyntax:=laidMet.reads h (Ki (i:=5) rfl);have f:VarReads prog W "strconv.ErrRange" Rows.laid_strconv_ErrRange:=laidMet.reads h (Ki (i:=4) rfl);have u8:=utf8Tabs_of_readsT (P:=prog) (ρ:=Tryz.U1) ⟨underlying5,underlying321,underlying323,underlying324⟩ ⟨abK,SD,af,af,af,af,af⟩ k d;refine⟨λ_ h=>h,λb o p g=> ?_⟩
 have key:∃v,W.cell? ⟨b,o,none⟩=some v/\p v:=by
  cases g with
  |first c hg l=>obtain rfl:=aDP (abK.symm.trans hg);exact⟨_,u8.1 _ l,rfl⟩
  |lo i hg hi=>obtain rfl:=aDP (SD.symm.trans hg);exact⟨_,(u8.2 i hi).1,rfl⟩
  |hi i hg hi=>obtain rfl:=aDP (SD.symm.trans hg);exact⟨_,(u8.2 i hi).2,rfl⟩
  |syn hg=>obtain rfl:=aDP (Ka.symm.trans hg);exact VF j Ka (t:=307) rfl underlying307
  |ran hg=>obtain rfl:=aDP (Kb.symm.trans hg);exact VF f Kb (t:=307) rfl underlying307
 obtain⟨v,a,e⟩:=key;exact⟨World.block_lt_of_cell? _ _ a,v,a,e⟩
end Go.Proofs.YtmehamiifalmaaaGreatDoor
