/- LintFinds: part 39 of its proof. -/
import Derived.Test.YtmehamiifalmaaaGreatDoorCards
import Derived.SevenTiedAt
import Derived.KernelRfl
set_option linter.all false
namespace Go.Proofs.YtmehamiifalmaaaGreatDoor
open Go Go.Proofs.Tryz
def afo{P:Program}(h:P.funcs.toList.any Func.goes=false){c:OpenClaim}(a:c.start=.entering):c.goesBy P=false:=by
 have d:∀fn∈P.funcs.toList,fn.goes=false:=λfn e=>by simpa using List.any_eq_false.1 h fn e
 have b:P.funcs.any Func.goes=false:=by rw[<-Array.any_toList];exact h
 have hf:∀f,P.goes f=false:=by
  intro f;unfold Program.goes;rw[b,Bool.and_false,Bool.or_false,List.any_eq_false];intro g _
  cases hg:P.funcs[g]? with
  |none=>simp
  |some fn=>have:=d fn (Array.mem_toList_iff.2 (Array.mem_of_getElem? hg));simp[this]
 unfold OpenClaim.goesBy Program.goesAt Program.goesFrom;rw[a]
 cases P.funcNamed c.func with
 |none=>rfl
 |some f=>simp[hf f]
def aik:Tryz.pinned.checked.prog.funcs.toList.any Func.goes=false:=by kernel_rfl
def ail:false=Rows.lintFindsRow.goesBy Tryz.pinned.checked.prog:=(afo aik rfl).symm
def ark:Rows.lintFindsRow.wfByText (OpenSpec.ofChange Rows.lintFindsSpec)=true:=by kernel_rfl
def aim:Tryz.pinned.checked.prog.mainIs=some (true, "c2c978cacdeaec35a923a2a696953f557ae849ababc85e1099b3645255b1ad5a".toList):=by kernel_rfl
def ag3:true=Tryz.pinned.checked.prog.looks []:=by kernel_rfl
def ag4:prog.funcNamed "whetstone/whetstonelaw27.LintFinds" =some 3:=by kernel_rfl
def ag5:([22].all λu=> !prog.wantsStandIn u)=true:=by kernel_rfl
end Go.Proofs.YtmehamiifalmaaaGreatDoor
