/- LintCalls: part 42 of its proof. -/
import Derived.Test.YtmehamiifalmaaaGreatDoorCards
import Derived.SevenTiedAt
import Derived.KernelRfl
set_option linter.all false
namespace Go.Proofs.YtmehamiifalmaaaGreatDoor
open Go Go.Proofs.Tryz
def aeo{P:Program}(h:P.funcs.toList.any Func.goes=false){c:OpenClaim}(i:c.start=.entering):c.goesBy P=false:=by
 have e:∀fn∈P.funcs.toList,fn.goes=false:=λfn b=>by simpa using List.any_eq_false.1 h fn b
 have d:P.funcs.any Func.goes=false:=by rw[<-Array.any_toList];exact h
 have a:∀f,P.goes f=false:=by
  intro f;unfold Program.goes;rw[d,Bool.and_false,Bool.or_false,List.any_eq_false];intro g _
  cases hg:P.funcs[g]? with
  |none=>simp
  |some fn=>have:=e fn (Array.mem_toList_iff.2 (Array.mem_of_getElem? hg));simp[this]
 unfold OpenClaim.goesBy Program.goesAt Program.goesFrom;rw[i]
 cases P.funcNamed c.func with
 |none=>rfl
 |some f=>simp[a f]
def ags:Tryz.pinned.checked.prog.funcs.toList.any Func.goes=false:=by kernel_rfl
def agt:false=Rows.lintCallsRow.goesBy Tryz.pinned.checked.prog:=(aeo ags rfl).symm
def akZ:Rows.lintCallsRow.wfByText (OpenSpec.ofChange Rows.lintCallsSpec)=true:=by kernel_rfl
def agu:Tryz.pinned.checked.prog.mainIs=some (true, "c2c978cacdeaec35a923a2a696953f557ae849ababc85e1099b3645255b1ad5a".toList):=by kernel_rfl
def afv:true=Tryz.pinned.checked.prog.looks []:=by kernel_rfl
def afw:prog.funcNamed "whetstone/whetstonelaw27.LintCalls" =some 4:=by kernel_rfl
def afx:([22,44].all λu=> !prog.wantsStandIn u)=true:=by kernel_rfl
end Go.Proofs.YtmehamiifalmaaaGreatDoor
