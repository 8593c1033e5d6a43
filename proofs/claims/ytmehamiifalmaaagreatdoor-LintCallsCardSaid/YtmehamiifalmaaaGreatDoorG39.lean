/- LintCalls: part 40 of its proof. -/
import Derived.Test.YtmehamiifalmaaaGreatDoorRows
import Derived.JoinedOf
import Derived.KernelRfl
set_option linter.all false
namespace Go.Proofs.YtmehamiifalmaaaGreatDoor
open Go Go.Proofs.Tryz
def azP:(Tryz.pinned.checked.prog.stopsHeard)=true:=by kernel_rfl
def azQ:(Tryz.pinned.checked.prog.mayEnter)=true:=by kernel_rfl
def azR:((Rows.lintCallsRow.lifted==Tryz.pinned.checked.prog.liftsFinal))=true:=by kernel_rfl
def azS:((Tryz.pinned.checked.prog.make==some Rows.lintCallsRow.make))=true:=by kernel_rfl
def azT:((Rows.lintCallsRow.kinds==(if Rows.lintCallsRow.domain.isEmpty then[] else f4.params.toList.map λt=>match Tryz.pinned.checked.prog.underlying t with|some (.int k)=>some k|_=>none)))=true:=by kernel_rfl
def azU:((Rows.lintCallsRow.pinned==Rows.lintCallsRow.pinnedBy))=true:=by kernel_rfl
def azV:((Rows.lintCallsRow.veiled==(f4.params.toList++Rows.lintCallsSpec.plain.varTypes Tryz.pinned.checked.prog++f4.resultTypes.toList).any (Tryz.pinned.checked.prog.veiledRec ·)))=true:=by kernel_rfl
def azW:(Rows.lintCallsRow.veiledFits Tryz.pinned.checked.prog f4.params.toList (f4.params.toList++Rows.lintCallsSpec.plain.varTypes Tryz.pinned.checked.prog++f4.resultTypes.toList))=true:=by kernel_rfl
def avP:Tryz.pinned.checked.prog.funcNamed Rows.lintCallsRow.func=some 4:=by kernel_rfl
end Go.Proofs.YtmehamiifalmaaaGreatDoor
