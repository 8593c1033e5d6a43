/- LintFinds: part 37 of its proof. -/
import Derived.Test.YtmehamiifalmaaaGreatDoorRows
import Derived.JoinedOf
import Derived.KernelRfl
set_option linter.all false
namespace Go.Proofs.YtmehamiifalmaaaGreatDoor
open Go Go.Proofs.Tryz
def awK:(Tryz.pinned.checked.prog.stopsHeard)=true:=by kernel_rfl
def awL:(Tryz.pinned.checked.prog.mayEnter)=true:=by kernel_rfl
def awM:((Rows.lintFindsRow.lifted==Tryz.pinned.checked.prog.liftsFinal))=true:=by kernel_rfl
def awN:((Tryz.pinned.checked.prog.make==some Rows.lintFindsRow.make))=true:=by kernel_rfl
def awO:((Rows.lintFindsRow.kinds==(if Rows.lintFindsRow.domain.isEmpty then[] else f3.params.toList.map λt=>match Tryz.pinned.checked.prog.underlying t with|some (.int k)=>some k|_=>none)))=true:=by kernel_rfl
def awP:((Rows.lintFindsRow.pinned==Rows.lintFindsRow.pinnedBy))=true:=by kernel_rfl
def awQ:((Rows.lintFindsRow.veiled==(f3.params.toList++Rows.lintFindsSpec.plain.varTypes Tryz.pinned.checked.prog++f3.resultTypes.toList).any (Tryz.pinned.checked.prog.veiledRec ·)))=true:=by kernel_rfl
def awR:(Rows.lintFindsRow.veiledFits Tryz.pinned.checked.prog f3.params.toList (f3.params.toList++Rows.lintFindsSpec.plain.varTypes Tryz.pinned.checked.prog++f3.resultTypes.toList))=true:=by kernel_rfl
def awS:Tryz.pinned.checked.prog.funcNamed Rows.lintFindsRow.func=some 3:=by kernel_rfl
end Go.Proofs.YtmehamiifalmaaaGreatDoor
