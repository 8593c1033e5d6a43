/- LintCalls: part 38 of its proof. -/
import Derived.Test.YtmehamiifalmaaaGreatDoorRows
import Derived.JoinedOf
import Derived.KernelRfl
set_option linter.all false
namespace Go.Proofs.YtmehamiifalmaaaGreatDoor
open Go Go.Proofs.Tryz
def azB:((Rows.lintCallsRow.unfollowed==Tryz.pinned.checked.prog.unfollowed 4))=true:=by kernel_rfl
def azC:((Rows.lintCallsRow.recurses==Tryz.pinned.checked.prog.recurses 4))=true:=by kernel_rfl
def azD:((Rows.lintCallsRow.named==Tryz.pinned.checked.prog.varsNamed 4))=true:=by kernel_rfl
end Go.Proofs.YtmehamiifalmaaaGreatDoor
