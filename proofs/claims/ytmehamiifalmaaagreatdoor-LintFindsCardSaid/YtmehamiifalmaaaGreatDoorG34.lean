/- LintFinds: part 35 of its proof. -/
import Derived.Test.YtmehamiifalmaaaGreatDoorRows
import Derived.JoinedOf
import Derived.KernelRfl
set_option linter.all false
namespace Go.Proofs.YtmehamiifalmaaaGreatDoor
open Go Go.Proofs.Tryz
def aww:((Rows.lintFindsRow.unfollowed==Tryz.pinned.checked.prog.unfollowed 3))=true:=by kernel_rfl
def awx:((Rows.lintFindsRow.recurses==Tryz.pinned.checked.prog.recurses 3))=true:=by kernel_rfl
def awy:((Rows.lintFindsRow.named==Tryz.pinned.checked.prog.varsNamed 3))=true:=by kernel_rfl
end Go.Proofs.YtmehamiifalmaaaGreatDoor
