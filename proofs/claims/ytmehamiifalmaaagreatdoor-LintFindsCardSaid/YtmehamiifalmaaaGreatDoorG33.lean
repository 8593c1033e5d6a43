/- LintFinds: part 34 of its proof. -/
import Derived.Test.YtmehamiifalmaaaGreatDoorRows
import Derived.JoinedOf
import Derived.KernelRfl
set_option linter.all false
namespace Go.Proofs.YtmehamiifalmaaaGreatDoor
open Go Go.Proofs.Tryz
def aAQ:(Rows.lintFindsRow.wf (OpenSpec.ofChange Rows.lintFindsSpec))=true:=by kernel_rfl
def aAR:(laidOutB Tryz.pinned.checked.prog)=true:=by kernel_rfl
def aAS:(mapsRowed Tryz.pinned.checked.prog)=true:=by kernel_rfl
def aAT:(f3.params.all (Tryz.pinned.checked.prog.readableRec ·))=true:=by kernel_rfl
def aAU:(namedTie Tryz.pinned.checked.prog Rows.lintFindsRow.named Rows.lintFindsSpec.vars)=true:=by kernel_rfl
def aAV:((Rows.lintFindsRow.stops==[]))=true:=by kernel_rfl
def aAW:((Tryz.pinned.checked.prog.stops==[]))=true:=by kernel_rfl
def aAX:((Rows.lintFindsRow.knobs==[]))=true:=by kernel_rfl
def aAY:((Tryz.pinned.checked.prog.stopKnobs==[]))=true:=by kernel_rfl
def aAZ:((Rows.lintFindsRow.inPlace==Tryz.pinned.checked.prog.inPlace 3))=true:=by kernel_rfl
end Go.Proofs.YtmehamiifalmaaaGreatDoor
