/- LintCalls: part 37 of its proof. -/
import Derived.Test.YtmehamiifalmaaaGreatDoorRows
import Derived.JoinedOf
import Derived.KernelRfl
set_option linter.all false
namespace Go.Proofs.YtmehamiifalmaaaGreatDoor
open Go Go.Proofs.Tryz
def aCB:(Rows.lintCallsRow.wf (OpenSpec.ofChange Rows.lintCallsSpec))=true:=by kernel_rfl
def aCC:(laidOutB Tryz.pinned.checked.prog)=true:=by kernel_rfl
def aCD:(mapsRowed Tryz.pinned.checked.prog)=true:=by kernel_rfl
def aCE:(f4.params.all (Tryz.pinned.checked.prog.readableRec ·))=true:=by kernel_rfl
def aCF:(namedTie Tryz.pinned.checked.prog Rows.lintCallsRow.named Rows.lintCallsSpec.vars)=true:=by kernel_rfl
def aCG:((Rows.lintCallsRow.stops==[]))=true:=by kernel_rfl
def aCH:((Tryz.pinned.checked.prog.stops==[]))=true:=by kernel_rfl
def aCI:((Rows.lintCallsRow.knobs==[]))=true:=by kernel_rfl
def aCJ:((Tryz.pinned.checked.prog.stopKnobs==[]))=true:=by kernel_rfl
def aCK:((Rows.lintCallsRow.inPlace==Tryz.pinned.checked.prog.inPlace 4))=true:=by kernel_rfl
end Go.Proofs.YtmehamiifalmaaaGreatDoor
