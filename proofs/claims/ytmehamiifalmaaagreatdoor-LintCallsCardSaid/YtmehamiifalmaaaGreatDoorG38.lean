/- LintCalls: part 39 of its proof. -/
import Derived.Test.YtmehamiifalmaaaGreatDoorRows
import Derived.JoinedOf
import Derived.KernelRfl
set_option linter.all false
namespace Go.Proofs.YtmehamiifalmaaaGreatDoor
open Go Go.Proofs.Tryz
def azE:((Rows.lintCallsRow.maps==(f4.params.toList++Rows.lintCallsSpec.plain.varTypes Tryz.pinned.checked.prog).any (Tryz.pinned.checked.prog.mapsRec ·)))=true:=by kernel_rfl
def azF:((Rows.lintCallsRow.ifaces==(f4.params.toList++Rows.lintCallsSpec.plain.varTypes Tryz.pinned.checked.prog).any (Tryz.pinned.checked.prog.ifacesRec ·)))=true:=by kernel_rfl
def azG:((Rows.lintCallsRow.mapsOut==Tryz.pinned.checked.prog.mapsAmong f4.resultTypes.toList))=true:=by kernel_rfl
def azH:((Rows.lintCallsRow.loops==(f4.params.toList++Rows.lintCallsSpec.plain.varTypes Tryz.pinned.checked.prog).any (Tryz.pinned.checked.prog.loopsFrom ·)))=true:=by kernel_rfl
def azI:((Rows.lintCallsRow.wideKeys==(f4.params.toList++Rows.lintCallsSpec.plain.varTypes Tryz.pinned.checked.prog++f4.resultTypes.toList).any (Tryz.pinned.checked.prog.wideKeysFrom ·)))=true:=by kernel_rfl
def azJ:(Rows.lintCallsSpec.vars.all (Tryz.pinned.checked.prog.varReadable ·))=true:=by kernel_rfl
def azK:(f4.resultTypes.all (λt=>Tryz.pinned.checked.prog.readableRec t&&decide (t<Tryz.pinned.checked.prog.types.size)))=true:=by kernel_rfl
def azL:((Rows.lintCallsRow.ifacesOut==f4.resultTypes.toList.any (Tryz.pinned.checked.prog.ifacesRec ·)))=true:=by kernel_rfl
def azM:((Rows.lintCallsRow.loopsOut==f4.resultTypes.toList.any (Tryz.pinned.checked.prog.loopsFrom ·)))=true:=by kernel_rfl
def azN:((Rows.lintCallsRow.plainKeys==Tryz.pinned.checked.prog.plainKeys))=true:=by kernel_rfl
def azO:(Rows.lintCallsRow.shortTexts.isNone)=true:=by kernel_rfl
end Go.Proofs.YtmehamiifalmaaaGreatDoor
