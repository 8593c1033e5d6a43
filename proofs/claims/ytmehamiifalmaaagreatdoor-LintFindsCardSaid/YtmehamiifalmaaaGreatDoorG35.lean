/- LintFinds: part 36 of its proof. -/
import Derived.Test.YtmehamiifalmaaaGreatDoorRows
import Derived.JoinedOf
import Derived.KernelRfl
set_option linter.all false
namespace Go.Proofs.YtmehamiifalmaaaGreatDoor
open Go Go.Proofs.Tryz
def awz:((Rows.lintFindsRow.maps==(f3.params.toList++Rows.lintFindsSpec.plain.varTypes Tryz.pinned.checked.prog).any (Tryz.pinned.checked.prog.mapsRec ·)))=true:=by kernel_rfl
def awA:((Rows.lintFindsRow.ifaces==(f3.params.toList++Rows.lintFindsSpec.plain.varTypes Tryz.pinned.checked.prog).any (Tryz.pinned.checked.prog.ifacesRec ·)))=true:=by kernel_rfl
def awB:((Rows.lintFindsRow.mapsOut==Tryz.pinned.checked.prog.mapsAmong f3.resultTypes.toList))=true:=by kernel_rfl
def awC:((Rows.lintFindsRow.loops==(f3.params.toList++Rows.lintFindsSpec.plain.varTypes Tryz.pinned.checked.prog).any (Tryz.pinned.checked.prog.loopsFrom ·)))=true:=by kernel_rfl
def awD:((Rows.lintFindsRow.wideKeys==(f3.params.toList++Rows.lintFindsSpec.plain.varTypes Tryz.pinned.checked.prog++f3.resultTypes.toList).any (Tryz.pinned.checked.prog.wideKeysFrom ·)))=true:=by kernel_rfl
def awE:(Rows.lintFindsSpec.vars.all (Tryz.pinned.checked.prog.varReadable ·))=true:=by kernel_rfl
def awF:(f3.resultTypes.all (λt=>Tryz.pinned.checked.prog.readableRec t&&decide (t<Tryz.pinned.checked.prog.types.size)))=true:=by kernel_rfl
def awG:((Rows.lintFindsRow.ifacesOut==f3.resultTypes.toList.any (Tryz.pinned.checked.prog.ifacesRec ·)))=true:=by kernel_rfl
def awH:((Rows.lintFindsRow.loopsOut==f3.resultTypes.toList.any (Tryz.pinned.checked.prog.loopsFrom ·)))=true:=by kernel_rfl
def awI:((Rows.lintFindsRow.plainKeys==Tryz.pinned.checked.prog.plainKeys))=true:=by kernel_rfl
def awJ:(Rows.lintFindsRow.shortTexts.isNone)=true:=by kernel_rfl
end Go.Proofs.YtmehamiifalmaaaGreatDoor
