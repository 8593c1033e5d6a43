/- The row's closed facts, one by one. -/
import Derived.Test.YtiagmokcjljliaaGreatDoorRows
import Derived.JoinedOf
import Derived.KernelRfl
namespace Go.Proofs.YtiagmokcjljliaaGreatDoor
open Go
set_option linter.unusedVariables false
theorem fact0 : (Rows.scriptWordsRow.wf (OpenSpec.ofChange Rows.scriptWordsSpec)) = true := by kernel_rfl
theorem fact1 : (laidOutB Tryz.pinned.checked.prog) = true := by kernel_rfl
theorem fact2 : (mapsRowed Tryz.pinned.checked.prog) = true := by kernel_rfl
theorem fact3 : (Tryz.f3.params.all (Tryz.pinned.checked.prog.readableRec ·)) = true := by kernel_rfl
theorem fact4 : (namedTie Tryz.pinned.checked.prog Rows.scriptWordsRow.named Rows.scriptWordsSpec.vars) = true := by kernel_rfl
theorem fact5 : ((Rows.scriptWordsRow.stops == [])) = true := by kernel_rfl
theorem fact6 : ((Tryz.pinned.checked.prog.stops == [])) = true := by kernel_rfl
theorem fact7 : ((Rows.scriptWordsRow.knobs == [])) = true := by kernel_rfl
theorem fact8 : ((Tryz.pinned.checked.prog.stopKnobs == [])) = true := by kernel_rfl
theorem fact9 : ((Rows.scriptWordsRow.inPlace == Tryz.pinned.checked.prog.inPlace 3)) = true := by kernel_rfl
end Go.Proofs.YtiagmokcjljliaaGreatDoor
