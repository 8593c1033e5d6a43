/- The row's closed facts, one by one. -/
import Derived.Test.YtiagmokcjljliaaGreatDoorRows
import Derived.JoinedOf
import Derived.KernelRfl
namespace Go.Proofs.YtiagmokcjljliaaGreatDoor
open Go
set_option linter.unusedVariables false
theorem fact24 : (Tryz.pinned.checked.prog.stopsHeard) = true := by kernel_rfl
theorem fact25 : (Tryz.pinned.checked.prog.mayEnter) = true := by kernel_rfl
theorem fact26 : ((Rows.scriptWordsRow.lifted == Tryz.pinned.checked.prog.liftsFinal)) = true := by kernel_rfl
theorem fact27 : ((Tryz.pinned.checked.prog.make == some Rows.scriptWordsRow.make)) = true := by kernel_rfl
theorem fact28 : ((Rows.scriptWordsRow.kinds == (if Rows.scriptWordsRow.domain.isEmpty then [] else Tryz.f3.params.toList.map fun t => match Tryz.pinned.checked.prog.underlying t with | some (.int k) => some k | _ => none))) = true := by kernel_rfl
theorem fact29 : ((Rows.scriptWordsRow.pinned == Rows.scriptWordsRow.pinnedBy)) = true := by kernel_rfl
theorem fact30 : ((Rows.scriptWordsRow.veiled == (Tryz.f3.params.toList ++ Rows.scriptWordsSpec.plain.varTypes Tryz.pinned.checked.prog ++ Tryz.f3.resultTypes.toList).any (Tryz.pinned.checked.prog.veiledRec ·))) = true := by kernel_rfl
theorem fact31 : (Rows.scriptWordsRow.veiledFits Tryz.pinned.checked.prog Tryz.f3.params.toList (Tryz.f3.params.toList ++ Rows.scriptWordsSpec.plain.varTypes Tryz.pinned.checked.prog ++ Tryz.f3.resultTypes.toList)) = true := by kernel_rfl
theorem named3 : Tryz.pinned.checked.prog.funcNamed Rows.scriptWordsRow.func = some 3 := by kernel_rfl
end Go.Proofs.YtiagmokcjljliaaGreatDoor
