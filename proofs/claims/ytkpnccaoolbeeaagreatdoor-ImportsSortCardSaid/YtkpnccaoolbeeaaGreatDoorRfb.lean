/- The row's closed facts, one by one. -/
import Derived.Test.YtkpnccaoolbeeaaGreatDoorRows
import Derived.JoinedOf
import Derived.KernelRfl
namespace Go.Proofs.YtkpnccaoolbeeaaGreatDoor
open Go
set_option linter.unusedVariables false
theorem fact10 : ((Rows.importsSortRow.unfollowed == Tryz.pinned.checked.prog.unfollowed 3)) = true := by kernel_rfl
theorem fact11 : ((Rows.importsSortRow.recurses == Tryz.pinned.checked.prog.recurses 3)) = true := by kernel_rfl
theorem fact12 : ((Rows.importsSortRow.named == Tryz.pinned.checked.prog.varsNamed 3)) = true := by kernel_rfl
end Go.Proofs.YtkpnccaoolbeeaaGreatDoor
