/- The row's closed facts: what is asked of the functions that are reached. -/
import Derived.Test.YtiagmokcjljliaaGreatDoorCo
namespace Go.Proofs.YtiagmokcjljliaaGreatDoor
open Go
set_option linter.unusedVariables false
set_option maxRecDepth 100000
theorem fact10 : ((Rows.scriptWordsRow.unfollowed == Tryz.pinned.checked.prog.unfollowed 3)) = true := by
  unfold Program.unfollowed
  rw [clo3]
  kernel_rfl
theorem fact11 : ((Rows.scriptWordsRow.recurses == Tryz.pinned.checked.prog.recurses 3)) = true := by
  unfold Program.recurses Program.unfollowed
  rw [clo3]
  kernel_rfl
theorem fact12 : ((Rows.scriptWordsRow.named == Tryz.pinned.checked.prog.varsNamed 3)) = true := by
  unfold Program.varsNamed
  rw [clo3]
  kernel_rfl
end Go.Proofs.YtiagmokcjljliaaGreatDoor
