/- ScriptWords: what the script of awake does, part by part, seen in the kernel. -/
import Derived.Test.YtiagmokcjljliaaGreatDoorD0
/- ScriptWords: what the script of awake does, seen in the kernel (the first half). -/
namespace Go.Proofs.YtiagmokcjljliaaGreatDoor
set_option linter.unusedVariables false
open Go Go.Ab
theorem e13_1 : execF envC 200 13 args13_1 h1 = some (res13_1, h2) := isRH_of (by kernel_rfl)
theorem e46_1 : execF envC 200 46 args46_1 h4 = some (res46_1, h5) := isRH_of (by kernel_rfl)
end Go.Proofs.YtiagmokcjljliaaGreatDoor

/- ScriptWords: what the script of awake does, seen in the kernel (the renaming). -/
namespace Go.Proofs.YtiagmokcjljliaaGreatDoor
set_option linter.unusedVariables false
open Go Go.Ab
theorem e92_1 : execF envC 200 92 args92_1 h6 = some (res92_1, h7) := isRH_of (by kernel_rfl)
end Go.Proofs.YtiagmokcjljliaaGreatDoor

/- ScriptWords: what the script of awake does, seen in the kernel (the change). -/
namespace Go.Proofs.YtiagmokcjljliaaGreatDoor
set_option linter.unusedVariables false
open Go Go.Ab
theorem e94_1 : execF envC 200 94 args94_1 h10 = some (res94_1, h13) := isRH_of (by kernel_rfl)
end Go.Proofs.YtiagmokcjljliaaGreatDoor

/- ScriptWords: what the script of awake does, seen in the kernel (the second reading). -/
namespace Go.Proofs.YtiagmokcjljliaaGreatDoor
set_option linter.unusedVariables false
open Go Go.Ab
theorem e46_2 : execF envC 200 46 args46_2 h7 = some (res46_2, h8) := isRH_of (by kernel_rfl)
theorem e93_2 : execF envC 200 93 args93_2 h8 = some (res93_2, h9) := isRH_of (by kernel_rfl)
end Go.Proofs.YtiagmokcjljliaaGreatDoor
