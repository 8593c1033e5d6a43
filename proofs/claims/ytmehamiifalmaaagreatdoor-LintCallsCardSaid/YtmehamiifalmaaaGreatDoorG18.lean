/- LintCalls: part 19 of its proof. -/
import Derived.Test.YtmehamiifalmaaaGreatDoorG17
set_option linter.all false
namespace Go.Proofs.YtmehamiifalmaaaGreatDoor
open Go Go.Ab
end Go.Proofs.YtmehamiifalmaaaGreatDoor
