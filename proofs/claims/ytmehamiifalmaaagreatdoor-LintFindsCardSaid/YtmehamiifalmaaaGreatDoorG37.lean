/- LintFinds: part 38 of its proof. -/
import Derived.Test.YtmehamiifalmaaaGreatDoorG33
import Derived.Test.YtmehamiifalmaaaGreatDoorG34
import Derived.Test.YtmehamiifalmaaaGreatDoorG35
import Derived.Test.YtmehamiifalmaaaGreatDoorG36
set_option linter.all false
namespace Go.Proofs.YtmehamiifalmaaaGreatDoor
open Go Go.Proofs.Tryz
set_option maxRecDepth 100000 in
def awT:joinedFacts Tryz.pinned.checked.prog 3 f3 Rows.lintFindsSpec Rows.lintFindsRow=true:=by unfold joinedFacts;simp only[Bool.and_eq_true];exact⟨⟨⟨⟨⟨⟨⟨⟨⟨⟨⟨⟨⟨⟨⟨⟨⟨⟨⟨⟨⟨⟨⟨⟨⟨⟨⟨⟨⟨⟨⟨aAQ,aAR⟩,aAS⟩,aAT⟩,aAU⟩,aAV⟩,aAW⟩,aAX⟩,aAY⟩,aAZ⟩,aww⟩,awx⟩,awy⟩,awz⟩,awA⟩,awB⟩,awC⟩,awD⟩,awE⟩,awF⟩,awG⟩,awH⟩,awI⟩,awJ⟩,awK⟩,awL⟩,awM⟩,awN⟩,awO⟩,awP⟩,awQ⟩,awR⟩
end Go.Proofs.YtmehamiifalmaaaGreatDoor
