/- LintCalls: part 41 of its proof. -/
import Derived.Test.YtmehamiifalmaaaGreatDoorG36
import Derived.Test.YtmehamiifalmaaaGreatDoorG37
import Derived.Test.YtmehamiifalmaaaGreatDoorG38
import Derived.Test.YtmehamiifalmaaaGreatDoorG39
set_option linter.all false
namespace Go.Proofs.YtmehamiifalmaaaGreatDoor
open Go Go.Proofs.Tryz
set_option maxRecDepth 100000 in
def aqA:joinedFacts Tryz.pinned.checked.prog 4 f4 Rows.lintCallsSpec Rows.lintCallsRow=true:=by unfold joinedFacts;simp only[Bool.and_eq_true];exact⟨⟨⟨⟨⟨⟨⟨⟨⟨⟨⟨⟨⟨⟨⟨⟨⟨⟨⟨⟨⟨⟨⟨⟨⟨⟨⟨⟨⟨⟨⟨aCB,aCC⟩,aCD⟩,aCE⟩,aCF⟩,aCG⟩,aCH⟩,aCI⟩,aCJ⟩,aCK⟩,azB⟩,azC⟩,azD⟩,azE⟩,azF⟩,azG⟩,azH⟩,azI⟩,azJ⟩,azK⟩,azL⟩,azM⟩,azN⟩,azO⟩,azP⟩,azQ⟩,azR⟩,azS⟩,azT⟩,azU⟩,azV⟩,azW⟩
end Go.Proofs.YtmehamiifalmaaaGreatDoor
