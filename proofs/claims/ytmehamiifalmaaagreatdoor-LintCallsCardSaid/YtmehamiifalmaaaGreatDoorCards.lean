/-
  DERIVED. GIVEN WITH THE SEED: THE CARDS: each row of YtmehamiifalmaaaGreatDoorRows.lean that lists a variable, with what it lists TIED to the program's text (the seventh form; the later family's looks); each row that meets fmt, with fmt's text TOLD by the authors' own Lean function (tested against real Go, not proved from fmt's source: count such statements apart). THE CARD IS WHAT COUNTS. Prove the row's statement (the work); the ties are given (YtmehamiifalmaaaGreatDoorTie.lean); close each card by the builder's one call (the guide's Derived/Test/ToyasCard.lean, 'card_holds'). Laid BY PROGRAM, IN A SANDBOX (cutbox-door.mjs). By AI agents, Wed Nov 11 2026. No macro, syntax, notation, axiom, sorry.
-/
import Derived.Test.YtmehamiifalmaaaGreatDoorRows
import GoSem.ClaimSeven
namespace Go.Proofs.YtmehamiifalmaaaGreatDoor
namespace Rows

/-- THE TIED CARD OF 'whetstonelaw27.LintFinds'. -/
def lintFindsCard : Claim7 := { stood := { row := lintFindsRow, standIns := [], harness := (true, "c2c978cacdeaec35a923a2a696953f557ae849ababc85e1099b3645255b1ad5a"), looks := true }, kinds := [], alts := [], laidByText := true, laidKinds := [.data, .data, .data, .data, .sentinel, .sentinel, .pinned], laidTests := true, laidLooks := .later }
def LintFindsCardSaid : Prop := Claim7.holds Tryz.pinned (.plain (OpenSpec.ofChange lintFindsSpec)) lintFindsCard

/-- THE TIED CARD OF 'whetstonelaw27.LintCalls'. -/
def lintCallsCard : Claim7 := { stood := { row := lintCallsRow, standIns := [], harness := (true, "c2c978cacdeaec35a923a2a696953f557ae849ababc85e1099b3645255b1ad5a"), looks := true }, kinds := [], alts := [], laidByText := true, laidKinds := [.data, .data, .data, .data, .sentinel, .sentinel, .pinned], laidTests := true, laidLooks := .later }
def LintCallsCardSaid : Prop := Claim7.holds Tryz.pinned (.plain (OpenSpec.ofChange lintCallsSpec)) lintCallsCard

/-- THE SECOND FORM's CARD OF 'whetstonelaw27.LintFinds'. -/
def lintFindsUptoCard : Claim7 := { stood := { row := lintFindsUptoRow, standIns := [], harness := (true, "c2c978cacdeaec35a923a2a696953f557ae849ababc85e1099b3645255b1ad5a"), looks := true }, kinds := [], alts := [], laidByText := true, laidKinds := [.data, .data, .data, .data, .sentinel, .sentinel, .pinned], laidTests := true, laidLooks := .later }
def LintFindsUptoCardSaid : Prop := Claim7.holds Tryz.pinned (.plain (OpenSpec.upto lintFindsSpec)) lintFindsUptoCard

/-- THE SECOND FORM's CARD OF 'whetstonelaw27.LintCalls'. -/
def lintCallsUptoCard : Claim7 := { stood := { row := lintCallsUptoRow, standIns := [], harness := (true, "c2c978cacdeaec35a923a2a696953f557ae849ababc85e1099b3645255b1ad5a"), looks := true }, kinds := [], alts := [], laidByText := true, laidKinds := [.data, .data, .data, .data, .sentinel, .sentinel, .pinned], laidTests := true, laidLooks := .later }
def LintCallsUptoCardSaid : Prop := Claim7.holds Tryz.pinned (.plain (OpenSpec.upto lintCallsSpec)) lintCallsUptoCard
end Rows
end Go.Proofs.YtmehamiifalmaaaGreatDoor
