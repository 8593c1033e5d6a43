/-
  DERIVED. GIVEN WITH THE SEED: THE CARDS: each row of YtkpnccaoolbeeaaGreatDoorRows.lean that lists a variable, with what it lists TIED to the program's text (the seventh form; the later family's looks); each row that meets fmt, with fmt's text TOLD by the authors' own Lean function (tested against real Go, not proved from fmt's source: count such statements apart). THE CARD IS WHAT COUNTS. Prove the row's statement (the work); the ties are given (YtkpnccaoolbeeaaGreatDoorTie.lean); close each card by the builder's one call (the guide's Derived/Test/ToyasCard.lean, 'card_holds'). Laid BY PROGRAM, IN A SANDBOX (cutbox-door.mjs). By AI agents, Wed Nov 11 2026. No macro, syntax, notation, axiom, sorry.
-/
import Derived.Test.YtkpnccaoolbeeaaGreatDoorRows
import GoSem.ClaimSeven
namespace Go.Proofs.YtkpnccaoolbeeaaGreatDoor
namespace Rows

/-- THE TIED CARD OF 'whetstonelaw23.ImportsSort'. -/
def importsSortCard : Claim7 := { stood := { row := importsSortRow, standIns := [], harness := (true, "b577a0714d4d5b92d39647d24a845abe0a72090ce7d2e93e1c71d1cede3172f5"), looks := true }, kinds := [], alts := [], laidByText := true, laidKinds := [.data, .data, .data, .data, .sentinel, .sentinel, .pinned], laidTests := true, laidLooks := .later }
def ImportsSortCardSaid : Prop := Claim7.holds Tryz.pinned (.plain (OpenSpec.ofChange importsSortSpec)) importsSortCard

/-- THE SECOND FORM's CARD OF 'whetstonelaw23.ImportsSort'. -/
def importsSortUptoCard : Claim7 := { stood := { row := importsSortUptoRow, standIns := [], harness := (true, "b577a0714d4d5b92d39647d24a845abe0a72090ce7d2e93e1c71d1cede3172f5"), looks := true }, kinds := [], alts := [], laidByText := true, laidKinds := [.data, .data, .data, .data, .sentinel, .sentinel, .pinned], laidTests := true, laidLooks := .later }
def ImportsSortUptoCardSaid : Prop := Claim7.holds Tryz.pinned (.plain (OpenSpec.upto importsSortSpec)) importsSortUptoCard
end Rows
end Go.Proofs.YtkpnccaoolbeeaaGreatDoor
