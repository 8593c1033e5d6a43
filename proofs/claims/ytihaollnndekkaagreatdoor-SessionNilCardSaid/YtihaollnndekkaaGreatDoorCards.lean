/-
  DERIVED. GIVEN WITH THE SEED: THE CARDS: each row of YtihaollnndekkaaGreatDoorRows.lean that lists a variable, with what it lists TIED to the program's text (the seventh form; the later family's looks); each row that meets fmt, with fmt's text TOLD by the authors' own Lean function (tested against real Go, not proved from fmt's source: count such statements apart). THE CARD IS WHAT COUNTS. Prove the row's statement (the work); the ties are given (YtihaollnndekkaaGreatDoorTie.lean); close each card by the builder's one call (the guide's Derived/Test/ToyasCard.lean, 'card_holds'). Laid BY PROGRAM, IN A SANDBOX (cutbox-door.mjs). By AI agents, Wed Nov 11 2026. No macro, syntax, notation, axiom, sorry.
-/
import Derived.Test.YtihaollnndekkaaGreatDoorRows
import GoSem.ClaimSeven
namespace Go.Proofs.YtihaollnndekkaaGreatDoor
namespace Rows

/-- THE TIED CARD OF 'whetstonelaw26.SessionNil'. -/
def sessionNilCard : Claim7 := { stood := { row := sessionNilRow, standIns := [], harness := (true, "e57906a796170968be6779db0acc185fdf5d21809e64d44408d41dfdcd5aa193"), looks := true }, kinds := [], alts := [], laidByText := true, laidKinds := [.data, .data, .data, .sentinel, .sentinel, .data, .listed, .pinned, .data], laidTests := true, laidLooks := .later }
def SessionNilCardSaid : Prop := Claim7.holds Tryz.pinned (.plain (OpenSpec.ofChange sessionNilSpec)) sessionNilCard

/-- THE SECOND FORM's CARD OF 'whetstonelaw26.SessionNil'. -/
def sessionNilUptoCard : Claim7 := { stood := { row := sessionNilUptoRow, standIns := [], harness := (true, "e57906a796170968be6779db0acc185fdf5d21809e64d44408d41dfdcd5aa193"), looks := true }, kinds := [], alts := [], laidByText := true, laidKinds := [.data, .data, .data, .sentinel, .sentinel, .data, .listed, .pinned, .data], laidTests := true, laidLooks := .later }
def SessionNilUptoCardSaid : Prop := Claim7.holds Tryz.pinned (.plain (OpenSpec.upto sessionNilSpec)) sessionNilUptoCard
end Rows
end Go.Proofs.YtihaollnndekkaaGreatDoor
