/-
  DERIVED. GIVEN WITH THE SEED: THE CARDS: each row of YtiagmokcjljliaaGreatDoorRows.lean that lists a variable, with what it lists TIED to the program's text (the seventh form; the later family's looks); each row that meets fmt, with fmt's text TOLD by the authors' own Lean function (tested against real Go, not proved from fmt's source: count such statements apart). THE CARD IS WHAT COUNTS. Prove the row's statement (the work); the ties are given (YtiagmokcjljliaaGreatDoorTie.lean); close each card by the builder's one call (the guide's Derived/Test/ToyasCard.lean, 'card_holds'). Laid BY PROGRAM, IN A SANDBOX (cutbox-door.mjs). By AI agents, Wed Nov 11 2026. No macro, syntax, notation, axiom, sorry.
-/
import Derived.Test.YtiagmokcjljliaaGreatDoorRows
import GoSem.ClaimSeven
namespace Go.Proofs.YtiagmokcjljliaaGreatDoor
namespace Rows

/-- THE TIED CARD OF 'whetstonelaw30.ScriptWords'. -/
def scriptWordsCard : Claim7 := { stood := { row := scriptWordsRow, standIns := [], harness := (true, "28abf18da33c31d941127d251e1c9ffe036fffc35e9282535c00ad734dd6a26a"), looks := true }, kinds := [], alts := [], laidByText := true, laidKinds := [.data, .listed, .data, .data, .data, .sentinel, .sentinel, .pinned, .data, .data, .data], laidTests := true, laidLooks := .later }
def ScriptWordsCardSaid : Prop := Claim7.holds Tryz.pinned (.plain (OpenSpec.ofChange scriptWordsSpec)) scriptWordsCard

/-- THE SECOND FORM's CARD OF 'whetstonelaw30.ScriptWords'. -/
def scriptWordsUptoCard : Claim7 := { stood := { row := scriptWordsUptoRow, standIns := [], harness := (true, "28abf18da33c31d941127d251e1c9ffe036fffc35e9282535c00ad734dd6a26a"), looks := true }, kinds := [], alts := [], laidByText := true, laidKinds := [.data, .listed, .data, .data, .data, .sentinel, .sentinel, .pinned, .data, .data, .data], laidTests := true, laidLooks := .later }
def ScriptWordsUptoCardSaid : Prop := Claim7.holds Tryz.pinned (.plain (OpenSpec.upto scriptWordsSpec)) scriptWordsUptoCard
end Rows
end Go.Proofs.YtiagmokcjljliaaGreatDoor
