/- ScriptWords: the card's closed facts, one by one. -/
import Derived.Test.YtiagmokcjljliaaGreatDoorCards
import Derived.SevenTiedAt
import Derived.KernelRfl
namespace Go.Proofs.YtiagmokcjljliaaGreatDoor
open Go
set_option linter.unusedVariables false
/-- Where no text starts another goroutine none does. -/
theorem goesBy_false {P : Program} (h : P.funcs.toList.any Func.goes = false) {c : OpenClaim} (hs : c.start = .entering) : c.goesBy P = false := by
  have hall : ∀ fn ∈ P.funcs.toList, fn.goes = false := fun fn hfn => by simpa using List.any_eq_false.1 h fn hfn
  have hany : P.funcs.any Func.goes = false := by
    rw [← Array.any_toList]
    exact h
  have hf : ∀ f, P.goes f = false := by
    intro f
    unfold Program.goes
    rw [hany, Bool.and_false, Bool.or_false, List.any_eq_false]
    intro g _
    cases hg : P.funcs[g]? with
    | none => simp
    | some fn =>
      have := hall fn (Array.mem_toList_iff.2 (Array.mem_of_getElem? hg))
      simp [this]
  unfold OpenClaim.goesBy Program.goesAt Program.goesFrom
  rw [hs]
  cases P.funcNamed c.func with
  | none => rfl
  | some f => simp [hf f]
theorem goes_none : Tryz.pinned.checked.prog.funcs.toList.any Func.goes = false := by kernel_rfl
theorem card_goes : false = Rows.scriptWordsRow.goesBy Tryz.pinned.checked.prog := (goesBy_false goes_none rfl).symm
theorem card_wf : Rows.scriptWordsRow.wfByText (OpenSpec.ofChange Rows.scriptWordsSpec) = true := by kernel_rfl
theorem card_main : Tryz.pinned.checked.prog.mainIs = some (true, "28abf18da33c31d941127d251e1c9ffe036fffc35e9282535c00ad734dd6a26a".toList) := by kernel_rfl
theorem card_looks : true = Tryz.pinned.checked.prog.looks [] := by kernel_rfl
theorem card_named : Tryz.prog.funcNamed "whetstone/whetstonelaw30.ScriptWords" = some 3 := by kernel_rfl
theorem card_stand : ([9].all fun u => !Tryz.prog.wantsStandIn u) = true := by kernel_rfl
end Go.Proofs.YtiagmokcjljliaaGreatDoor
