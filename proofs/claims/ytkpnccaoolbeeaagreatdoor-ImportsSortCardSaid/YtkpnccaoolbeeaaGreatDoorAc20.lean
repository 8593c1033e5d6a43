/- From the machine to the model's calls. -/
import Derived.Test.YtkpnccaoolbeeaaGreatDoorAc19
namespace Go.Ab
set_option linter.unusedVariables false
open Go Go.RowKit

def σ00 : St := { cells := fun _ _ => none, loc := fun _ => none, own := fun _ _ => none }

/-- A function that the machine shows true is true, and writes nothing that was there. -/
theorem calls_true {E : Env} (hE : EnvOk E) {f : FuncId} {args : List AV} {us : List Value} (hr : RepL σ00 args us) (h : closedCall E.P (run E) f args = some (.bool true)) (w : World) (hb : Base E.P (· < w.heap.size) w) :
    Calls E.P f us.toArray w fun e w' => e = .returned (.bool true) ∧ Below w.heap.size w w' := by
  have hs : Sim E.P (· < w.heap.size) w .empty σ00 w :=
    ⟨BelowS.refl _ _, hb, fun b o v hv => by simp [σ00] at hv, fun b o v hv => by simp [σ00] at hv, fun _ _ => ⟨rfl, fun _ => rfl⟩, fun id x hx => by simp [AHeap.get, AHeap.empty] at hx, fun id x hx => by simp [AHeap.get, AHeap.empty] at hx,
      fun id id' x x' hx => by simp [AHeap.get, AHeap.empty] at hx⟩
  refine (closed_sound hs (run_sound hE) hr h).2.mono ?_
  rintro e w' ⟨u, rfl, σ1, hext, hsim, hrep⟩
  simp only [Rep] at hrep
  subst hrep
  exact ⟨rfl, hsim.below.os, hsim.below.tape, hsim.below.output, hsim.below.size, hsim.below.block⟩
end Go.Ab
