/- A function of the library by her contract: a string goes in, the same string comes out. -/
import Derived.Test.YtkpnccaoolbeeaaGreatDoorAc17
namespace Go.Ab
set_option linter.unusedVariables false
open Go Go.RowKit

theorem Sim.under {P : Program} {B : Nat → Prop} {W0 : World} {H : AHeap} {σ : St} {w w' : World} (hs : Sim P B W0 H σ w) (h : Below w.heap.size w w') : Sim P B W0 H σ w' := by
  refine ⟨hs.below.trans (.of h hs.size), hs.base, fun b o v e => ?_, hs.one, hs.fresh, hs.keys, fun id x hx => ?_, hs.inj⟩
  · rw [h.cell (hs.cells_lt e)]; exact hs.cells b o v e
  · have ho := hs.obj id x hx
    refine ho.keep σ.le_refl (fun b hb => ?_) (fun _ => rfl)
    obtain ⟨b', hb', _, hlt⟩ := ho.blk
    rw [hb] at hb'
    cases hb'
    exact ⟨h.block b hlt, fun o => rfl⟩

def cloneX (c : FuncId) : CallO := fun f args H =>
  match args with
  | [.str l] => if f = c ∧ l.length ≤ 281474976710656 then some (.str l, H) else none
  | _ => none

theorem cloneX_ok {P : Program} {c : FuncId} (hc : callable P c) (h : ∀ (s : ByteArray) (w : World), s.size ≤ 281474976710656 → Calls P c #[.string s] w fun e w' => e = .returned (.string s) ∧ Below w.heap.size w w') : CallOk P (cloneX c) := by
  intro f args H v H' hx
  unfold cloneX at hx
  split at hx
  · rename_i l
    split at hx
    · rename_i hf
      obtain ⟨rfl, hl⟩ := hf
      simp only [Option.some.injEq, Prod.mk.injEq] at hx
      obtain ⟨rfl, rfl⟩ := hx
      refine ⟨hc, ?_⟩
      intro B W0 σ w us hs hr
      simp only [RepL] at hr
      obtain ⟨u, us', rfl, h1, rfl⟩ := hr
      simp only [Rep] at h1
      subst h1
      refine (h ⟨l.toArray⟩ w (by simpa [ByteArray.size] using hl)).mono ?_
      rintro e w' ⟨rfl, hb⟩
      exact ⟨_, rfl, σ, Ext.refl B σ, hs.under hb, by simp [Rep]⟩
    · cases hx
  · cases hx
end Go.Ab
