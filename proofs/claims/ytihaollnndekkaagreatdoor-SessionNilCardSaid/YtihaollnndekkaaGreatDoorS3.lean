/- SessionNil: the arguments read; from the machine to the model's call. -/
import Derived.Test.YtihaollnndekkaaGreatDoorS1
import Derived.Test.YtihaollnndekkaaGreatDoorAc20
import Derived.WalkKit
import Derived.ProofKit
import Derived.OpenShut
import Derived.Below
import Derived.Lib.LaidTab
import Derived.Lib.Space
namespace Go.Proofs.YtihaollnndekkaaGreatDoor
open Go Go.Ab
open Go.ChangeShapes Go.WideShapes Go.ChangeAt Go.RowKit
set_option linter.unusedVariables false

/-- All that may be read is known. -/
def σW (W : World) : St := { cells := fun b o => match W.cell? ⟨b, o, none⟩ with | some v => if v.oneCell' = true then some v else none | none => none, loc := fun _ => none, own := fun _ _ => none }
theorem σW_cell {W : World} {b o : Nat} {v : Value} (h : W.cell? ⟨b, o, none⟩ = some v) (h1 : v.oneCell' = true) : (σW W).cells b o = some v := by simp [σW, h, h1]

theorem calls_true' {E : Env} (hE : EnvOk E) {f : FuncId} {args : List AV} {us : List Value} (w : World) (hr : RepL (σW w) args us) (h : closedCall E.P (run E) f args = some (.bool true)) (hb : Base E.P (· < w.heap.size) w) :
    Calls E.P f us.toArray w fun e w' => e = .returned (.bool true) ∧ Below w.heap.size w w' := by
  have k1 : ∀ b o v, (σW w).cells b o = some v → w.cell? ⟨b, o, none⟩ = some v := by
    intro b o v hv
    simp only [σW] at hv
    split at hv
    · rename_i x hx
      split at hv
      · cases hv; exact hx
      · cases hv
    · cases hv
  have k2 : ∀ b o v, (σW w).cells b o = some v → v.oneCell' = true := by
    intro b o v hv
    simp only [σW] at hv
    split at hv
    · split at hv
      · rename_i h1; cases hv; exact h1
      · cases hv
    · cases hv
  have hs : Sim E.P (· < w.heap.size) w .empty (σW w) w :=
    ⟨BelowS.refl _ _, hb, k1, k2, fun _ _ => ⟨rfl, fun _ => rfl⟩, fun id x hx => by simp [AHeap.get, AHeap.empty] at hx, fun id x hx => by simp [AHeap.get, AHeap.empty] at hx,
      fun id id' x x' hx => by simp [AHeap.get, AHeap.empty] at hx⟩
  refine (closed_sound hs (run_sound hE) hr h).2.mono ?_
  rintro e w' ⟨u, rfl, σ1, hext, hsim, hrep⟩
  simp only [Rep] at hrep
  subst hrep
  exact ⟨rfl, hsim.below.os, hsim.below.tape, hsim.below.output, hsim.below.size, hsim.below.block⟩

set_option maxRecDepth 100000 in
theorem arg23 {W : World} {v : Value} {base : Nat} {H : Type} {enc : TypeId × Value → H} {d : DataW H} {p : List MemPlace} (hv : Value.okWide Tryz.prog W .any base 23 v) (h : DataW.Trod enc Tryz.prog W 0 (fun _ => true) true 23 v d p) :
    Rep (σW W) (.agg [.any, .any, .any, .any, .any, .any]) v := by
  obtain ⟨cs, rfl, hsz⟩ := okWide_struct Tryz.underlying23 hv
  obtain ⟨fuel, hf⟩ := h
  obtain ⟨xs, n, rfl, _, hl, hxs, hel⟩ := DataW.trod_struct Tryz.underlying23 hf
  have ct : Tryz.prog.cellsOf 23 = 6 := by kernel_rfl
  have c3 : Tryz.prog.cellsOf 3 = 1 := by kernel_rfl
  have c9 : Tryz.prog.cellsOf 9 = 1 := by kernel_rfl
  obtain ⟨ls⟩ := cs
  simp only [Value.cells] at hl hel
  rw [ct] at hl
  match ls, hl with
  | [x0, x1, x2, x3, x4, x5], _ =>
    match xs, hxs with
    | [y0, y1, y2, y3, y4, y5], _ =>
      have f0 : DataW.trod enc Tryz.prog W 0 (fun _ => true) true n 3 [x0] = some y0 := by
        have q : DataW.trod enc Tryz.prog W 0 (fun _ => true) true n 3 (([x0, x1, x2, x3, x4, x5].drop 0).take (Tryz.prog.cellsOf 3)) = some y0 := hel 0 _ rfl
        rw [c3] at q
        exact q
      have f1 : DataW.trod enc Tryz.prog W 0 (fun _ => true) true n 9 [x1] = some y1 := by
        have q : DataW.trod enc Tryz.prog W 0 (fun _ => true) true n 9 (([x0, x1, x2, x3, x4, x5].drop 1).take (Tryz.prog.cellsOf 9)) = some y1 := hel 1 _ rfl
        rw [c9] at q
        exact q
      have f2 : DataW.trod enc Tryz.prog W 0 (fun _ => true) true n 3 [x2] = some y2 := by
        have q : DataW.trod enc Tryz.prog W 0 (fun _ => true) true n 3 (([x0, x1, x2, x3, x4, x5].drop 2).take (Tryz.prog.cellsOf 3)) = some y2 := hel 2 _ rfl
        rw [c3] at q
        exact q
      have f3 : DataW.trod enc Tryz.prog W 0 (fun _ => true) true n 3 [x3] = some y3 := by
        have q : DataW.trod enc Tryz.prog W 0 (fun _ => true) true n 3 (([x0, x1, x2, x3, x4, x5].drop 3).take (Tryz.prog.cellsOf 3)) = some y3 := hel 3 _ rfl
        rw [c3] at q
        exact q
      have f4 : DataW.trod enc Tryz.prog W 0 (fun _ => true) true n 3 [x4] = some y4 := by
        have q : DataW.trod enc Tryz.prog W 0 (fun _ => true) true n 3 (([x0, x1, x2, x3, x4, x5].drop 4).take (Tryz.prog.cellsOf 3)) = some y4 := hel 4 _ rfl
        rw [c3] at q
        exact q
      have f5 : DataW.trod enc Tryz.prog W 0 (fun _ => true) true n 9 [x5] = some y5 := by
        have q : DataW.trod enc Tryz.prog W 0 (fun _ => true) true n 9 (([x0, x1, x2, x3, x4, x5].drop 5).take (Tryz.prog.cellsOf 9)) = some y5 := hel 5 _ rfl
        rw [c9] at q
        exact q
      obtain ⟨a0, e0, _⟩ := DataW.trod_int Tryz.underlying3 f0
      obtain ⟨a1, e1, _⟩ := DataW.trod_string Tryz.underlying9 f1
      obtain ⟨a2, e2, _⟩ := DataW.trod_int Tryz.underlying3 f2
      obtain ⟨a3, e3, _⟩ := DataW.trod_int Tryz.underlying3 f3
      obtain ⟨a4, e4, _⟩ := DataW.trod_int Tryz.underlying3 f4
      obtain ⟨a5, e5, _⟩ := DataW.trod_string Tryz.underlying9 f5
      simp only [List.cons.injEq, and_true] at e0 e1 e2 e3 e4 e5
      subst e0 e1 e2 e3 e4 e5
      simp only [Rep]
      refine ⟨_, rfl, ?_⟩
      simp only [RepL, Rep]
      exact ⟨_, _, rfl, rfl, _, _, rfl, rfl, _, _, rfl, rfl, _, _, rfl, rfl, _, _, rfl, rfl, _, _, rfl, rfl, rfl⟩

set_option maxRecDepth 100000 in
theorem arg25 {W : World} {v : Value} {base : Nat} {H : Type} {enc : TypeId × Value → H} {d : DataW H} {p : List MemPlace} (hv : Value.okWide Tryz.prog W .any base 25 v) (h : DataW.Trod enc Tryz.prog W 0 (fun _ => true) true 25 v d p) :
    Rep (σW W) (.agg [.any, .any]) v := by
  obtain ⟨cs, rfl, hsz⟩ := okWide_struct Tryz.underlying25 hv
  obtain ⟨fuel, hf⟩ := h
  obtain ⟨xs, n, rfl, _, hl, hxs, hel⟩ := DataW.trod_struct Tryz.underlying25 hf
  have ct : Tryz.prog.cellsOf 25 = 2 := by kernel_rfl
  have c9 : Tryz.prog.cellsOf 9 = 1 := by kernel_rfl
  obtain ⟨ls⟩ := cs
  simp only [Value.cells] at hl hel
  rw [ct] at hl
  match ls, hl with
  | [x0, x1], _ =>
    match xs, hxs with
    | [y0, y1], _ =>
      have f0 : DataW.trod enc Tryz.prog W 0 (fun _ => true) true n 9 [x0] = some y0 := by
        have q : DataW.trod enc Tryz.prog W 0 (fun _ => true) true n 9 (([x0, x1].drop 0).take (Tryz.prog.cellsOf 9)) = some y0 := hel 0 _ rfl
        rw [c9] at q
        exact q
      have f1 : DataW.trod enc Tryz.prog W 0 (fun _ => true) true n 9 [x1] = some y1 := by
        have q : DataW.trod enc Tryz.prog W 0 (fun _ => true) true n 9 (([x0, x1].drop 1).take (Tryz.prog.cellsOf 9)) = some y1 := hel 1 _ rfl
        rw [c9] at q
        exact q
      obtain ⟨a0, e0, _⟩ := DataW.trod_string Tryz.underlying9 f0
      obtain ⟨a1, e1, _⟩ := DataW.trod_string Tryz.underlying9 f1
      simp only [List.cons.injEq, and_true] at e0 e1
      subst e0 e1
      simp only [Rep]
      refine ⟨_, rfl, ?_⟩
      simp only [RepL, Rep]
      exact ⟨_, _, rfl, rfl, _, _, rfl, rfl, rfl⟩

set_option maxRecDepth 100000 in
theorem arg27 {W : World} {v : Value} {base : Nat} {H : Type} {enc : TypeId × Value → H} {d : DataW H} {p : List MemPlace} (hv : Value.okWide Tryz.prog W .any base 27 v) (h : DataW.Trod enc Tryz.prog W 0 (fun _ => true) true 27 v d p) :
    Rep (σW W) (.agg [.any, .any, .any, .any, .any]) v := by
  obtain ⟨cs, rfl, hsz⟩ := okWide_struct Tryz.underlying27 hv
  obtain ⟨fuel, hf⟩ := h
  obtain ⟨xs, n, rfl, _, hl, hxs, hel⟩ := DataW.trod_struct Tryz.underlying27 hf
  have ct : Tryz.prog.cellsOf 27 = 5 := by kernel_rfl
  have c3 : Tryz.prog.cellsOf 3 = 1 := by kernel_rfl
  have c9 : Tryz.prog.cellsOf 9 = 1 := by kernel_rfl
  obtain ⟨ls⟩ := cs
  simp only [Value.cells] at hl hel
  rw [ct] at hl
  match ls, hl with
  | [x0, x1, x2, x3, x4], _ =>
    match xs, hxs with
    | [y0, y1, y2, y3, y4], _ =>
      have f0 : DataW.trod enc Tryz.prog W 0 (fun _ => true) true n 3 [x0] = some y0 := by
        have q : DataW.trod enc Tryz.prog W 0 (fun _ => true) true n 3 (([x0, x1, x2, x3, x4].drop 0).take (Tryz.prog.cellsOf 3)) = some y0 := hel 0 _ rfl
        rw [c3] at q
        exact q
      have f1 : DataW.trod enc Tryz.prog W 0 (fun _ => true) true n 9 [x1] = some y1 := by
        have q : DataW.trod enc Tryz.prog W 0 (fun _ => true) true n 9 (([x0, x1, x2, x3, x4].drop 1).take (Tryz.prog.cellsOf 9)) = some y1 := hel 1 _ rfl
        rw [c9] at q
        exact q
      have f2 : DataW.trod enc Tryz.prog W 0 (fun _ => true) true n 3 [x2] = some y2 := by
        have q : DataW.trod enc Tryz.prog W 0 (fun _ => true) true n 3 (([x0, x1, x2, x3, x4].drop 2).take (Tryz.prog.cellsOf 3)) = some y2 := hel 2 _ rfl
        rw [c3] at q
        exact q
      have f3 : DataW.trod enc Tryz.prog W 0 (fun _ => true) true n 3 [x3] = some y3 := by
        have q : DataW.trod enc Tryz.prog W 0 (fun _ => true) true n 3 (([x0, x1, x2, x3, x4].drop 3).take (Tryz.prog.cellsOf 3)) = some y3 := hel 3 _ rfl
        rw [c3] at q
        exact q
      have f4 : DataW.trod enc Tryz.prog W 0 (fun _ => true) true n 9 [x4] = some y4 := by
        have q : DataW.trod enc Tryz.prog W 0 (fun _ => true) true n 9 (([x0, x1, x2, x3, x4].drop 4).take (Tryz.prog.cellsOf 9)) = some y4 := hel 4 _ rfl
        rw [c9] at q
        exact q
      obtain ⟨a0, e0, _⟩ := DataW.trod_int Tryz.underlying3 f0
      obtain ⟨a1, e1, _⟩ := DataW.trod_string Tryz.underlying9 f1
      obtain ⟨a2, e2, _⟩ := DataW.trod_int Tryz.underlying3 f2
      obtain ⟨a3, e3, _⟩ := DataW.trod_int Tryz.underlying3 f3
      obtain ⟨a4, e4, _⟩ := DataW.trod_string Tryz.underlying9 f4
      simp only [List.cons.injEq, and_true] at e0 e1 e2 e3 e4
      subst e0 e1 e2 e3 e4
      simp only [Rep]
      refine ⟨_, rfl, ?_⟩
      simp only [RepL, Rep]
      exact ⟨_, _, rfl, rfl, _, _, rfl, rfl, _, _, rfl, rfl, _, _, rfl, rfl, _, _, rfl, rfl, rfl⟩

theorem walk3 {u v x : Value} (W : World) (hb : Base Tryz.prog (· < W.heap.size) W) (h1 : Rep (σW W) (.agg [.any, .any, .any, .any, .any, .any]) u) (h2 : Rep (σW W) (.agg [.any, .any]) v) (h3 : Rep (σW W) (.agg [.any, .any, .any, .any, .any]) x) :
    Calls Tryz.prog 3 #[u, v, x] W fun e w' => e = .returned (.bool true) ∧ Below W.heap.size W w' :=
  calls_true' envTOk (us := [u, v, x]) W (by simp only [RepL]; exact ⟨_, _, rfl, h1, _, _, rfl, h2, _, _, rfl, h3, rfl⟩)
    (closed_mono (fun f args H r hr => run_iff.2 ⟨200, hr⟩) law_T) hb

end Go.Proofs.YtihaollnndekkaaGreatDoor
