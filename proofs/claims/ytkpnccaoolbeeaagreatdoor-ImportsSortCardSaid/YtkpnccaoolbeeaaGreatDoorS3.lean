/- ImportsSort: the argument read; from the machine to the model's call. -/
import Derived.Test.YtkpnccaoolbeeaaGreatDoorSc
import Derived.Test.YtkpnccaoolbeeaaGreatDoorS2
import Derived.Test.YtkpnccaoolbeeaaGreatDoorQ7
import Derived.WalkKit
import Derived.ProofKit
import Derived.OpenShut
import Derived.Below
namespace Go.Proofs.YtkpnccaoolbeeaaGreatDoor
open Go Go.Ab
open Go.ChangeShapes Go.WideShapes Go.ChangeAt Go.RowKit
set_option linter.unusedVariables false
set_option maxRecDepth 100000

theorem env2Ok : EnvOk env2 where
  mixed := mixed
  good := fun f hf => okF_good (List.all_eq_true.1 all_ok2 f (List.contains_iff_mem.1 hf))
  ext := orX_ok awakeX_ok sortT_ok

/-- All that may be read is known. -/
def σW (W : World) : St := { cells := fun b o => match W.cell? ⟨b, o, none⟩ with | some v => if v.oneCell' = true then some v else none | none => none, loc := fun _ => none, own := fun _ _ => none }
theorem σW_cell {W : World} {b o : Nat} {v : Value} (h : W.cell? ⟨b, o, none⟩ = some v) (h1 : v.oneCell' = true) : (σW W).cells b o = some v := by simp [σW, h, h1]

theorem calls_true' {E : Env} (hE : EnvOk E) {f : FuncId} {args : List AV} {us : List Value} (w : World) (hr : RepL (σW w) args us) (h : closedCall E.P (run E) f args = some (.bool true)) (hb : Base E.P (· < w.heap.size) w) :
    Calls E.P f us.toArray w fun e w' => e = .returned (.bool true) ∧ Below w.heap.size w w' := by
  have k1 : ∀ b o v, (σW w).cells b o = some v → w.cell? ⟨b, o, none⟩ = some v := by
    intro b o v hv
    simp only [σW] at hv
    split at hv
    · rename_i x hx
      split at hv
      · cases hv; exact hx
      · cases hv
    · cases hv
  have k2 : ∀ b o v, (σW w).cells b o = some v → v.oneCell' = true := by
    intro b o v hv
    simp only [σW] at hv
    split at hv
    · split at hv
      · rename_i h1; cases hv; exact h1
      · cases hv
    · cases hv
  have hs : Sim E.P (· < w.heap.size) w .empty (σW w) w :=
    ⟨BelowS.refl _ _, hb, k1, k2, fun _ _ => ⟨rfl, fun _ => rfl⟩, fun id x hx => by simp [AHeap.get, AHeap.empty] at hx, fun id x hx => by simp [AHeap.get, AHeap.empty] at hx,
      fun id id' x x' hx => by simp [AHeap.get, AHeap.empty] at hx⟩
  refine (closed_sound hs (run_sound hE) hr h).2.mono ?_
  rintro e w' ⟨u, rfl, σ1, hext, hsim, hrep⟩
  simp only [Rep] at hrep
  subst hrep
  exact ⟨rfl, hsim.below.os, hsim.below.tape, hsim.below.output, hsim.below.size, hsim.below.block⟩

theorem rowI_rep {σ : St} {b : Nat} : ∀ (l : List Im) (off : Nat), (∀ j x, l[j]? = some x → σ.cells b (off + j * 3) = some (.string ⟨x.1.toArray⟩) ∧ σ.cells b (off + j * 3 + 1) = some (.string ⟨x.2.1.toArray⟩) ∧ σ.cells b (off + j * 3 + 2) = some (.bool x.2.2)) → RepRow σ b 3 off (V l)
  | [], _, _ => by simp [V, RepRow]
  | x :: l, off, h => by
    show RepRow σ b 3 off (.agg (encI x) :: V l)
    simp only [RepRow]
    refine ⟨⟨.agg #[.string ⟨x.1.toArray⟩, .string ⟨x.2.1.toArray⟩, .bool x.2.2], by simp [Rep, RepL, encI], rfl, fun j v hj => ?_⟩, rowI_rep l (off + 3) fun j y hj => ?_⟩
    · obtain ⟨h0, h1, h2⟩ := h 0 x rfl
      simp only [Nat.zero_mul, Nat.add_zero] at h0 h1 h2
      match j, hj with
      | 0, hj => simp [Value.cells] at hj; subst hj; exact h0
      | 1, hj => simp [Value.cells] at hj; subst hj; exact h1
      | 2, hj => simp [Value.cells] at hj; subst hj; exact h2
      | j + 3, hj => simp [Value.cells] at hj
    · have := h (j + 1) y (by simpa using hj)
      rw [show off + (j + 1) * 3 = off + 3 + j * 3 by omega] at this
      exact this

theorem elem_cells {W : World} {base : Nat} {a : Addr} {H : Type} {enc : TypeId × Value → H} {n : Nat} {y : DataW H × List MemPlace} (h : (W.cells? base a (Tryz.prog.cellsOf 26)).bind (DataW.trod enc Tryz.prog W base (fun _ => true) true n 26) = some y) :
    ∃ x : Im, W.cell? (a.add 0) = some (.string ⟨x.1.toArray⟩) ∧ W.cell? (a.add 1) = some (.string ⟨x.2.1.toArray⟩) ∧ W.cell? (a.add 2) = some (.bool x.2.2) := by
  have ct : Tryz.prog.cellsOf 26 = 3 := by kernel_rfl
  have c4 : Tryz.prog.cellsOf 4 = 1 := by kernel_rfl
  have c9 : Tryz.prog.cellsOf 9 = 1 := by kernel_rfl
  rw [ct, Option.bind_eq_some_iff] at h
  obtain ⟨cs, hcs, hy⟩ := h
  obtain ⟨hb, hl, hc⟩ := World.cells?_some hcs
  obtain ⟨xs, m, rfl, _, _, hxs, hel⟩ := DataW.trod_struct Tryz.underlying26 hy
  match cs, hl with
  | [x0, x1, x2], _ =>
    match xs, hxs with
    | [y0, y1, y2], _ =>
      have f0 : DataW.trod enc Tryz.prog W base (fun _ => true) true m 9 [x0] = some y0 := by
        have q : DataW.trod enc Tryz.prog W base (fun _ => true) true m 9 (([x0, x1, x2].drop 0).take (Tryz.prog.cellsOf 9)) = some y0 := hel 0 _ rfl
        rw [c9] at q
        exact q
      have f1 : DataW.trod enc Tryz.prog W base (fun _ => true) true m 9 [x1] = some y1 := by
        have q : DataW.trod enc Tryz.prog W base (fun _ => true) true m 9 (([x0, x1, x2].drop 1).take (Tryz.prog.cellsOf 9)) = some y1 := hel 1 _ rfl
        rw [c9] at q
        exact q
      have f2 : DataW.trod enc Tryz.prog W base (fun _ => true) true m 4 [x2] = some y2 := by
        have q : DataW.trod enc Tryz.prog W base (fun _ => true) true m 4 (([x0, x1, x2].drop 2).take (Tryz.prog.cellsOf 4)) = some y2 := hel 2 _ rfl
        rw [c4] at q
        exact q
      obtain ⟨s0, e0, _, _⟩ := DataW.trod_string Tryz.underlying9 f0
      obtain ⟨s1, e1, _, _⟩ := DataW.trod_string Tryz.underlying9 f1
      obtain ⟨b2, e2, _⟩ := DataW.trod_bool Tryz.underlying4 f2
      simp only [List.cons.injEq, and_true] at e0 e1 e2
      subst e0 e1 e2
      exact ⟨(s0.data.toList, s1.data.toList, b2), hc 0 (by omega), hc 1 (by omega), hc 2 (by omega)⟩

/-- The argument: nil, or empty, or imports. -/
theorem arg22 {W : World} {v : Value} {base : Nat} {H : Type} {enc : TypeId × Value → H} {d : DataW H} {p : List MemPlace} (hv : Value.okWide Tryz.prog W .any base 22 v) (h : DataW.Trod enc Tryz.prog W 0 (fun _ => true) true 22 v d p) :
    ∃ r, RepL (σW W) [r] [v] ∧ closedCall Tryz.prog (run env2) 3 [r] = some (.bool true) := by
  obtain ⟨fuel, hf⟩ := h
  obtain ⟨a0, len0, cap0, rfl⟩ := okWide_slice Tryz.underlying22 hv
  rcases DataW.trod_slice Tryz.underlying22 hf with ⟨hcs, _⟩ | ⟨a, len, cap, elems, rest, n, _, hcs, _, hb, hl, hm, hlen, hel, _, _⟩
  · simp only [Value.cells, List.cons.injEq, Value.slice.injEq, and_true] at hcs
    obtain ⟨rfl, rfl, rfl⟩ := hcs
    exact ⟨.vec .nil [], by simp [RepL, Rep, OwnOk], law_nil⟩
  · simp only [Value.cells, List.cons.injEq, Value.slice.injEq, and_true] at hcs
    obtain ⟨rfl, rfl, rfl⟩ := hcs
    by_cases h0 : len0 = 0
    · subst h0
      exact ⟨.val (.slice (some a) 0 cap0), by simp [RepL, Rep], law_es a cap0⟩
    · have ct : Tryz.prog.cellsOf 26 = 3 := by kernel_rfl
      have each : ∀ i, i < len0 → ∃ x : Im, W.cell? ((a.add (i * 3)).add 0) = some (.string ⟨x.1.toArray⟩) ∧ W.cell? ((a.add (i * 3)).add 1) = some (.string ⟨x.2.1.toArray⟩) ∧ W.cell? ((a.add (i * 3)).add 2) = some (.bool x.2.2) := by
        intro i hi
        have q := hel i hi
        rw [List.getElem?_eq_getElem (by omega)] at q
        rw [ct] at q
        have q2 := elem_cells (a := a.add (i * 3)) (by rw [ct]; exact q)
        exact q2
      obtain ⟨b, off, sp⟩ := a
      have hsp : sp = none := by
        obtain ⟨x, hx, _⟩ := each 0 (by omega)
        cases sp with
        | none => rfl
        | some s =>
          exfalso
          simp only [Nat.zero_mul, Addr.add, if_true, World.cell?] at hx
          split at hx <;> simp at hx
      subst hsp
      have each2 : ∀ i, i < len0 → ∃ x : Im, W.cell? ⟨b, off + i * 3, none⟩ = some (.string ⟨x.1.toArray⟩) ∧ W.cell? ⟨b, off + i * 3 + 1, none⟩ = some (.string ⟨x.2.1.toArray⟩) ∧ W.cell? ⟨b, off + i * 3 + 2, none⟩ = some (.bool x.2.2) := by
        intro i hi
        obtain ⟨x, q0, q1, q2⟩ := each i hi
        simp only [Addr.add_mk, Nat.add_zero] at q0 q1 q2
        exact ⟨x, q0, q1, q2⟩
      let f : Nat → Im := fun i => if h : i < len0 then Classical.choose (each2 i h) else ([], [], false)
      have hf2 : ∀ i, i < len0 → W.cell? ⟨b, off + i * 3, none⟩ = some (.string ⟨(f i).1.toArray⟩) ∧ W.cell? ⟨b, off + i * 3 + 1, none⟩ = some (.string ⟨(f i).2.1.toArray⟩) ∧ W.cell? ⟨b, off + i * 3 + 2, none⟩ = some (.bool (f i).2.2) := by
        intro i hi
        have q := Classical.choose_spec (each2 i hi)
        simp only [f, hi, dite_true]
        exact q
      let l : List Im := (List.range len0).map f
      have hll : l.length = len0 := by simp [l]
      have hrep : RepL (σW W) [.vec .ro (V l)] [.slice (some ⟨b, off, none⟩) len0 cap0] := by
        simp only [RepL, Rep]
        refine ⟨_, _, rfl, ⟨some ⟨b, off, none⟩, cap0, by rw [V_len, hll], by rw [V_len, hll]; exact hl, trivial, .inr ⟨b, off, 3, rfl, rowI_rep l off fun j x hj => ?_⟩⟩, rfl⟩
        have hjl : j < len0 := by rw [← hll]; exact (List.getElem?_eq_some_iff.1 hj).1
        have : x = f j := by
          simp only [l, List.getElem?_map, List.getElem?_range hjl, Option.map_some, Option.some.injEq] at hj
          exact hj.symm
        subst this
        obtain ⟨q0, q1, q2⟩ := hf2 j hjl
        exact ⟨σW_cell q0 rfl, σW_cell q1 rfl, σW_cell q2 rfl⟩
      have hne : l ≠ [] := by intro e; rw [e] at hll; simp at hll; omega
      by_cases hn : l.length ≤ 100
      · exact ⟨_, hrep, law_ne hne hn⟩
      · exact ⟨_, hrep, law_gt (by omega)⟩
end Go.Proofs.YtkpnccaoolbeeaaGreatDoor
