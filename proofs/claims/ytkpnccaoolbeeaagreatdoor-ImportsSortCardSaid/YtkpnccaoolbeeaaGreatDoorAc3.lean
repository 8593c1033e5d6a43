/- The abstract memory against the world; each pure operation does in the model what it does here. -/
import Derived.Test.YtkpnccaoolbeeaaGreatDoorAc2
import Derived.Lib.FieldsLaws
namespace Go.Ab
set_option linter.unusedVariables false
open Go Go.RowKit

def blk (σ : St) (id : Nat) : AObj → Option Nat
  | .cells _ _ => σ.loc id
  | .tip n _ => (σ.own id n).map (·.1)
  | .row _ _ _ _ => σ.loc id
  | .map _ _ => σ.loc id

/-- A map's entries against the model's. -/
def RepE (σ : St) : List (AV × AV × Nat) → List MapEntry → Prop
  | [], ms => ms = []
  | (k, v, b) :: es, ms => ∃ m ms', ms = m :: ms' ∧ Rep σ k m.key ∧ Rep σ v m.val ∧ m.born = b ∧ RepE σ es ms'

theorem RepE.mono {σ σ' : St} (h : σ.le σ') : ∀ {es : List (AV × AV × Nat)} {ms : List MapEntry}, RepE σ es ms → RepE σ' es ms
  | [], _, k => by simpa [RepE] using k
  | (k, v, b) :: es, ms, q => by
    simp only [RepE] at q ⊢
    obtain ⟨m, ms', e, r1, r2, r3, r4⟩ := q
    exact ⟨m, ms', e, r1.mono h, r2.mono h, r3, r4.mono h⟩

/-- The blocks that are B stay as they are, whatever else comes. -/
structure BelowS (B : Nat → Prop) (w w' : World) : Prop where
  os : w'.os = w.os
  tape : w'.tape = w.tape
  output : w'.output = w.output
  size : w.heap.size ≤ w'.heap.size
  block : ∀ k, B k → w'.heap[k]? = w.heap[k]?

theorem BelowS.refl (B : Nat → Prop) (w : World) : BelowS B w w := ⟨rfl, rfl, rfl, Nat.le_refl _, fun _ _ => rfl⟩
theorem BelowS.trans {B : Nat → Prop} {a b c : World} (h : BelowS B a b) (k : BelowS B b c) : BelowS B a c :=
  ⟨k.os.trans h.os, k.tape.trans h.tape, k.output.trans h.output, Nat.le_trans h.size k.size, fun i hi => (k.block i hi).trans (h.block i hi)⟩
theorem BelowS.mono {A B : Nat → Prop} {w w' : World} (h : BelowS B w w') (k : ∀ i, A i → B i) : BelowS A w w' := ⟨h.os, h.tape, h.output, h.size, fun i hi => h.block i (k i hi)⟩
theorem BelowS.of {B : Nat → Prop} {n : Nat} {w w' : World} (h : Below n w w') (k : ∀ i, B i → i < n) : BelowS B w w' := ⟨h.os, h.tape, h.output, h.size, fun i hi => h.block i (k i hi)⟩
theorem BelowS.alloc {B : Nat → Prop} {a w : World} (h : BelowS B a w) (k : ∀ i, B i → i < w.heap.size) (o : Obj) : BelowS B a (w.alloc o) :=
  h.trans ⟨rfl, rfl, rfl, by show w.heap.size ≤ (w.heap.push o).size; simp, fun i hi => Below.heap_alloc w o i (k i hi)⟩
theorem BelowS.drew {B : Nat → Prop} {a w : World} (h : BelowS B a w) : BelowS B a w.drew := h.trans ⟨rfl, rfl, rfl, Nat.le_refl _, fun _ _ => rfl⟩

def ObjOk (P : Program) (B : Nat → Prop) (σ : St) (w : World) (id : Nat) : AObj → Prop
  | .cells te cs => ∃ b c e, σ.loc id = some b ∧ ¬ B b ∧ w.heap[b]? = some (.cells c e (0, 0)) ∧ RepL σ cs c.toList ∧ (∀ o, σ.cells b o = none) ∧ ∀ t, te = some t → e = t
  | .tip n et => ∃ b cap c s, σ.own id n = some (b, cap) ∧ ¬ B b ∧ w.heap[b]? = some (.cells c et (0, 0)) ∧ szQ P et = some s ∧ c.size = cap * s ∧ n ≤ cap ∧ cap ≤ maxLen ∧ (∀ o, n * s ≤ o → σ.cells b o = none) ∧
      ∀ m, n < m → σ.own id m = none
  | .row n et s cs => ∃ b cap c, σ.loc id = some b ∧ σ.own id 0 = some (b, cap) ∧ ¬ B b ∧ w.heap[b]? = some (.cells c et (0, 0)) ∧ szQ P et = some s ∧ s ≠ 0 ∧ c.size = cap * s ∧ n ≤ cap ∧ cap ≤ maxLen ∧
      cs.length = n * s ∧ RepL σ cs (c.toList.take (n * s)) ∧ (∀ v ∈ c.toList.take (n * s), v.oneCell' = true) ∧ ∀ o, σ.cells b o = none
  | .map es clock => ∃ b ms, σ.loc id = some b ∧ ¬ B b ∧ w.heap[b]? = some (.map ms clock) ∧ RepE σ es ms.toList ∧ ∀ o, σ.cells b o = none

/-- The caller's blocks: they are there, and the library's table of blanks is one of them. -/
structure Base (P : Program) (B : Nat → Prop) (W0 : World) : Prop where
  lt : ∀ k, B k → k < W0.heap.size
  tab : ∀ g, P.globalNamed "strings.asciiSpace" = some g → B g ∧ ∀ c : Nat, c < 256 → W0.cell? ⟨g, c, none⟩ = some (.int .u8 (if Lib.isSp (UInt8.ofNat c) then 1 else 0))

structure Sim (P : Program) (B : Nat → Prop) (W0 : World) (H : AHeap) (σ : St) (w : World) : Prop where
  below : BelowS B W0 w
  base : Base P B W0
  cells : ∀ b o v, σ.cells b o = some v → w.cell? ⟨b, o, none⟩ = some v
  one : ∀ b o v, σ.cells b o = some v → v.oneCell' = true
  fresh : ∀ id, H.next ≤ id → σ.loc id = none ∧ ∀ n, σ.own id n = none
  keys : ∀ id x, H.get id = some x → id < H.next
  obj : ∀ id x, H.get id = some x → ObjOk P B σ w id x
  inj : ∀ id id' x x', H.get id = some x → H.get id' = some x' → blk σ id x = blk σ id' x' → id = id'

/-- More is known than before; of the blocks that are B nothing more. -/
structure Ext (B : Nat → Prop) (σ σ' : St) : Prop where
  le : σ.le σ'
  old : ∀ b o, B b → σ'.cells b o = σ.cells b o

theorem Ext.refl (B : Nat → Prop) (σ : St) : Ext B σ σ := ⟨σ.le_refl, fun _ _ _ => rfl⟩
theorem Ext.trans {B : Nat → Prop} {a b c : St} (h : Ext B a b) (k : Ext B b c) : Ext B a c := ⟨St.le_trans h.le k.le, fun x o hx => (k.old x o hx).trans (h.old x o hx)⟩

theorem RepCells.get {σ : St} {b : Nat} : ∀ {off : Nat} {cs : List AV}, RepCells σ b off cs → ∀ j c, cs[j]? = some c → ∃ u, σ.cells b (off + j) = some u ∧ Rep σ c u
  | _, [], _, j, c, e => by simp at e
  | off, d :: ds, h, j, c, e => by
    simp only [RepCells] at h
    cases j with
    | zero => simp at e; subst e; simpa using h.1
    | succ j =>
      simp at e
      have := RepCells.get h.2 j c e
      simpa [Nat.add_assoc, Nat.add_comm 1 j] using this

theorem RepCells.list {σ : St} {b : Nat} : ∀ {off : Nat} {cs : List AV}, RepCells σ b off cs → ∃ us : List Value, RepL σ cs us ∧ ∀ j v, us[j]? = some v → σ.cells b (off + j) = some v
  | _, [], _ => ⟨[], by simp [RepL], by simp⟩
  | off, d :: ds, h => by
    simp only [RepCells] at h
    obtain ⟨⟨u, e, r⟩, q⟩ := h
    obtain ⟨us, hr, hc⟩ := RepCells.list q
    refine ⟨u :: us, RepL.cons_iff.2 ⟨u, us, rfl, r, hr⟩, ?_⟩
    intro j v hj
    cases j with
    | zero => simp at hj; subst hj; simpa using e
    | succ j => simp at hj; have := hc j v hj; simpa [Nat.add_assoc, Nat.add_comm 1 j] using this

theorem RepCells.of_list {σ : St} {b : Nat} : ∀ {off : Nat} {cs : List AV} {us : List Value}, RepL σ cs us → (∀ j v, us[j]? = some v → σ.cells b (off + j) = some v) → RepCells σ b off cs
  | _, [], _, _, _ => by simp [RepCells]
  | off, d :: ds, us, h, hc => by
    rw [RepL.cons_iff] at h
    obtain ⟨u, us', rfl, r, q⟩ := h
    simp only [RepCells]
    refine ⟨⟨u, by simpa using hc 0 u (by simp), r⟩, RepCells.of_list q ?_⟩
    intro j v hj
    have := hc (j + 1) v (by simpa using hj)
    simpa [Nat.add_assoc, Nat.add_comm 1 j] using this

theorem RepCells.drop {σ : St} {b : Nat} : ∀ {off : Nat} {cs : List AV} (n : Nat), RepCells σ b off cs → RepCells σ b (off + n) (cs.drop n)
  | _, [], n, _ => by simp [RepCells]
  | off, d :: ds, n, h => by
    cases n with
    | zero => simpa using h
    | succ n =>
      simp only [RepCells] at h
      have := RepCells.drop n h.2
      simpa [Nat.add_assoc, Nat.add_comm 1 n] using this

theorem RepRow.get {σ : St} {b s : Nat} : ∀ {off : Nat} {es : List AV}, RepRow σ b s off es → ∀ i e, es[i]? = some e →
    ∃ u, Rep σ e u ∧ u.cells.size = s ∧ ∀ j v, u.cells[j]? = some v → σ.cells b (off + i * s + j) = some v
  | _, [], _, i, e, h => by simp at h
  | off, d :: ds, h, i, e, he => by
    simp only [RepRow] at h
    cases i with
    | zero => simp at he; subst he; simpa using h.1
    | succ i =>
      simp at he
      obtain ⟨u, r, hs, hc⟩ := RepRow.get h.2 i e he
      refine ⟨u, r, hs, fun j v hj => ?_⟩
      have := hc j v hj
      rwa [show off + (i + 1) * s + j = off + s + i * s + j from by rw [Nat.add_mul]; omega]

theorem Rep.width {σ : St} {a : AV} {u : Value} (h : Rep σ a u) {n : Nat} (hw : a.width = some n) : u.cells.size = n := by
  have hl := (Rep.cells h (by rw [hw]; simp)).length
  have : a.cells.length = n := by
    cases a with
    | val v => simp only [AV.width] at hw; split at hw <;> simp at hw; subst hw; rfl
    | _ => simp [AV.width] at hw <;> subst hw <;> rfl
  simpa [this] using hl

section
variable {P : Program} {σ : St} {w : World}

theorem cell_of_row {b : Nat} {c : Array Value} {e : TypeId} {z : Nat × Nat} (h : w.heap[b]? = some (.cells c e z)) (o : Nat) : w.cell? ⟨b, o, none⟩ = c[o]? := by
  simp [World.cell?, h]

/-- A variable is read whose cells are known. -/
theorem run_loadVar {t : TypeId} {b off : Nat} {us : List Value} (hc : ∀ j v, us[j]? = some v → w.cell? ⟨b, off + j, none⟩ = some v)
    {cs : List AV} (hr : RepL σ cs us) {d : Nat} {v : AV} (h : ldA P t cs d = some v) :
    ∃ u, (loadVar t ⟨b, off + d, none⟩).run P w = .ok u w ∧ Rep σ v u := by
  unfold ldA at h
  have hl := hr.length
  cases ha : aggQ P t with
  | none => simp [ha] at h
  | some g =>
    have hu : ∃ dsc, P.underlying t = some dsc ∧ isAggD dsc = g := by
      unfold aggQ at ha
      cases hd : P.underlying t with
      | none => simp [hd] at ha
      | some dsc => exact ⟨dsc, rfl, by simpa [hd] using ha⟩
    obtain ⟨dsc, hd, hg⟩ := hu
    have hagg : (isAgg t).run P w = .ok g w := by
      unfold isAgg
      simp only [Sem.run_bind, underlying, run_program, Result.andThen_ok, hd, Sem.run_pure]
      cases dsc <;> simp [isAggD] at hg <;> subst hg <;> rfl
    cases g with
    | false =>
      simp only [ha] at h
      obtain ⟨u, hu, ru⟩ := hr.get h
      refine ⟨u, ?_, ru⟩
      simp [loadVar, hagg, hc d u hu]
    | true =>
      simp only [ha] at h
      cases hn : szQ P t with
      | none => simp [hn] at h
      | some n =>
        simp only [hn] at h
        split at h
        · rename_i hle
          simp only [Option.some.injEq] at h
          subst h
          have hsz : (sizeOf t).run P w = .ok n w := by
            unfold szQ at hn
            cases hi : P.info? t with
            | none => simp [hi] at hn
            | some i => simp [hi] at hn; simp [sizeOf, typeInfo, hi, hn]
          refine ⟨.agg ((us.drop d).take n).toArray, ?_, ?_⟩
          · have hlen : ((us.drop d).take n).length = n := by simp; omega
            have := run_loadCells_list (P := P) (w := w) ⟨b, off + d, none⟩ ((us.drop d).take n) (by
              intro j v hj
              have hjn : j < n := by
                rcases Nat.lt_or_ge j n with h' | h'
                · exact h'
                · rw [List.getElem?_eq_none (by omega)] at hj; cases hj
              rw [List.getElem?_take_of_lt hjn, List.getElem?_drop] at hj
              have := hc (d + j) v hj
              by_cases hj0 : j = 0
              · subst hj0; simpa [Addr.add] using this
              · simpa [Addr.add, hj0, Nat.add_assoc] using this)
            rw [hlen] at this
            simp [loadVar, hagg, hsz, this]
          · simp only [Rep]
            exact ⟨_, rfl, (hr.drop d).take n⟩
        · cases h

end
end Go.Ab
