/- Calls; each operation against the model. -/
import Derived.Test.YtkpnccaoolbeeaaGreatDoorAc11
import Derived.Laws.IdiomStrings
namespace Go.Ab
set_option linter.unusedVariables false
open Go Go.RowKit

mutual
theorem Rep.noPtr {σ σ' : St} (hc : ∀ b o v, σ.cells b o = some v → σ'.cells b o = some v) : ∀ (a : AV) (u : Value), a.noPtr = true → Rep σ a u → Rep σ' a u
  | .junk, _, _, _ => by simp [Rep]
  | .any, _, _, k => by simpa [Rep] using k
  | .int _ _, _, _, k => by simpa [Rep] using k
  | .bool _, _, _, k => by simpa [Rep] using k
  | .str _, _, _, k => by simpa [Rep] using k
  | .agg cs, _, n, k => by
    simp only [AV.noPtr] at n
    simp only [Rep] at k ⊢
    obtain ⟨us, e, r⟩ := k
    exact ⟨us, e, RepL.noPtr hc cs us n r⟩
  | .tup cs, _, n, k => by
    simp only [AV.noPtr] at n
    simp only [Rep] at k ⊢
    obtain ⟨us, e, r⟩ := k
    exact ⟨us, e, RepL.noPtr hc cs us n r⟩
  | .vec o es, _, n, k => by
    simp only [AV.noPtr, Bool.and_eq_true] at n
    simp only [Rep] at k ⊢
    obtain ⟨a, cap, e, hl, ho, r⟩ := k
    refine ⟨a, cap, e, hl, ?_, r.imp id ?_⟩
    · cases o with
      | own k => simp at n
      | _ => exact ho
    · rintro ⟨b, off, s, ea, r⟩
      exact ⟨b, off, s, ea, RepRow.noPtr hc b s off es n.2 r⟩
  | .ptr _ _, _, n, _ => by simp [AV.noPtr] at n
  | .rptr cs, _, n, k => by
    simp only [AV.noPtr] at n
    simp only [Rep] at k ⊢
    obtain ⟨b, off, e, r⟩ := k
    exact ⟨b, off, e, RepCells.noPtr hc b off cs n r⟩
  | .fn _ first cap, _, n, k => by
    simp only [AV.noPtr, Bool.and_eq_true] at n
    simp only [Rep] at k ⊢
    obtain ⟨us, vs, e, r, q⟩ := k
    exact ⟨us, vs, e, RepL.noPtr hc first us n.1 r, RepL.noPtr hc cap vs n.2 q⟩
  | .iface _ v, _, n, k => by
    simp only [AV.noPtr] at n
    simp only [Rep] at k ⊢
    obtain ⟨x, e, r⟩ := k
    exact ⟨x, e, Rep.noPtr hc v x n r⟩
  | .val _, _, _, k => by simpa [Rep] using k
  | .sl _ _ _ _, _, n, _ => by simp [AV.noPtr] at n
  | .map _, _, n, _ => by simp [AV.noPtr] at n
theorem RepL.noPtr {σ σ' : St} (hc : ∀ b o v, σ.cells b o = some v → σ'.cells b o = some v) : ∀ (cs : List AV) (us : List Value), AV.noPtr.go cs = true → RepL σ cs us → RepL σ' cs us
  | [], _, _, k => by simpa [RepL] using k
  | c :: cs, _, n, k => by
    simp only [AV.noPtr.go, Bool.and_eq_true] at n
    simp only [RepL] at k ⊢
    obtain ⟨u, us', e, r, q⟩ := k
    exact ⟨u, us', e, Rep.noPtr hc c u n.1 r, RepL.noPtr hc cs us' n.2 q⟩
theorem RepCells.noPtr {σ σ' : St} (hc : ∀ b o v, σ.cells b o = some v → σ'.cells b o = some v) (b : Nat) : ∀ (off : Nat) (cs : List AV), AV.noPtr.go cs = true → RepCells σ b off cs → RepCells σ' b off cs
  | _, [], _, _ => by simp [RepCells]
  | off, c :: cs, n, k => by
    simp only [AV.noPtr.go, Bool.and_eq_true] at n
    simp only [RepCells] at k ⊢
    obtain ⟨⟨u, e, r⟩, q⟩ := k
    exact ⟨⟨u, hc _ _ _ e, Rep.noPtr hc c u n.1 r⟩, RepCells.noPtr hc b (off + 1) cs n.2 q⟩
theorem RepRow.noPtr {σ σ' : St} (hc : ∀ b o v, σ.cells b o = some v → σ'.cells b o = some v) (b s : Nat) : ∀ (off : Nat) (es : List AV), AV.noPtr.go es = true → RepRow σ b s off es → RepRow σ' b s off es
  | _, [], _, _ => by simp [RepRow]
  | off, e :: es, n, k => by
    simp only [AV.noPtr.go, Bool.and_eq_true] at n
    simp only [RepRow] at k ⊢
    obtain ⟨⟨u, r, hs, hcc⟩, q⟩ := k
    exact ⟨⟨u, Rep.noPtr hc e u n.1 r, hs, fun j v hj => hc _ _ _ (hcc j v hj)⟩, RepRow.noPtr hc b s (off + s) es n.2 q⟩
end

def callable (P : Program) (f : FuncId) : Prop := ∃ fn, P.funcs[f]? = some fn ∧ (fn.name == "runtime.NumGoroutine") = false ∧ fn.body.isNone = false

def CallsA (P : Program) (f : FuncId) (args : List AV) (H : AHeap) (v : AV) (H' : AHeap) : Prop :=
  ∀ B W0 σ w us, Sim P B W0 H σ w → RepL σ args us → Calls P f us.toArray w (fun e w' => ∃ u, e = .returned u ∧ Goes P B W0 σ v H' u w')

def CallOk (P : Program) (call : CallO) : Prop := ∀ f args H v H', call f args H = some (v, H') → callable P f ∧ CallsA P f args H v H'

section
variable {P : Program} {B : Nat → Prop} {W0 : World} {H : AHeap} {σ : St} {w : World} {call : CallO}

/-- All that is in the blocks from this one on is known for good. -/
def frozen (σ : St) (B1 : Nat) (w : World) : Nat → Nat → Option Value := fun b o =>
  match σ.cells b o with
  | some v => some v
  | none => if B1 ≤ b then (match w.cell? ⟨b, o, none⟩ with | some v => if v.oneCell' = true then some v else none | none => none) else none

theorem frozen_le {σ : St} {B1 : Nat} {w : World} {b o : Nat} {v : Value} (h : σ.cells b o = some v) : frozen σ B1 w b o = some v := by simp [frozen, h]

theorem frozen_new {B1 : Nat} {S1 : Nat → Prop} {W1 : World} {w : World} (hs : Sim P S1 W1 H σ w) {b o : Nat} {v : Value} (hb : B1 ≤ b) (hc : w.cell? ⟨b, o, none⟩ = some v) (h1 : v.oneCell' = true) : frozen σ B1 w b o = some v := by
  unfold frozen
  cases h : σ.cells b o with
  | some x =>
    have := hs.cells b o x h
    rw [hc] at this
    simp only
    exact this.symm
  | none => simp [hb, hc, h1]

theorem mapO_rep {σ σ' : St} {f : AV → Option AV} (hf : ∀ c d u, f c = some d → Rep σ c u → Rep σ' d u) : ∀ {cs ds : List AV} {us : List Value}, mapO f cs = some ds → RepL σ cs us → RepL σ' ds us
  | [], ds, us, h, r => by
    simp only [mapO, Option.some.injEq] at h
    subst h
    rw [RepL.nil_iff] at r
    subst r
    simp [RepL]
  | c :: cs, ds, us, h, r => by
    simp only [mapO] at h
    rw [RepL.cons_iff] at r
    obtain ⟨u, us', rfl, r1, r2⟩ := r
    cases hc : f c with
    | none => simp [hc, bnd] at h
    | some d =>
      cases hm : mapO f cs with
      | none => simp [hc, hm, bnd] at h
      | some ds' =>
        simp only [hc, hm, bnd, Option.some.injEq] at h
        subst h
        exact RepL.cons_iff.2 ⟨u, us', rfl, hf c d u hc r1, mapO_rep hf hm r2⟩

theorem mapO_len {α β : Type} {f : α → Option β} : ∀ {cs : List α} {ds : List β}, mapO f cs = some ds → ds.length = cs.length
  | [], ds, h => by simp only [mapO, Option.some.injEq] at h; subst h; rfl
  | c :: cs, ds, h => by
    simp only [mapO] at h
    cases hc : f c with
    | none => simp [hc, bnd] at h
    | some d =>
      cases hm : mapO f cs with
      | none => simp [hc, hm, bnd] at h
      | some ds' =>
        simp only [hc, hm, bnd, Option.some.injEq] at h
        subst h
        simp [mapO_len hm]

theorem mapO_row {σ σ' : St} {f : AV → Option AV} (hf : ∀ c d u, f c = some d → Rep σ c u → Rep σ' d u) (hc : ∀ b o v, σ.cells b o = some v → σ'.cells b o = some v) {b s : Nat} : ∀ {off : Nat} {cs ds : List AV}, mapO f cs = some ds → RepRow σ b s off cs → RepRow σ' b s off ds
  | _, [], ds, h, r => by simp only [mapO, Option.some.injEq] at h; subst h; simp [RepRow]
  | off, c :: cs, ds, h, r => by
    simp only [mapO] at h
    simp only [RepRow] at r
    obtain ⟨⟨u, r1, r2, r3⟩, r4⟩ := r
    cases hcc : f c with
    | none => simp [hcc, bnd] at h
    | some d =>
      cases hm : mapO f cs with
      | none => simp [hcc, hm, bnd] at h
      | some ds' =>
        simp only [hcc, hm, bnd, Option.some.injEq] at h
        subst h
        simp only [RepRow]
        exact ⟨⟨u, hf c d u hcc r1, r2, fun j v hj => hc _ _ _ (r3 j v hj)⟩, mapO_row hf hc hm r4⟩

theorem mapO_cells {σ σ' : St} {f : AV → Option AV} (hf : ∀ c d u, f c = some d → Rep σ c u → Rep σ' d u) (hc : ∀ b o v, σ.cells b o = some v → σ'.cells b o = some v) {b : Nat} : ∀ {off : Nat} {cs ds : List AV}, mapO f cs = some ds → RepCells σ b off cs → RepCells σ' b off ds
  | _, [], ds, h, r => by simp only [mapO, Option.some.injEq] at h; subst h; simp [RepCells]
  | off, c :: cs, ds, h, r => by
    simp only [mapO] at h
    simp only [RepCells] at r
    obtain ⟨⟨u, r1, r2⟩, r4⟩ := r
    cases hcc : f c with
    | none => simp [hcc, bnd] at h
    | some d =>
      cases hm : mapO f cs with
      | none => simp [hcc, hm, bnd] at h
      | some ds' =>
        simp only [hcc, hm, bnd, Option.some.injEq] at h
        subst h
        simp only [RepCells]
        exact ⟨⟨u, hc _ _ _ r1, hf c d u hcc r2⟩, mapO_cells hf hc hm r4⟩

/-- The elements of a row's cells. -/
theorem chunk_row {σ σ' : St} {f : AV → Option AV} (hf : ∀ c d u, f c = some d → Rep σ c u → Rep σ' d u) {g : Bool} {s b : Nat} (hg : g = true ∨ s = 1) : ∀ (n off : Nat) (cs ds : List AV) (us : List Value), RepL σ cs us → n * s ≤ us.length → (∀ u ∈ us, u.oneCell' = true) →
    (∀ j v, us[j]? = some v → σ'.cells b (off + j) = some v) → mapO f (chunkA g s n cs) = some ds → RepRow σ' b s off ds
  | 0, off, cs, ds, us, _, _, _, _, h => by simp only [chunkA, mapO, Option.some.injEq] at h; subst h; simp [RepRow]
  | n + 1, off, cs, ds, us, r, hl, h1, hc, h => by
    rw [Nat.add_mul] at hl
    simp only [chunkA, mapO] at h
    cases hcc : f (if g = true then AV.agg (cs.take s) else cs.headD .junk) with
    | none => simp only [hcc, bnd, reduceCtorEq] at h
    | some d =>
      cases hm : mapO f (chunkA g s n (cs.drop s)) with
      | none => simp only [hcc, hm, bnd, reduceCtorEq] at h
      | some ds' =>
        simp only [hcc, hm, bnd, Option.some.injEq] at h
        subst h
        simp only [RepRow]
        constructor
        · cases g with
          | true =>
            refine ⟨.agg (us.take s).toArray, hf _ _ _ hcc ?_, ?_, ?_⟩
            · simp only [if_true, Rep]
              exact ⟨_, rfl, r.take s⟩
            · simp [Value.cells]; omega
            · intro j v hj
              simp only [Value.cells, List.getElem?_toArray] at hj
              have hjs : j < s := by have := (List.getElem?_eq_some_iff.1 hj).1; simp at this; omega
              rw [List.getElem?_take_of_lt hjs] at hj
              exact hc j v hj
          | false =>
            have hs1 : s = 1 := by simpa using hg
            subst hs1
            cases us with
            | nil => simp at hl
            | cons u us =>
              cases cs with
              | nil => rw [RepL.nil_iff] at r; cases r
              | cons c cs =>
                rw [RepL.cons_iff] at r
                obtain ⟨u', us', e, r1, r2⟩ := r
                cases e
                have hone := h1 u (by simp)
                have hcells : u.cells = #[u] := by cases u <;> simp [Value.oneCell'] at hone <;> rfl
                refine ⟨u, hf _ _ _ hcc (by simpa using r1), by rw [hcells]; rfl, ?_⟩
                intro j v hj
                rw [hcells] at hj
                have hj0 : j = 0 := by have := (Array.getElem?_eq_some_iff.1 hj).1; simp at this; omega
                subst hj0
                simp at hj
                subst hj
                exact hc 0 u (by simp)
        · refine chunk_row hf hg n (off + s) (cs.drop s) ds' (us.drop s) (r.drop s) (by simp; omega) (fun u hu => h1 u (List.mem_of_mem_drop hu)) (fun j v hj => ?_) hm
          rw [List.getElem?_drop] at hj
          have := hc (s + j) v hj
          rwa [show off + (s + j) = off + s + j from by omega] at this

theorem chunk_len (g : Bool) (s : Nat) : ∀ (n : Nat) (cs : List AV), (chunkA g s n cs).length = n
  | 0, cs => rfl
  | n + 1, cs => by simp [chunkA, chunk_len g s n]

theorem frz_ok {B1 : Nat} {W1 w1 : World} {σ1 σF : St} (hs : Sim P (· < B1) W1 H σ1 w1) (hF : σF.cells = frozen σ1 B1 w1) : ∀ (n : Nat) (v v' : AV) (u : Value), frz P H n v = some v' → Rep σ1 v u → Rep σF v' u
  | 0, v, v', u, h, _ => by simp [frz] at h
  | n + 1, v, v', u, h, r => by
    have hf := frz_ok hs hF n
    have hcc : ∀ b o v, σ1.cells b o = some v → σF.cells b o = some v := fun b o v hv => by rw [hF]; exact frozen_le hv
    have hbs : ∀ {α β : Type} {x : Option α} {f : α → Option β} {y : β}, bnd x f = some y → ∃ a, x = some a ∧ f a = some y := fun {α β x f y} hx => by
      cases x with
      | none => simp [bnd] at hx
      | some a => exact ⟨a, rfl, hx⟩
    cases v <;> simp only [frz] at h
    case agg cs =>
      obtain ⟨ds, h1, h2⟩ := hbs h
      cases h2
      simp only [Rep] at r ⊢
      obtain ⟨us, e, r1⟩ := r
      exact ⟨us, e, mapO_rep hf h1 r1⟩
    case tup cs =>
      obtain ⟨ds, h1, h2⟩ := hbs h
      cases h2
      simp only [Rep] at r ⊢
      obtain ⟨us, e, r1⟩ := r
      exact ⟨us, e, mapO_rep hf h1 r1⟩
    case vec o es =>
      obtain ⟨ds, h1, h2⟩ := hbs h
      cases h2
      have hl := mapO_len h1
      simp only [Rep] at r ⊢
      obtain ⟨a, cap, e, r1, r2, r3⟩ := r
      refine ⟨a, cap, by rw [hl]; exact e, by rw [hl]; exact r1, ?_, ?_⟩
      · rw [hl]
        cases o with
        | own k => trivial
        | _ => exact r2
      · rcases r3 with rfl | ⟨b, off, s, ea, row⟩
        · simp only [mapO, Option.some.injEq] at h1
          exact .inl h1.symm
        · exact .inr ⟨b, off, s, ea, mapO_row hf hcc h1 row⟩
    case rptr cs =>
      obtain ⟨ds, h1, h2⟩ := hbs h
      cases h2
      simp only [Rep] at r ⊢
      obtain ⟨b, off, e, r1⟩ := r
      exact ⟨b, off, e, mapO_cells hf hcc h1 r1⟩
    case fn f a b =>
      obtain ⟨ds, h1, h2⟩ := hbs h
      obtain ⟨es, h3, h4⟩ := hbs h2
      cases h4
      simp only [Rep] at r ⊢
      obtain ⟨us, vs, e, r1, r2⟩ := r
      exact ⟨us, vs, e, mapO_rep hf h1 r1, mapO_rep hf h3 r2⟩
    case iface t x =>
      obtain ⟨y, h1, h2⟩ := hbs h
      cases h2
      simp only [Rep] at r ⊢
      obtain ⟨z, e, r1⟩ := r
      exact ⟨z, e, hf _ _ _ h1 r1⟩
    case ptr id off =>
      simp only [Rep] at r
      obtain ⟨b, hb, rfl⟩ := r
      split at h
      · rename_i cs hg
        split at h
        · rename_i hone
          obtain ⟨ds, h1, h2⟩ := hbs h
          cases h2
          obtain ⟨b', c, e, q1, q2, q3, q4, q5⟩ := hs.obj id _ hg
          rw [hb] at q1
          cases q1
          simp only [Rep]
          refine ⟨b, off, rfl, RepCells.of_list (mapO_rep hf h1 (q4.drop off)) fun j v hj => ?_⟩
          rw [hF]
          have hj' := hj
          rw [List.getElem?_drop, Array.getElem?_toList] at hj
          exact frozen_new hs (Nat.le_of_not_lt q2) (by rw [cell_of_row q3]; exact hj) (allOne_spec hone (q4.drop off) v (List.mem_of_getElem? hj'))
        · cases h
      · rename_i m et s cs hg
        obtain ⟨ds, h1, h2⟩ := hbs h
        cases h2
        obtain ⟨b', cap, c, q1, _, q2, q3, q4, q5, q6, q7, q8, q9, q10, q11, q12⟩ := hs.obj id _ hg
        rw [hb] at q1
        cases q1
        simp only [Rep]
        refine ⟨b, off, rfl, RepCells.of_list (mapO_rep hf h1 (q10.drop off)) fun j v hj => ?_⟩
        rw [hF]
        have hj' := hj
        rw [List.getElem?_drop] at hj
        have hlt : off + j < m * s := by have := (List.getElem?_eq_some_iff.1 hj).1; simp at this; omega
        rw [List.getElem?_take_of_lt hlt, Array.getElem?_toList] at hj
        exact frozen_new hs (Nat.le_of_not_lt q2) (by rw [cell_of_row q3]; exact hj) (q11 v (List.mem_of_mem_drop (List.mem_of_getElem? hj')))
      · cases h
    case sl id s off len =>
      simp only [Rep] at r
      obtain ⟨b, cap, hb, hown, rfl, hcap⟩ := r
      split at h
      · rename_i m et s' cs hg
        split at h
        · rename_i g hag
          split at h
          · rename_i hc
            obtain ⟨rfl, hle, hgs⟩ := hc
            obtain ⟨ds, h1, h2⟩ := hbs h
            cases h2
            obtain ⟨b', cap', c, q1, _, q2, q3, q4, q5, q6, q7, q8, q9, q10, q11, q12⟩ := hs.obj id _ hg
            rw [hb] at q1
            cases q1
            have hlen : ds.length = len := by rw [mapO_len h1, chunk_len]
            have hmul : off * s' + len * s' ≤ m * s' := by rw [← Nat.add_mul]; exact Nat.mul_le_mul_right _ hle
            have hns : m * s' ≤ c.size := by rw [q6]; exact Nat.mul_le_mul_right _ q7
            simp only [Rep]
            refine ⟨_, cap - off, by rw [hlen], by rw [hlen]; omega, trivial, .inr ⟨b, off * s', s', rfl, ?_⟩⟩
            refine chunk_row hf hgs len (off * s') _ ds ((c.toList.take (m * s')).drop (off * s')) (q10.drop _) (by simp; omega) (fun u hu => q11 u (List.mem_of_mem_drop hu)) (fun j v hj => ?_) h1
            rw [hF]
            have hj' := hj
            rw [List.getElem?_drop] at hj
            have hlt : off * s' + j < m * s' := by have := (List.getElem?_eq_some_iff.1 hj).1; simp at this; omega
            rw [List.getElem?_take_of_lt hlt, Array.getElem?_toList] at hj
            exact frozen_new hs (Nat.le_of_not_lt q2) (by rw [cell_of_row q3]; exact hj) (q11 v (List.mem_of_mem_drop (List.mem_of_getElem? hj')))
          · cases h
        · cases h
      · cases h
    case map id => cases h
    all_goals (cases h; simp only [Rep] at r ⊢; try exact r)

/-- Behind a call in a memory of its own all that it made is known for good. -/
theorem closed_world (hs : Sim P B W0 H σ w) {H1 : AHeap} {σ1 : St} {w1 : World} (hext : Ext (· < w.heap.size) { cells := σ.cells, loc := fun _ => none, own := fun _ _ => none } σ1) (hsim : Sim P (· < w.heap.size) w H1 σ1 w1)
    {K : Nat → Nat → Option Value} (hK1 : ∀ b o v, σ1.cells b o = some v → K b o = some v) (hK2 : ∀ b o v, K b o = some v → w1.cell? ⟨b, o, none⟩ = some v ∧ v.oneCell' = true) (hK3 : ∀ b o, b < w.heap.size → K b o = σ1.cells b o) :
    Ext B σ { cells := K, loc := σ.loc, own := σ.own } ∧ Sim P B W0 H { cells := K, loc := σ.loc, own := σ.own } w1 := by
  have hle : σ.le { cells := K, loc := σ.loc, own := σ.own } := ⟨fun b o v h => hK1 b o v (hext.le.cells b o v h), fun _ _ h => h, fun _ _ _ h => h⟩
  refine ⟨⟨hle, fun b o hb => ?_⟩, ?_⟩
  · have hlt := hs.size b hb
    show K b o = σ.cells b o
    rw [hK3 b o hlt]
    exact hext.old b o hlt
  · refine ⟨hs.below.trans (hsim.below.mono hs.size), hs.base, fun b o v h => (hK2 b o v h).1, fun b o v h => (hK2 b o v h).2, hs.fresh, hs.keys, ?_, hs.inj⟩
    intro id x hx
    have ho := hs.obj id x hx
    refine ho.keep hle (fun b hb => ?_) (fun _ => rfl)
    obtain ⟨b', hb', _, hlt⟩ := ho.blk
    rw [hb] at hb'
    cases hb'
    refine ⟨hsim.below.block b hlt, fun o => ?_⟩
    show K b o = σ.cells b o
    rw [hK3 b o hlt]
    exact hext.old b o hlt

theorem closed_sound (hs : Sim P B W0 H σ w) (hc : CallOk P call) {f : FuncId} {args : List AV} {us : List Value} {v : AV} (hr : RepL σ args us) (h : closedCall P call f args = some v) :
    callable P f ∧ Calls P f us.toArray w (fun e w' => ∃ u, e = .returned u ∧ Goes P B W0 σ v H u w') := by
  unfold closedCall at h
  split at h
  · rename_i hn
    split at h
    · rename_i v1 H1 hcall
      obtain ⟨h1, h2⟩ := hc _ _ _ _ _ hcall
      refine ⟨h1, ?_⟩
      let σ0 : St := { cells := σ.cells, loc := fun _ => none, own := fun _ _ => none }
      have hs0 : Sim P (· < w.heap.size) w .empty σ0 w :=
        ⟨BelowS.refl _ _, hs.baseNow, hs.cells, hs.one, fun _ _ => ⟨rfl, fun _ => rfl⟩, fun id x hx => by simp [AHeap.get, AHeap.empty] at hx, fun id x hx => by simp [AHeap.get, AHeap.empty] at hx,
          fun id id' x x' hx => by simp [AHeap.get, AHeap.empty] at hx⟩
      refine (h2 (· < w.heap.size) w σ0 w us hs0 (RepL.noPtr (σ := σ) (σ' := σ0) (fun _ _ _ h => h) _ _ hn hr.erase)).mono ?_
      rintro e w1 ⟨u, rfl, σ1, hext, hsim, hrep⟩
      refine ⟨u, rfl, ?_⟩
      split at h
      · rename_i hn1
        cases h
        obtain ⟨q1, q2⟩ := closed_world hs hext hsim (K := σ1.cells) (fun _ _ _ h => h) (fun b o v h => ⟨hsim.cells b o v h, hsim.one b o v h⟩) (fun _ _ _ => rfl)
        exact ⟨_, q1, q2, Rep.noPtr (σ := σ1) (σ' := { cells := σ1.cells, loc := σ.loc, own := σ.own }) (fun _ _ _ h => h) _ _ hn1 hrep.erase⟩
      · cases hfz : frz P H1 100 v1 with
        | none => simp [hfz, bnd] at h
        | some v2 =>
          simp only [hfz, bnd] at h
          split at h
          · cases h
            obtain ⟨q1, q2⟩ := closed_world hs hext hsim (K := frozen σ1 w.heap.size w1) (fun _ _ _ h => frozen_le h) (fun b o v h => by
              unfold frozen at h
              split at h
              · rename_i x hx; cases h; exact ⟨hsim.cells b o _ hx, hsim.one b o _ hx⟩
              · split at h
                · split at h
                  · rename_i x hx
                    split at h
                    · rename_i h1; cases h; exact ⟨hx, h1⟩
                    · cases h
                  · cases h
                · cases h) (fun b o hb => by
              unfold frozen
              cases σ1.cells b o with
              | some x => rfl
              | none => simp; omega)
            exact ⟨_, q1, q2, frz_ok hsim rfl 100 v1 _ u hfz hrep⟩
          · cases h
    · cases h
  · cases h

theorem callFunc_run {f : FuncId} (h : callable P f) (args : Array Value) : (callFunc f args).run P w = .ok (.enter f args) w := by
  obtain ⟨fn, h1, h2, h3⟩ := h
  simp only [callFunc, Sem.run_bind, run_program, Result.andThen_ok, h1, h2, h3, Bool.false_eq_true, if_false]
  rfl

theorem target_spec {a : AV} {f : FuncId} {first cap : List AV} {u : Value} (h : target a = some (f, first, cap)) (r : Rep σ a u) : ∃ us vs : List Value, u = .func (.func f) us.toArray vs.toArray ∧ RepL σ first us ∧ RepL σ cap vs := by
  unfold target at h
  split at h
  · simp only [Option.some.injEq, Prod.mk.injEq] at h
    obtain ⟨rfl, rfl, rfl⟩ := h
    simpa [Rep] using r
  · cases h

theorem call_run {o : Oper} {c : Call} {x : Operand} {ρ : Operand → Value} (hop : o.op = .call c) (hx : c.callee = .value x) {f : FuncId} {us vs : List Value} (hu : ρ x = .func (.func f) us.toArray vs.toArray) (hcall : callable P f) :
    (execOp ρ o).run P w = .ok (.enter f (us ++ c.args.toList.map ρ ++ vs).toArray) w := by
  obtain ⟨dst, op, ty, pos, after, guard⟩ := o
  simp only at hop
  subst hop
  obtain ⟨cal, as, tys⟩ := c
  simp only at hx
  subst hx
  simp only [execOp, resolve, Deferred.ofValue, hu, Sem.run_bind, Sem.run_pure, Result.andThen_ok, invoke, callFunc_run hcall]
  congr 2
  apply Array.ext'
  simp

theorem buildSlice_exec (hs : Sim P B W0 H σ w) {dst : Option Tmp} {ty : TypeId} {pos : String} {after : Array Edge} {guard : Option (Nat × Bool)} {t : TypeId} {len : Nat} {parts : Array (Nat × Operand)} {ρa : Operand → AV}
    {ρ : Operand → Value} {v : AV} {H' : AHeap} (h : buildSliceA P t len (parts.toList.map fun p => (p.1, ρa p.2)) H = some (v, H')) (hp : ∀ p ∈ parts.toList, Rep σ (ρa p.2) (ρ p.2)) :
    UponA P ((execOp ρ { dst := dst, op := .buildSlice t len parts, type := ty, pos := pos, after := after, guard := guard }).run P w) (Goes P B W0 σ v H') := by
  have hp' : RepL σ ((parts.toList.map fun p => (p.1, ρa p.2)).map (·.2)) ((parts.map fun p => (p.1, ρ p.2)).toList.map (·.2)) := by
    simp only [Array.toList_map, List.map_map]
    exact RepL.map (fun p : Nat × Operand => ρa p.2) (fun p => ρ p.2) parts.toList hp
  simp only [execOp]
  have key := buildSlice_sound (us := parts.map fun p => (p.1, ρ p.2)) hs (by simp) hp' h
  exact key

/-- Something turns in a block that nobody has, but none of its cells. -/
theorem Sim.touch (hs : Sim P B W0 H σ w) {b : Nat} {w' : World} (hb : ∀ k, k ≠ b → w'.heap[k]? = w.heap[k]?) (hc : ∀ o, w'.cell? ⟨b, o, none⟩ = w.cell? ⟨b, o, none⟩) (hbel : BelowS B W0 w') (hfree : ∀ id y, H.get id = some y → blk σ id y ≠ some b) :
    Sim P B W0 H σ w' := by
  refine ⟨hbel, hs.base, fun b' o v h => ?_, hs.one, hs.fresh, hs.keys, fun id x hx => ?_, hs.inj⟩
  · by_cases e : b' = b
    · subst e; rw [hc]; exact hs.cells _ o v h
    · rw [cell_of_heap (hb b' e)]; exact hs.cells b' o v h
  · refine (hs.obj id x hx).keep σ.le_refl (fun b' hb' => ⟨hb b' ?_, fun _ => rfl⟩) (fun _ => rfl)
    rintro rfl
    exact hfree id x hx hb'

theorem bytes_sound (hs : Sim P B W0 H σ w) {s d : TypeId} {l : List UInt8} {u : Value} {v : AV} {H' : AHeap} (r : Rep σ (.str l) u)
    (h : (if isStrQ P s = true ∧ bytesQ P d = true ∧ l.length ≤ 1099511627776 then some (AV.vec .ro (l.map fun b => .int .u8 b.toNat), H) else none) = some (v, H')) :
    UponA P ((do pure (Next.value (← Go.convert s d u)) : Sem Next).run P w) (Goes P B W0 σ v H') := by
  split at h
  · rename_i hc
    obtain ⟨h1, h2, h3⟩ := hc
    cases h
    simp only [Rep] at r
    subst r
    unfold bytesQ at h2
    split at h2
    · rename_i et het
      simp only [Bool.and_eq_true, beq_iff_eq] at h2
      obtain ⟨h2, hsz⟩ := h2
      have hu8 : P.underlying et = some (.int .u8) := by
        split at h2
        · rename_i e; exact e
        · cases h2
      have hsize : (⟨l.toArray⟩ : ByteArray).size = l.length := by simp [ByteArray.size]
      have hge := grownCap_ge w l.length 0 et
      let c : Array Value := (l.toArray.map fun b => Value.int .u8 b.toNat) ++ Array.replicate (grownCap w l.length 0 et - l.length) (.int .u8 0)
      have hcs : c.size = grownCap w l.length 0 et := by simp [c]; omega
      have hrun : (Go.convert s d (.string ⟨l.toArray⟩)).run P w = .ok (.slice (some ⟨w.heap.size, 0, none⟩) l.length (grownCap w l.length 0 et)) ((w.drew.alloc (.cells c et)).freeze { block := w.heap.size, off := c.size } 1) := by
        have hsh : (w.drew.alloc (.cells c et)).shape? w.heap.size = some (et, c.size) := by
          simp only [World.shape?]
          rw [show w.heap.size = w.drew.heap.size from rfl, heap_new]
        simp only [Go.convert, Sem.run_bind, under_run (isStrQ_spec h1), under_run (elemQ_spec het), under_run hu8, Result.andThen_ok, Conv.stringToBytes, run_choose_drew, hsize, newRow, Sem.run_pure, markStringish, Question.forced, Bool.false_eq_true, if_false,
          run_newObj_alloc, run_shape]
        have e1 : w.drew.heap.size = w.heap.size := rfl
        rw [e1]
        have key : ∀ (W : World) (V : Value), W.shape? w.heap.size = some (et, c.size) → ((Sem.run P (match W.shape? w.heap.size with | some (_, n) => freeze { block := w.heap.size, off := n } 1 | _ => pure ()) W).andThen fun _ w' => Result.ok V w') = Result.ok V (W.freeze { block := w.heap.size, off := c.size } 1) := fun W V hW => by
          rw [hW]; rfl
        exact key (w.drew.alloc (.cells c et)) _ hsh
      obtain ⟨q1, q2⟩ := hs.know_new (cs := l.map fun b => Value.int .u8 b.toNat) (c := c) (et := et) (w1 := w.drew) rfl hs.below.drew (fun j x hj => by
        have hjl : j < l.length := by have := (List.getElem?_eq_some_iff.1 hj).1; simpa using this
        simp only [c]
        rw [Array.getElem?_append_left (by simpa using hjl)]
        simpa using hj) (fun x hx => by obtain ⟨b, _, rfl⟩ := List.mem_map.1 hx; rfl)
      simp only [Sem.run_bind, hrun, Result.andThen_ok, Sem.run_pure, UponA]
      have hother : ∀ k, k ≠ w.heap.size → ((w.drew.alloc (.cells c et)).freeze { block := w.heap.size, off := c.size } 1).heap[k]? = (w.drew.alloc (.cells c et)).heap[k]? := fun k hk => by
        simp [World.freeze, Array.getElem?_modify, Ne.symm hk]
      refine ⟨_, q2, q1.touch (b := w.heap.size) hother (fun o => ?_) (q1.below.trans ⟨rfl, rfl, rfl, by simp [World.freeze], fun k hk => hother k (by rintro rfl; exact hs.notNew hk)⟩) (fun id y hy he => ?_), ?_⟩
      · have hn : (w.drew.alloc (.cells c et)).heap[w.heap.size]? = some (.cells c et (0, 0)) := heap_new w.drew (.cells c et)
        unfold World.cell?
        simp only [World.freeze, Nat.one_ne_zero, if_false, Array.getElem?_modify, if_true, hn, Option.map_some]
      · obtain ⟨b, hb1, _, hb3⟩ := (hs.obj id y hy).blk
        rw [blk_keep q2.le hb1] at he
        cases he
        exact absurd hb3 (Nat.lt_irrefl _)
      · simp only [Rep]
        refine ⟨_, grownCap w l.length 0 et, by simp, by simpa using hge, trivial, .inr ⟨w.heap.size, 0, 1, rfl, ?_⟩⟩
        refine RepRow.of_vals (us := l.map fun b => Value.int .u8 b.toNat) (RepL.map _ _ l fun b _ => by simp [Rep]) (fun x hx => by obtain ⟨b, _, rfl⟩ := List.mem_map.1 hx; rfl) (fun i x hi j y hj => ?_)
        obtain ⟨b, _, rfl⟩ := List.mem_map.1 (List.mem_of_getElem? hi)
        have hj0 : j = 0 := by have := (Array.getElem?_eq_some_iff.1 hj).1; simp [Value.cells] at this; omega
        subst hj0
        simp [Value.cells] at hj
        subst hj
        simp only [St.know]
        have hil := (List.getElem?_eq_some_iff.1 hi).1
        rw [if_pos ⟨trivial, by simpa using hil⟩]
        simpa using hi
    · cases h2
  · cases h

/-- A row's cells all zero. -/
theorem zeroCells_list (z : Array Value) (n : Nat) (h : z.size ≠ 0) : (Builtin.zeroCells z n).toList = (List.replicate n z.toList).flatten := by
  apply List.ext_getElem?
  intro i
  rw [flat_get]
  simp only [Builtin.zeroCells, Array.toList_map, Array.toList_range, List.getElem?_map, Array.length_toList]
  by_cases hi : i < n * z.size
  · rw [if_pos hi]
    have hm : i % z.size < z.size := Nat.mod_lt _ (Nat.pos_of_ne_zero h)
    simp [hi, hm]
  · rw [if_neg hi, List.getElem?_eq_none (by simpa using hi)]
    rfl

theorem RepL.repl {zs : List AV} {us : List Value} (h : RepL σ zs us) : ∀ n : Nat, RepL σ (List.replicate n zs).flatten (List.replicate n us).flatten
  | 0 => by simp [RepL]
  | n + 1 => by
    simp only [List.replicate_succ, List.flatten_cons]
    exact h.append (RepL.repl h n)

theorem clear_sound (hs : Sim P B W0 H σ w) {tys : Array TypeId} {ty : TypeId} {args : List AV} {us : Array Value} {v : AV} {H' : AHeap} (hr : RepL σ args us.toList) (h : clearOp P tys args H = some (v, H')) :
    UponA P ((do pure (Next.value (← Builtin.clear_ tys ty us)) : Sem Next).run P w) (Goes P B W0 σ v H') := by
  unfold clearOp at h
  split at h
  · split at h
    · rename_i t ht
      split at h
      · rename_i hel
        simp only [Option.some.injEq, Prod.mk.injEq] at h
        obtain ⟨rfl, rfl⟩ := h
        obtain ⟨us⟩ := us
        simp only at hr
        rw [RepL.cons_iff] at hr
        obtain ⟨u, us', rfl, r, q⟩ := hr
        rw [RepL.nil_iff] at q
        subst q
        simp only [Rep] at r
        obtain ⟨a, cap, rfl, _⟩ := r
        obtain ⟨e, he⟩ := Option.ne_none_iff_exists'.1 hel
        have hrun : (Builtin.clear_ tys ty #[.slice a 0 cap]).run P w = .ok (.tuple #[]) w := by
          cases a <;> simp [Builtin.clear_, ht, under_run (elemQ_spec he)]
        simp only [List.length_nil, Sem.run_bind, hrun, Result.andThen_ok, Sem.run_pure, UponA]
        exact ⟨σ, Ext.refl _ _, hs, by simp [undefA, Rep]⟩
      · cases h
    · cases h
  · rename_i id s off len
    split at h
    · rename_i t ht
      split at h
      · rename_i e he
        split at h
        · rename_i z n et s2 cs hz hg
          split at h
          · rename_i hc
            obtain ⟨rfl, hzl, hol, hl0, hone⟩ := hc
            simp only [Option.some.injEq, Prod.mk.injEq] at h
            obtain ⟨rfl, rfl⟩ := h
            obtain ⟨us⟩ := us
            simp only at hr
            rw [RepL.cons_iff] at hr
            obtain ⟨u, us', rfl, r, q⟩ := hr
            rw [RepL.nil_iff] at q
            subst q
            simp only [Rep] at r
            obtain ⟨b, cap, hb, _, rfl, _⟩ := r
            obtain ⟨_, _, _, _, _, _, _, _, hs0, _, _, _, hcl, _⟩ := hs.obj id _ hg
            obtain ⟨zv, hzv, rz⟩ : ∃ zv : Value, (∀ w, (zeroValue e).run P w = .ok zv w) ∧ RepL σ z zv.cells.toList := by
              unfold zeroQ at hz
              split at hz
              · rename_i i hi
                obtain ⟨zv, hzv, rfl⟩ := Option.map_eq_some_iff.1 hz
                refine ⟨zv, fun w => by simp [zeroValue, typeInfo, hi, hzv], ?_⟩
                have := RepL.of_map (σ := σ) ofV1 (fun v => v) zv.cells.toList (fun x _ => Rep.ofV1 x)
                simpa using this
              · cases hz
            have hzs : zv.cells.size = s2 := by have := rz.length; simp only [Array.length_toList] at this; omega
            have rr := rz.repl len
            have hfl : (List.replicate len z).flatten.length = len * s2 := by simp [hzl]
            have hmul : off * s2 + len * s2 ≤ n * s2 := by rw [← Nat.add_mul]; exact Nat.mul_le_mul_right _ hol
            have hone' : ∀ u ∈ (List.replicate len zv.cells.toList).flatten, u.oneCell' = true := by
              intro u hu
              obtain ⟨l, hl, hu⟩ := List.mem_flatten.1 hu
              obtain rfl := List.eq_of_mem_replicate hl
              exact allOne_spec hone rz u hu
            obtain ⟨b', cap', c, hb', _, hh, hfit, hsim⟩ := hs.set_row (o := off * s2) hg rr hone' (by omega)
            rw [hb] at hb'
            cases hb'
            have hst := run_storeCells_at (P := P) b (off * s2) et (List.replicate len zv.cells.toList).flatten 0 c w hh (by simpa using hfit) hone'
            simp only [Nat.add_zero] at hst
            have hz0 : zv.cells.size ≠ 0 := by omega
            have hrun : (Builtin.clear_ tys ty #[.slice (some ⟨b, off * s2, none⟩) len (cap - off)]).run P w = .ok (.tuple #[]) (w.setRow b (c.toList.take (off * s2) ++ (List.replicate len zv.cells.toList).flatten ++ c.toList.drop (off * s2 + (List.replicate len zv.cells.toList).flatten.length)).toArray) := by
              obtain ⟨m, rfl⟩ : ∃ m, len = m + 1 := ⟨len - 1, by omega⟩
              simp [Builtin.clear_, ht, under_run (elemQ_spec he), hzv, zeroCells_list _ _ hz0, hst]
            simp only [Sem.run_bind, hrun, Result.andThen_ok, Sem.run_pure, UponA]
            exact ⟨σ, Ext.refl _ _, hsim, by simp [undefA, Rep]⟩
          · cases h
        · cases h
      · cases h
    · cases h
  · cases h

theorem RepE.erase : ∀ {es : List (AV × AV × Nat)} {ms : List MapEntry} (i : Nat), RepE σ es ms → RepE σ (es.eraseIdx i) (ms.eraseIdx i)
  | [], ms, i, h => by simp only [RepE] at h; subst h; simp [RepE]
  | (k, v, b) :: es, ms, i, h => by
    simp only [RepE] at h
    obtain ⟨m, ms', rfl, r1, r2, r3, r4⟩ := h
    cases i with
    | zero => simpa using r4
    | succ i =>
      simp only [List.eraseIdx_cons_succ, RepE]
      exact ⟨m, _, rfl, r1, r2, r3, r4.erase i⟩

theorem RepE.length : ∀ {es : List (AV × AV × Nat)} {ms : List MapEntry}, RepE σ es ms → ms.length = es.length
  | [], ms, h => by simp only [RepE] at h; subst h; rfl
  | (k, v, b) :: es, ms, h => by
    simp only [RepE] at h
    obtain ⟨m, ms', rfl, r1, r2, r3, r4⟩ := h
    simp [r4.length]

theorem mapT_spec {tys : Array TypeId} (h : mapT P tys = true) : ∃ t kt et, tys[0]? = some t ∧ P.underlying t = some (.map kt et) := by
  unfold mapT at h
  split at h
  · rename_i t ht
    obtain ⟨⟨kt, et⟩, hm⟩ := Option.isSome_iff_exists.1 h
    exact ⟨t, kt, et, ht, mapQ_spec hm⟩
  · cases h

theorem len_sound (hs : Sim P B W0 H σ w) {tys : Array TypeId} {ty : TypeId} {args : List AV} {us : Array Value} {v : AV} {H' : AHeap} (hr : RepL σ args us.toList) (h : lenOp P tys args H = some (v, H')) :
    UponA P ((do pure (Next.value (← Builtin.len_ tys ty us)) : Sem Next).run P w) (Goes P B W0 σ v H') := by
  unfold lenOp at h
  split at h
  · rename_i id
    split at h
    · rename_i hm
      obtain ⟨t, kt, et, ht, hu⟩ := mapT_spec hm
      split at h
      · rename_i es clock hg
        simp only [Option.some.injEq, Prod.mk.injEq] at h
        obtain ⟨rfl, rfl⟩ := h
        obtain ⟨b, ms, hb, _, hh, re, _⟩ := hs.obj id _ hg
        obtain ⟨us⟩ := us
        simp only at hr
        rw [RepL.cons_iff] at hr
        obtain ⟨u, us', rfl, r, q⟩ := hr
        rw [RepL.nil_iff] at q
        subst q
        simp only [Rep] at r
        obtain ⟨b', hb', rfl⟩ := r
        rw [hb] at hb'
        cases hb'
        have hrun : (Builtin.len_ tys ty #[.map (some b)]).run P w = .ok (.int .i64 (es.length : Nat)) w := by
          have hl := re.length
          simp only [Array.length_toList] at hl
          simp [Builtin.len_, ht, under_run hu, Go.MapKept.run_getObj_map hh, goInt, hl]
        simp only [Sem.run_bind, hrun, Result.andThen_ok, Sem.run_pure, UponA]
        exact ⟨σ, Ext.refl _ _, hs, by simp [Rep]⟩
      · cases h
    · cases h
  · cases hl : lenA P tys args with
    | none => simp [hl, bnd] at h
    | some v0 =>
      simp only [hl, bnd, Option.some.injEq, Prod.mk.injEq] at h
      obtain ⟨rfl, rfl⟩ := h
      obtain ⟨u, hu, ru⟩ := pure_len (P := P) (w := w) (ty := ty) hr hl
      rw [hu]
      exact ⟨σ, Ext.refl _ _, hs, ru⟩

theorem delete_sound (hs : Sim P B W0 H σ w) {tys : Array TypeId} {ty : TypeId} {args : List AV} {us : Array Value} {v : AV} {H' : AHeap} (hr : RepL σ args us.toList) (h : deleteOp P tys args H = some (v, H')) :
    UponA P ((do pure (Next.value (← Builtin.delete_ tys ty us)) : Sem Next).run P w) (Goes P B W0 σ v H') := by
  unfold deleteOp at h
  split at h
  · rename_i id k
    split at h
    · rename_i t ht
      split at h
      · rename_i kt et hmq
        have hu := mapQ_spec hmq
        split at h
        · rename_i es clock hg
          split at h
          · rename_i hk
            obtain ⟨b, ms, hb, hB, hh, re, hn⟩ := hs.obj id _ hg
            obtain ⟨us⟩ := us
            simp only at hr
            rw [RepL.cons_iff] at hr
            obtain ⟨u, us', rfl, r, q⟩ := hr
            rw [RepL.cons_iff] at q
            obtain ⟨uk, us2, rfl, rk, q⟩ := q
            rw [RepL.nil_iff] at q
            subst q
            simp only [Rep] at r
            obtain ⟨b', hb', rfl⟩ := r
            rw [hb] at hb'
            cases hb'
            have hset : ∀ o' : Obj, (∀ k', k' ≠ b → (w.heap.setIfInBounds b o')[k']? = w.heap[k']?) ∧ (w.heap.setIfInBounds b o')[b]? = some o' := fun o' => ⟨(Go.MapKept.heap_set hh).2, (Go.MapKept.heap_set hh).1⟩
            have hbel : ∀ o' : Obj, BelowS B W0 { w with heap := w.heap.setIfInBounds b o' } := fun o' => hs.below.trans ⟨rfl, rfl, rfl, by simp, fun k' hk' => (hset o').1 k' (by rintro rfl; exact hB hk')⟩
            split at h
            · rename_i j v1 hf
              obtain ⟨k1, r', k2, k3⟩ := key_ok (w := w) rk hk re hf (em := ms.isEmpty)
              obtain ⟨j', v', y, e1, rfl, ry⟩ := k3.resolve_left (by simp)
              simp only [Option.some.injEq, Prod.mk.injEq] at e1
              obtain ⟨rfl, rfl⟩ := e1
              cases h
              have hrun : (Builtin.delete_ tys ty #[.map (some b), uk]).run P w = .ok (.tuple #[]) { w with heap := w.heap.setIfInBounds b (.map (ms.eraseIdxIfInBounds j) clock) } := by
                simp [Builtin.delete_, ht, under_run hu, Go.MapKept.run_getObj_map hh, k1, k2, Go.MapKept.run_setObj_map _ hh]
              simp only [Sem.run_bind, hrun, Result.andThen_ok, Sem.run_pure, UponA]
              refine ⟨σ, Ext.refl _ _, hs.setAt (b := b) hg hb hb (hset _).1 (hbel _) hn ⟨b, _, hb, hB, (hset _).2, ?_, hn⟩, by simp [undefA, Rep]⟩
              rw [Array.toList_eraseIdxIfInBounds]
              exact re.erase j
            · rename_i hf
              obtain ⟨k1, r', k2, k3⟩ := key_ok (w := w) rk hk re hf (em := ms.isEmpty)
              have : r' = none := by
                rcases k3 with ⟨_, h2⟩ | ⟨j, v, x, h1, _⟩
                · exact h2
                · simp at h1
              subst this
              cases h
              have hrun : (Builtin.delete_ tys ty #[.map (some b), uk]).run P w = .ok (.tuple #[]) { w with heap := w.heap.setIfInBounds b (.map ms clock) } := by
                simp [Builtin.delete_, ht, under_run hu, Go.MapKept.run_getObj_map hh, k1, k2, Go.MapKept.run_setObj_map _ hh]
              simp only [Sem.run_bind, hrun, Result.andThen_ok, Sem.run_pure, UponA]
              have hq := hs.setAt (b := b) (y := .map es clock) (w' := { w with heap := w.heap.setIfInBounds b (.map ms clock) }) hg hb hb (hset (.map ms clock)).1 (hbel _) hn ⟨b, ms, hb, hB, (hset _).2, re, hn⟩
              rw [AHeap.set_same hg] at hq
              exact ⟨σ, Ext.refl _ _, hq, by simp [undefA, Rep]⟩
            · cases h
          · cases h
        · cases h
      · cases h
    · cases h
  · cases h

theorem bytesA_spec : ∀ {es : List AV} {l : List UInt8}, bytesA es = some l → es = l.map fun x => .int .u8 x.toNat
  | [], l, h => by simp only [bytesA, Option.some.injEq] at h; subst h; rfl
  | e :: es, l, h => by
    have ih := @bytesA_spec es
    unfold bytesA at h
    split at h
    · rename_i hq; cases hq
    · rename_i n r hq
      cases hq
      split at h
      · rename_i hn
        cases hb : bytesA es with
        | none => rw [hb] at h; cases h
        | some l' =>
          rw [hb] at h
          cases h
          have hx : (n.toNat : Int) = n := Int.toNat_of_nonneg hn.1
          have hlt : n.toNat < 256 := by omega
          simp only [List.map_cons, List.cons.injEq, AV.int.injEq, true_and]
          refine ⟨?_, ih hb⟩
          rw [UInt8.toNat_ofNat', Nat.mod_eq_of_lt (by simpa using hlt), hx]
      · cases h
    · cases h

theorem byteRow_width : ∀ l : List UInt8, allWidth 1 (l.map fun x => AV.int .u8 x.toNat) = true
  | [] => rfl
  | x :: l => by simp only [List.map_cons, allWidth, AV.width, byteRow_width l]; rfl
theorem byteRow_flat : ∀ l : List UInt8, (l.map fun x => AV.int .u8 x.toNat).flatMap AV.cells = l.map fun x => AV.int .u8 x.toNat
  | [] => rfl
  | x :: l => by simp only [List.map_cons, List.flatMap_cons, AV.cells, byteRow_flat l]; rfl

/-- A row of bytes as a string. -/
theorem bytes_back_sound (hs : Sim P B W0 H σ w) {s d : TypeId} {o : Own} {e0 : AV} {es : List AV} {u : Value} {v : AV} {H' : AHeap} (r : Rep σ (.vec o (e0 :: es)) u)
    (h : (if isStrQ P d = true ∧ bytesQ P s = true then bnd (bytesA (e0 :: es)) fun l => some (.str l, H) else none) = some (v, H')) :
    UponA P ((do pure (Next.value (← Go.convert s d u)) : Sem Next).run P w) (Goes P B W0 σ v H') := by
  split at h
  · rename_i hc
    obtain ⟨h1, h2⟩ := hc
    cases hb : bytesA (e0 :: es) with
    | none => simp [hb, bnd] at h
    | some l =>
      simp only [hb, bnd, Option.some.injEq, Prod.mk.injEq] at h
      obtain ⟨rfl, rfl⟩ := h
      unfold bytesQ at h2
      split at h2
      · rename_i et het
        simp only [Bool.and_eq_true, beq_iff_eq] at h2
        obtain ⟨h2, hsz⟩ := h2
        have hu8 : P.underlying et = some (.int .u8) := by
          split at h2
          · rename_i e; exact e
          · cases h2
        have hes := bytesA_spec hb
        have hw : allWidth 1 (e0 :: es) = true := by rw [hes]; exact byteRow_width l
        obtain ⟨a, cap, us, rfl, _, _, r2, _, hc2, hne, _⟩ := vec_cells hs r hw
        obtain ⟨ad, rfl⟩ : ∃ ad, a = some ad := by
          cases a with
          | none => have := hne rfl; simp at this
          | some ad => exact ⟨ad, rfl⟩
        have hlen : (e0 :: es).length = l.length := by rw [hes]; simp
        have hfl : (e0 :: es).flatMap AV.cells = e0 :: es := by rw [hes]; exact byteRow_flat l
        rw [hfl] at r2
        have hrun := run_convert_bytes_back (P := P) w s d et ad cap l (elemQ_spec het) hu8 (isStrQ_spec h1) (fun j hj => by
          have hje : (e0 :: es)[j]? = some (.int .u8 l[j].toNat) := by rw [hes]; simp [hj]
          obtain ⟨u, hu, ru⟩ := r2.get hje
          simp only [Rep] at ru
          subst ru
          exact hc2 ad rfl j _ hu)
        rw [hlen]
        simp only [Sem.run_bind, hrun, Result.andThen_ok, Sem.run_pure, UponA]
        exact ⟨σ, Ext.refl _ _, hs, by simp [Rep]⟩
      · cases h2
  · cases h

/-- What one operation does, against the model. -/
theorem stepOp_sound {E : Env} (hs : Sim E.P B W0 H σ w) (hc : CallOk E.P call) (o : Oper) (ρa : Operand → AV) (ρ : Operand → Value) (hρ : ∀ x ∈ o.op.operands, Rep σ (ρa x) (ρ x)) {v : AV} {H' : AHeap}
    (h : stepOp E call o.op ρa H = some (v, H')) : UponA E.P ((execOp ρ o).run E.P w) (Goes E.P B W0 σ v H') := by
  have pure_case : ∀ {v : AV}, pureOp E.P o.op ρa H = some v → UponA E.P ((execOp ρ o).run E.P w) (Goes E.P B W0 σ v H) := fun {v} hp => by
    obtain ⟨u, hu, ru⟩ := pureOp_sound hs o ρa ρ hρ hp
    rw [hu]
    exact ⟨σ, Ext.refl _ _, hs, ru⟩
  have pure_bnd : ∀ {v : AV} {H' : AHeap}, (bnd (pureOp E.P o.op ρa H) fun v => some (v, H)) = some (v, H') → UponA E.P ((execOp ρ o).run E.P w) (Goes E.P B W0 σ v H') := fun {v H'} hb => by
    cases hp : pureOp E.P o.op ρa H with
    | none => simp [hp, bnd] at hb
    | some v0 =>
      simp only [hp, bnd, Option.some.injEq, Prod.mk.injEq] at hb
      obtain ⟨rfl, rfl⟩ := hb
      exact pure_case hp
  obtain ⟨dst, op, ty, pos, after, guard⟩ := o
  simp only at h hρ pure_bnd
  cases op
  case alloc t => simp only [stepOp] at h; simp only [execOp]; exact alloc_sound hs h
  case box t x => simp only [stepOp] at h; simp only [execOp]; exact box_sound hs (hρ x (by simp [Op.operands])) h
  case store t a x => simp only [stepOp] at h; simp only [execOp]; exact store_sound hs (hρ a (by simp [Op.operands])) (hρ x (by simp [Op.operands])) h
  case buildSlice t len parts =>
    simp only [stepOp] at h
    refine buildSlice_exec hs h fun p hp => hρ p.2 ?_
    simp only [Op.operands]
    simp
    exact ⟨p.1, by simpa using hp⟩
  case convert src dst x =>
    simp only [stepOp] at h
    have rx := hρ x (by simp [Op.operands])
    unfold convOp at h
    split at h
    · rename_i l hx
      rw [hx] at rx
      simp only [execOp]
      exact bytes_sound hs rx h
    · rename_i o e0 es hx
      rw [hx] at rx
      simp only [execOp]
      exact bytes_back_sound hs rx h
    · rename_i v hv _
      refine pure_bnd ?_
      simpa only [pureOp] using h
  case makeSlice t l c => simp only [stepOp] at h; simp only [execOp]; exact makeSlice_sound hs (hρ l (by simp [Op.operands])) (hρ c (by simp [Op.operands])) h
  case makeMap t r =>
    simp only [stepOp] at h
    cases r with
    | none => simp only [Option.some.injEq] at h; simp only [execOp]; have := makeMap_sound hs t; rw [h] at this; exact this
    | some _ => simp at h
  case mapUpdate t m k x => simp only [stepOp] at h; simp only [execOp]; exact mapUpdate_sound hs (hρ m (by simp [Op.operands])) (hρ k (by simp [Op.operands])) (hρ x (by simp [Op.operands])) h
  case insert t m k x => simp only [stepOp] at h; simp only [execOp]; exact mapUpdate_sound hs (hρ m (by simp [Op.operands])) (hρ k (by simp [Op.operands])) (hρ x (by simp [Op.operands])) h
  case call c =>
    simp only [stepOp] at h
    have hargs : RepL σ (c.args.toList.map ρa) (c.args.toList.map ρ) :=
      RepL.map _ _ _ fun x hx => hρ x (by
        simp only [Op.operands, Call.operands]
        exact Array.mem_append.2 (.inr (by simpa using hx)))
    unfold stepCall at h
    split at h
    · rename_i x hcal
      have rx : Rep σ (ρa x) (ρ x) := hρ x (by simp [Op.operands, Call.operands, hcal])
      unfold callA at h
      split at h
      · rename_i f first cap ht
        obtain ⟨us, vs, hu, r1, r2⟩ := target_spec ht rx
        have hall := (r1.append hargs).append r2
        split at h
        · cases hcl : closedCall E.P call f (first ++ c.args.toList.map ρa ++ cap) with
          | none => simp only [hcl, bnd, reduceCtorEq] at h
          | some v0 =>
            simp only [hcl, bnd, Option.some.injEq, Prod.mk.injEq] at h
            obtain ⟨rfl, rfl⟩ := h
            obtain ⟨h1, h2⟩ := closed_sound hs hc hall hcl
            rw [call_run rfl hcal hu h1]
            exact h2
        · obtain ⟨h1, h2⟩ := hc _ _ _ _ _ h
          rw [call_run rfl hcal hu h1]
          exact h2 B W0 σ w _ hs hall
      · cases h
    · rename_i hcal
      unfold appendOp at h
      split at h
      · rename_i x y t1 t2 hxy htt
        rw [hxy] at hargs
        rw [RepL.cons_iff] at hargs
        obtain ⟨u, us', e1, rx, q⟩ := hargs
        rw [RepL.cons_iff] at q
        obtain ⟨u2, us2, rfl, ry, q2⟩ := q
        rw [RepL.nil_iff] at q2
        subst q2
        have := append_sound (ty := ty) hs rx ry h
        have ea : c.args.map ρ = #[u, u2] := by apply Array.ext'; simp [e1]
        have et : c.argTypes = #[t1, t2] := by apply Array.ext'; simp [htt]
        simpa [execOp, resolve, hcal, invoke, builtin, ea, et] using this
      · cases h
    · rename_i hcal
      have := delete_sound (ty := ty) (us := c.args.map ρ) hs (by simpa only [Array.toList_map] using hargs) h
      simpa [execOp, resolve, hcal, invoke, builtin] using this
    · rename_i hcal
      have := clear_sound (ty := ty) (us := c.args.map ρ) hs (by simpa only [Array.toList_map] using hargs) h
      simpa [execOp, resolve, hcal, invoke, builtin] using this
    · rename_i hcal
      have := len_sound (ty := ty) (us := c.args.map ρ) hs (by simpa only [Array.toList_map] using hargs) h
      simpa [execOp, resolve, hcal, invoke, builtin] using this
    · exact pure_bnd h
  all_goals (simp only [stepOp] at h; with_reducible exact pure_bnd h)

end
end Go.Ab
