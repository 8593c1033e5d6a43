/- strings.Builder: what of its code lies outside the machine (addresses compared, bytes turned into a string in their place), by contract. -/
import Derived.Test.YtkpnccaoolbeeaaGreatDoorAc21
import Derived.Lib.UnsafeStr
namespace Go.Ab
set_option linter.unusedVariables false
open Go Go.RowKit

section
variable {P : Program} {B : Nat → Prop} {W0 : World} {H : AHeap} {σ : St} {w : World}

def isNilP : AV → Bool | .val (.pointer none) => true | _ => false
def isPtr0 (id : Nat) : AV → Bool | .ptr i 0 => i == id | _ => false

/-- copyCheck: the builder's own address. -/
def copyX (f0 : FuncId) (T : TypeId) : CallO := fun f args H =>
  if f = f0 then
    match args with
    | [.ptr id 0] => match H.get id with
      | some (.cells (some t) [c, v]) =>
        if t = T then (if isNilP c = true then some (.tup [], H.set id (.cells (some t) [.ptr id 0, v])) else if isPtr0 id c = true then some (.tup [], H) else none) else none
      | _ => none
    | _ => none
  else none

theorem isNilP_spec {c : AV} (h : isNilP c = true) : c = .val (.pointer none) := by
  unfold isNilP at h
  split at h
  · rfl
  · cases h
theorem isPtr0_spec {c : AV} {id : Nat} (h : isPtr0 id c = true) : c = .ptr id 0 := by
  unfold isPtr0 at h
  split at h
  · simp only [beq_iff_eq] at h; rw [h]
  · cases h

theorem setCell_row (w : World) (b : Nat) (c : Array Value) (e : TypeId) (v : Value) (h : w.heap[b]? = some (.cells c e (0, 0))) : w.setCell ⟨b, 0, none⟩ v = w.setRow b (c.setIfInBounds 0 v) := by
  have hb : b < w.heap.size := (Array.getElem?_eq_some_iff.1 h).1
  have hg : w.heap[b] = .cells c e (0, 0) := (Array.getElem?_eq_some_iff.1 h).2
  unfold World.setCell World.setRow
  congr 1
  apply Array.ext
  · simp
  · intro i h1 h2
    simp only [Array.getElem_modify]
    by_cases hi : b = i
    · subst hi
      simp [hg]
    · simp [hi]

theorem copyX_ok {f0 : FuncId} {T : TypeId} (hc : callable P f0)
    (h1 : ∀ (b : Nat) (w : World), w.cell? ⟨b, 0, none⟩ = some (.pointer (some ⟨b, 0, none⟩)) → Calls P f0 #[.pointer (some ⟨b, 0, none⟩)] w fun e w' => e = .returned (.tuple #[]) ∧ w' = w)
    (h2 : ∀ (b : Nat) (w : World), w.cell? ⟨b, 0, none⟩ = some (.pointer none) → w.shape? b = some (T, 2) → w.frozen? ⟨b, 0, none⟩ = false → Calls P f0 #[.pointer (some ⟨b, 0, none⟩)] w fun e w' => e = .returned (.tuple #[]) ∧ w' = w.setCell ⟨b, 0, none⟩ (.pointer (some ⟨b, 0, none⟩))) :
    CallOk P (copyX f0 T) := by
  intro f args H v H' hx
  unfold copyX at hx
  split at hx
  · rename_i hf
    subst hf
    refine ⟨hc, ?_⟩
    split at hx
    · rename_i id
      split at hx
      · rename_i t c x hg
        split at hx
        · rename_i ht
          subst ht
          intro B W0 σ w us hs hr
          simp only [RepL] at hr
          obtain ⟨u, us', rfl, hu, rfl⟩ := hr
          simp only [Rep] at hu
          obtain ⟨b, hb, rfl⟩ := hu
          obtain ⟨b', cc, e, q1, q2, q3, q4, q5, q6⟩ := hs.obj id _ hg
          rw [hb] at q1
          cases q1
          have := q6 _ rfl
          subst this
          simp only [RepL] at q4
          obtain ⟨u0, r1, e1, hu0, u1, r2, e2, hu1, e3⟩ := q4
          subst e3 e2
          have hcc : cc = #[u0, u1] := by
            apply Array.ext'
            simpa using e1
          subst hcc
          have hcell : w.cell? ⟨b, 0, none⟩ = some u0 := by rw [cell_of_row q3]; rfl
          split at hx
          · rename_i hn
            rw [isNilP_spec hn] at hu0
            simp only [Rep] at hu0
            subst hu0
            simp only [Option.some.injEq, Prod.mk.injEq] at hx
            obtain ⟨rfl, rfl⟩ := hx
            refine (h2 b w hcell (by simp [World.shape?, q3]) (by simp [World.frozen?, q3])).mono ?_
            rintro e w' ⟨rfl, rfl⟩
            refine ⟨_, rfl, σ, Ext.refl B σ, ?_, by simp [Rep, RepL]⟩
            rw [setCell_row w b _ _ _ q3]
            refine hs.set_cells hg hb q3 ?_
            simp only [RepL]
            exact ⟨_, _, rfl, by simp [Rep, hb], _, _, rfl, hu1, rfl⟩
          · split at hx
            · rename_i hn
              rw [isPtr0_spec hn] at hu0
              simp only [Rep] at hu0
              obtain ⟨b2, hb2, rfl⟩ := hu0
              rw [hb] at hb2
              cases hb2
              simp only [Option.some.injEq, Prod.mk.injEq] at hx
              obtain ⟨rfl, rfl⟩ := hx
              refine (h1 b w hcell).mono ?_
              rintro e w' ⟨rfl, rfl⟩
              exact ⟨_, rfl, σ, Ext.refl B σ, hs, by simp [Rep, RepL]⟩
            · cases hx
        · cases hx
      · cases hx
    · cases hx
  · cases hx

/-- String: the bytes, which nobody may write or append to from then on. -/
def stringX (f0 : FuncId) (T : TypeId) : CallO := fun f args H =>
  if f = f0 then
    match args with
    | [.ptr id 0] => match H.get id with
      | some (.cells (some t) [_, .vec o es]) =>
        if t = T then
          match o with
          | .nil => if es.length = 0 then some (.str [], H) else none
          | .own k => match H.get k with
            | some (.tip n et) => if et = 5 ∧ n = es.length ∧ n ≠ 0 then bnd (bytesA es) fun l => some (.str l, H.del k) else none
            | _ => none
          | _ => none
        else none
      | _ => none
    | _ => none
  else none

theorem touch_freeze (hs : Sim P B W0 H σ w) {k n : Nat} {et : TypeId} (hk : H.get k = some (.tip n et)) {g cap : Nat} (hg : σ.own k n = some (g, cap)) (m : Nat) : Sim P B W0 (H.del k) σ (w.drew.freeze ⟨g, 0, none⟩ m) := by
  have hB : ¬ B g := by
    obtain ⟨b, cap', c, s, q1, q2, _⟩ := hs.obj k _ hk
    rw [hg] at q1
    cases q1
    exact q2
  have hother : ∀ i, i ≠ g → (w.drew.freeze ⟨g, 0, none⟩ m).heap[i]? = w.heap[i]? := fun i hi => by
    unfold World.freeze
    split
    · rfl
    · simp only [Array.getElem?_modify]
      rw [if_neg (fun e => hi e.symm)]
      rfl
  refine (hs.del k).touch (b := g) hother (fun o => ?_) (hs.below.trans ⟨?_, ?_, ?_, ?_, fun i hi => hother i (by rintro rfl; exact hB hi)⟩) (fun id y hy he => ?_)
  · unfold World.freeze
    split
    · rfl
    · simp only [World.cell?, Array.getElem?_modify, if_true]
      have hdr : w.drew.heap[g]? = w.heap[g]? := rfl
      rw [hdr]
      cases h : w.heap[g]? with
      | none => rfl
      | some x => cases x <;> rfl
  · unfold World.freeze; split <;> rfl
  · unfold World.freeze; split <;> rfl
  · unfold World.freeze; split <;> rfl
  · unfold World.freeze; split
    · exact Nat.le_refl _
    · show w.heap.size ≤ (Array.modify w.heap g _).size
      simp
  · have hy' : H.get id = some y ∧ id ≠ k := by
      rw [AHeap.get_del] at hy
      split at hy
      · cases hy
      · rename_i hne; exact ⟨hy, fun e => hne e.symm⟩
    exact hy'.2 (hs.inj id k y _ hy'.1 hk (by rw [he]; simp [blk, hg]))

theorem stringX_ok {f0 : FuncId} {T : TypeId} (hc : callable P f0) (hsz : szQ P 5 = some 1)
    (h1 : ∀ (b : Nat) (p : Value) (w : World), w.heap[b]? = some (.cells #[p, .slice none 0 0] T (0, 0)) → Calls P f0 #[.pointer (some ⟨b, 0, none⟩)] w fun e w' => e = .returned (.string ⟨#[]⟩) ∧ w' = w.drew)
    (h2 : ∀ (b g cap : Nat) (p : Value) (cur : Array Value) (l : List UInt8) (w : World), w.heap[b]? = some (.cells #[p, .slice (some ⟨g, 0, none⟩) l.length cap] T (0, 0)) → w.heap[g]? = some (.cells cur 5 (0, 0)) → cur.size = cap → l.length ≤ cap → cap ≤ maxLen → l ≠ [] →
      (∀ j x, l[j]? = some x → w.cell? ⟨g, j, none⟩ = some (.int .u8 x.toNat)) → Calls P f0 #[.pointer (some ⟨b, 0, none⟩)] w fun e w' => e = .returned (.string ⟨l.toArray⟩) ∧ w' = w.drew.freeze ⟨g, 0, none⟩ l.length) :
    CallOk P (stringX f0 T) := by
  intro f args H v H' hx
  unfold stringX at hx
  split at hx
  · rename_i hf
    subst hf
    refine ⟨hc, ?_⟩
    split at hx
    · rename_i id
      split at hx
      · rename_i t c o es hg
        split at hx
        · rename_i ht
          subst ht
          intro B W0 σ w us hs hr
          simp only [RepL] at hr
          obtain ⟨u, us', rfl, hu, rfl⟩ := hr
          simp only [Rep] at hu
          obtain ⟨b, hb, rfl⟩ := hu
          obtain ⟨b', cc, e, q1, q2, q3, q4, q5, q6⟩ := hs.obj id _ hg
          rw [hb] at q1
          cases q1
          have := q6 _ rfl
          subst this
          simp only [RepL] at q4
          obtain ⟨u0, r1, e1, hu0, u1, r2, e2, hu1, e3⟩ := q4
          subst e3 e2
          have hcc : cc = #[u0, u1] := by
            apply Array.ext'
            simpa using e1
          subst hcc
          have hu1' := hu1
          simp only [Rep] at hu1
          obtain ⟨a, cap, rfl, hle, hown, hrow⟩ := hu1
          split at hx
          · split at hx
            · rename_i h0
              simp only [OwnOk] at hown
              obtain ⟨rfl, _, rfl⟩ := hown
              rw [h0] at q3
              simp only [Option.some.injEq, Prod.mk.injEq] at hx
              obtain ⟨rfl, rfl⟩ := hx
              refine (h1 b u0 w q3).mono ?_
              rintro e w' ⟨rfl, rfl⟩
              exact ⟨_, rfl, σ, Ext.refl B σ, hs.drew, by simp [Rep]⟩
            · cases hx
          · rename_i k
            split at hx
            · rename_i n et hk
              split at hx
              · rename_i hq
                obtain ⟨rfl, rfl, hn0⟩ := hq
                cases hby : bytesA es with
                | none => simp [hby, bnd] at hx
                | some l =>
                  simp only [hby, bnd, Option.some.injEq, Prod.mk.injEq] at hx
                  obtain ⟨rfl, rfl⟩ := hx
                  have hes := bytesA_spec hby
                  have hlen : es.length = l.length := by rw [hes]; simp
                  simp only [OwnOk] at hown
                  obtain ⟨g, hgo, rfl⟩ := hown
                  obtain ⟨g', cap', cur, s, p1, p2, p3, p4, p5, p6, p7, p8, p9⟩ := hs.obj k _ hk
                  rw [hgo] at p1
                  cases p1
                  rw [hsz] at p4
                  cases p4
                  have hl0 : l ≠ [] := by
                    rintro rfl
                    exact hn0 (by rw [hlen]; rfl)
                  have hcells : ∀ j x, l[j]? = some x → w.cell? ⟨g, j, none⟩ = some (.int .u8 x.toNat) := by
                    intro j x hj
                    have hw : allWidth 1 es = true := by rw [hes]; exact byteRow_width l
                    obtain ⟨a2, cap2, us, e4, _, _, r2, _, hc2, _⟩ := vec_cells hs hu1' hw
                    cases e4
                    have hfl : es.flatMap AV.cells = es := by rw [hes]; exact byteRow_flat l
                    rw [hfl] at r2
                    have hje : es[j]? = some (.int .u8 x.toNat) := by rw [hes]; simp [hj]
                    obtain ⟨u, hu, ru⟩ := r2.get hje
                    simp only [Rep] at ru
                    subst ru
                    have := hc2 _ rfl j _ hu
                    rw [Addr.add_mk] at this
                    simpa using this
                  rw [hlen] at q3
                  refine (h2 b g cap u0 cur l w q3 p3 (by simpa using p5) (by omega) p7 hl0 hcells).mono ?_
                  rintro e w' ⟨rfl, rfl⟩
                  exact ⟨_, rfl, σ, Ext.refl B σ, touch_freeze hs hk hgo _, by simp [Rep]⟩
              · cases hx
            · cases hx
          · cases hx
        · cases hx
      · cases hx
    · cases hx
  · cases hx

/-- One contract, or else another. -/
def orX (a b : CallO) : CallO := fun f args H => match a f args H with | some r => some r | none => b f args H
theorem orX_ok {a b : CallO} (ha : CallOk P a) (hb : CallOk P b) : CallOk P (orX a b) := by
  intro f args H v H' h
  unfold orX at h
  split at h
  · rename_i r hr
    cases h
    exact ha f args H v H' hr
  · exact hb f args H v H' h
end
end Go.Ab
