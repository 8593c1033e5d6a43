/- Unit.item, as a function that the machine takes by contract. -/
import Derived.Test.YtiagmokcjljliaaGreatDoorIt
import Derived.Test.YtiagmokcjljliaaGreatDoorAm5
namespace Go.Proofs.YtiagmokcjljliaaGreatDoor
set_option linter.unusedVariables false
open Go Go.RowKit Go.Proofs Go.Ab

abbrev BndA := Int × Int × List UInt8 × Int
def zA : BndA := (0, 0, [], 0)
def bndsA : List AV → Option (List BndA)
  | [] => some []
  | .agg [.int .i64 a, .int .i64 k, .str l, .int .i64 i] :: r => bnd (bndsA r) fun zs => some ((a, k, l, i) :: zs)
  | _ :: _ => none

def itemX : CallO := fun f args H =>
  if f = 318 then
    match args with
    | [.agg [_, _, _, _, _, _, _, _, _, .vec _ es, _, _, _, _], .str w] =>
      if es.length ≠ 0 ∧ es.length * 40 ≤ 140737488351232 then bnd (bndsA es) fun zs => some (.int .i64 (lastHit (fun j => decide ((zs[j]?.getD zA).2.1 = 2) && ((zs[j]?.getD zA).2.2.1 == w)) zs.length), H) else none
    | _ => none
  else none

theorem bndsA_spec : ∀ {es : List AV} {zs : List BndA}, bndsA es = some zs → es = zs.map fun z => .agg [.int .i64 z.1, .int .i64 z.2.1, .str z.2.2.1, .int .i64 z.2.2.2]
  | [], zs, h => by simp only [bndsA, Option.some.injEq] at h; subst h; rfl
  | e :: es, zs, h => by
    have ih := @bndsA_spec es
    unfold bndsA at h
    split at h
    · rename_i hq; cases hq
    · rename_i a k l i r hq
      cases hq
      cases hb : bndsA es with
      | none => rw [hb] at h; cases h
      | some l' =>
        rw [hb] at h
        cases h
        rw [ih hb]
        rfl
    · cases h

def toB (z : BndA) : Bnd := (z.1, z.2.1, ⟨z.2.2.1.toArray⟩, z.2.2.2)

theorem itemX_ok : CallOk Tryz.prog itemX := by
  intro f args H v H' hx
  unfold itemX at hx
  split at hx
  · rename_i hf
    subst hf
    refine ⟨⟨_, Tryz.func318, by kernel_rfl, by kernel_rfl⟩, ?_⟩
    split at hx
    · rename_i a0 a1 a2 a3 a4 a5 a6 a7 a8 o es b0 b1 b2 b3 wd
      split at hx
      · rename_i hq
        obtain ⟨hne, hreach⟩ := hq
        cases hb : bndsA es with
        | none => simp [hb, bnd] at hx
        | some zs =>
          simp only [hb, bnd, Option.some.injEq, Prod.mk.injEq] at hx
          obtain ⟨rfl, rfl⟩ := hx
          have hes := bndsA_spec hb
          have hlen : es.length = zs.length := by rw [hes]; simp
          intro B W0 σ w us hs hr
          simp only [RepL] at hr
          obtain ⟨u, r1, rfl, hu, u', r2, rfl, hw, rfl⟩ := hr
          simp only [Rep] at hu hw
          subst hw
          obtain ⟨cs, rfl, hcs⟩ := hu
          simp only [RepL] at hcs
          obtain ⟨x0, q0, rfl, _, x1, q1, rfl, _, x2, q2, rfl, _, x3, q3, rfl, _, x4, q4, rfl, _, x5, q5, rfl, _, x6, q6, rfl, _, x7, q7, rfl, _, x8, q8, rfl, _, x9, q9, rfl, h9, x10, q10, rfl, _, x11, q11, rfl, _, x12, q12, rfl, _, x13, q13, rfl, _, rfl⟩ := hcs
          simp only [Rep] at h9
          obtain ⟨a, cap, rfl, hle, _, hrow⟩ := h9
          rcases hrow with h | ⟨b, off, s, rfl, hrow⟩
          · rw [h] at hne; exact absurd rfl hne
          have key : ∀ j, j < zs.length → w.cell? ⟨b, off + j * 4, none⟩ = some (.int .i64 ((zs.map toB)[j]?.getD zB).1) ∧ w.cell? ⟨b, off + j * 4 + 1, none⟩ = some (.int .i64 ((zs.map toB)[j]?.getD zB).2.1) ∧
              w.cell? ⟨b, off + j * 4 + 2, none⟩ = some (.string ((zs.map toB)[j]?.getD zB).2.2.1) ∧ w.cell? ⟨b, off + j * 4 + 3, none⟩ = some (.int .i64 ((zs.map toB)[j]?.getD zB).2.2.2) := by
            intro j hj
            have hj' : zs[j]? = some zs[j] := List.getElem?_eq_getElem hj
            have hje : es[j]? = some (.agg [.int .i64 zs[j].1, .int .i64 zs[j].2.1, .str zs[j].2.2.1, .int .i64 zs[j].2.2.2]) := by rw [hes]; simp [hj']
            obtain ⟨u, ru, hsz, hc⟩ := hrow.get j _ hje
            simp only [Rep] at ru
            obtain ⟨ds, rfl, hds⟩ := ru
            simp only [RepL] at hds
            obtain ⟨y0, p0, rfl, e0, y1, p1, rfl, e1, y2, p2, rfl, e2, y3, p3, rfl, e3, rfl⟩ := hds
            simp only [Rep] at e0 e1 e2 e3
            subst e0 e1 e2 e3
            have h4 : s = 4 := by rw [← hsz]; rfl
            subst h4
            have hm : (zs.map toB)[j]?.getD zB = toB zs[j] := by simp [hj']
            rw [hm]
            exact ⟨hs.cells _ _ _ (hc 0 _ rfl), hs.cells _ _ _ (hc 1 _ rfl), hs.cells _ _ _ (hc 2 _ rfl), hs.cells _ _ _ (hc 3 _ rfl)⟩
          have hb : b < w.heap.size := by
            have := (key 0 (by omega)).1
            rcases Nat.lt_or_ge b w.heap.size with h | h
            · exact h
            · simp [World.cell?, Array.getElem?_eq_none h] at this
          have hI : Bnds w.heap.size w (.slice (some ⟨b, off, none⟩) es.length cap) (zs.map toB) :=
            .inr ⟨b, off, cap, by simp [hlen], hb, fun j hj => key j (by simpa using hj)⟩
          refine (callsIn_wide.1 (item_in Fence.wide 6 trivial trivial trivial rfl (by omega) x0 x1 x2 x3 x4 x5 x6 x7 x8 x10 x11 x12 x13 (some ⟨b, off, none⟩) es.length cap ⟨wd.toArray⟩ (zs.map toB) (by simpa [hlen] using hreach) w hI)).mono ?_
          rintro e w' ⟨rfl, hbel⟩
          refine ⟨_, rfl, σ, Ext.refl B σ, hs.under hbel, ?_⟩
          have : (fun j => decide ((zs[j]?.getD zA).2.1 = 2) && ((zs[j]?.getD zA).2.2.1 == wd)) = hitAt ⟨wd.toArray⟩ (zs.map toB) := by
            funext j
            unfold hitAt hit
            cases hj : zs[j]? with
            | none =>
              simp only [List.getElem?_map, hj, Option.map_none, Option.getD_none]
              rfl
            | some z =>
              simp only [List.getElem?_map, hj, Option.map_some, Option.getD_some, toB]
              rw [ByteArray.toList_mk, ByteArray.toList_mk]
          rw [this]
          simp [Rep]
      · cases hx
    · cases hx
  · cases hx
end Go.Proofs.YtiagmokcjljliaaGreatDoor
