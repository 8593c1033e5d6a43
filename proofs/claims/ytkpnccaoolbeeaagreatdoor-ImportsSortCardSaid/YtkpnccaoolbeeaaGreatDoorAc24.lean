/- slices.SortFunc over a row of structs of two texts and 'true', strings.Count of a byte: by contract. -/
import Derived.Test.YtkpnccaoolbeeaaGreatDoorAc23
namespace Go.Ab
set_option linter.unusedVariables false
open Go Go.RowKit

section
variable {P : Program} {B : Nat → Prop} {W0 : World} {H : AHeap} {σ : St} {w : World}

/-- Two texts. -/
abbrev Pr := List UInt8 × List UInt8
def encP (x : Pr) : List AV := [.str x.1, .str x.2, .bool true]
def encV (x : Pr) : List Value := [.string ⟨x.1.toArray⟩, .string ⟨x.2.toArray⟩, .bool true]
def pairsA : List AV → Option (List Pr)
  | [] => some []
  | .str m :: .str v :: .bool true :: r => bnd (pairsA r) fun l => some ((m, v) :: l)
  | _ => none

theorem pairsA_spec : ∀ (l : List Pr) {cs : List AV}, pairsA cs = some l → cs = l.flatMap encP
  | l, [], h => by simp only [pairsA, Option.some.injEq] at h; subst h; rfl
  | l, [_], h => by unfold pairsA at h; split at h <;> simp_all
  | l, [_, _], h => by unfold pairsA at h; split at h <;> simp_all
  | l, a :: b :: c :: r, h => by
    unfold pairsA at h
    split at h
    · rename_i hq; cases hq
    · rename_i m v r' hq
      simp only [List.cons.injEq] at hq
      obtain ⟨rfl, rfl, rfl, rfl⟩ := hq
      cases hb : pairsA r with
      | none => simp [hb, bnd] at h
      | some l' =>
        simp only [hb, bnd, Option.some.injEq] at h
        subst h
        have ih := pairsA_spec l' hb
        simp only [List.flatMap_cons, encP, List.cons_append, List.nil_append]
        rw [ih]
    · cases h

theorem encP_rep : ∀ l : List Pr, RepL σ (l.flatMap encP) (l.flatMap encV)
  | [] => by simp [RepL]
  | x :: l => by
    simp only [List.flatMap_cons]
    refine RepL.append ?_ (encP_rep l)
    simp [encP, encV, RepL, Rep]

theorem encP_uniq : ∀ (l : List Pr) {us : List Value}, RepL σ (l.flatMap encP) us → us = l.flatMap encV
  | [], us, h => by simpa [RepL] using h
  | x :: l, us, h => by
    simp only [List.flatMap_cons, encP, List.cons_append, List.nil_append, RepL, Rep] at h
    obtain ⟨u1, r1, rfl, rfl, u2, r2, rfl, rfl, u3, r3, rfl, rfl, h⟩ := h
    rw [encP_uniq l h]
    rfl
theorem encV_one : ∀ (l : List Pr), ∀ u ∈ l.flatMap encV, u.oneCell' = true := by
  intro l u hu
  obtain ⟨x, _, hx⟩ := List.mem_flatMap.1 hu
  simp only [encV, List.mem_cons, List.not_mem_nil, or_false] at hx
  rcases hx with rfl | rfl | rfl <;> rfl
theorem encP_len (l : List Pr) : (l.flatMap encP).length = l.length * 3 := by
  induction l with
  | nil => rfl
  | cons x l ih => simp only [List.flatMap_cons, List.length_append, ih, encP, List.length_cons, List.length_nil]; omega
theorem encV_len (l : List Pr) : (l.flatMap encV).length = l.length * 3 := by
  induction l with
  | nil => rfl
  | cons x l ih => simp only [List.flatMap_cons, List.length_append, ih, encV, List.length_cons, List.length_nil]; omega

/-- Function f0 sorts a row by the closure g; srt is how. -/
def sortX (f0 g : FuncId) (srt : List Pr → List Pr) : CallO := fun f args H =>
  if f = f0 then
    match args with
    | [.vec _ [], .fn (.func _) [] []] => some (.tup [], H)
    | [.sl id s off n, .fn (.func g') [] []] =>
      if n = 0 then some (.tup [], H) else
      if g' = g ∧ s = 3 ∧ off = 0 then
        match H.get id with
        | some (.row m et s2 cs) => if s2 = 3 ∧ n ≤ m ∧ n ≤ 1099511627776 then bnd (pairsA (cs.take (n * 3))) fun l => some (.tup [], H.set id (.row m et 3 (overlay cs 0 ((srt l).flatMap encP)))) else none
        | _ => none
      else none
    | _ => none
  else none

theorem sortX_ok {f0 g : FuncId} {srt : List Pr → List Pr} (hc : callable P f0) (hsl : ∀ l, (srt l).length = l.length)
    (h0 : ∀ (p : Option Addr) (cap : Nat) (fv : Value) (w : World), Calls P f0 #[.slice p 0 cap, fv] w fun e w' => e = .returned (.tuple #[]) ∧ w' = w)
    (h1 : ∀ (b cap : Nat) (l : List Pr) (c : Array Value) (et : TypeId) (w : World), w.heap[b]? = some (.cells c et (0, 0)) → c.toList.take (l.length * 3) = l.flatMap encV → l.length * 3 ≤ c.size → l ≠ [] → l.length ≤ 1099511627776 →
      Calls P f0 #[.slice (some ⟨b, 0, none⟩) l.length cap, .func (.func g) #[] #[]] w fun e w' => e = .returned (.tuple #[]) ∧ Below w.heap.size (w.setRow b ((srt l).flatMap encV ++ c.toList.drop (l.length * 3)).toArray) w') :
    CallOk P (sortX f0 g srt) := by
  intro f args H v H' hx
  unfold sortX at hx
  split at hx
  · rename_i hf
    subst hf
    refine ⟨hc, ?_⟩
    split at hx
    · rename_i o g'
      simp only [Option.some.injEq, Prod.mk.injEq] at hx
      obtain ⟨rfl, rfl⟩ := hx
      intro B W0 σ w us hs hr
      simp only [RepL] at hr
      obtain ⟨u, us', rfl, hu, u2, us2, rfl, hu2, rfl⟩ := hr
      simp only [Rep] at hu
      obtain ⟨a, cap, rfl, _⟩ := hu
      refine (h0 a cap u2 w).mono ?_
      rintro e w' ⟨rfl, rfl⟩
      exact ⟨_, rfl, σ, Ext.refl B σ, hs, by simp [Rep, RepL]⟩
    · rename_i id s off n g'
      split at hx
      · rename_i hn0
        subst hn0
        simp only [Option.some.injEq, Prod.mk.injEq] at hx
        obtain ⟨rfl, rfl⟩ := hx
        intro B W0 σ w us hs hr
        simp only [RepL] at hr
        obtain ⟨u, us', rfl, hu, u2, us2, rfl, hu2, rfl⟩ := hr
        simp only [Rep] at hu
        obtain ⟨b, cap, _, _, rfl, _⟩ := hu
        refine (h0 _ _ u2 w).mono ?_
        rintro e w' ⟨rfl, rfl⟩
        exact ⟨_, rfl, σ, Ext.refl B σ, hs, by simp [Rep, RepL]⟩
      · rename_i hn0
        split at hx
        · rename_i hq
          obtain ⟨rfl, rfl, rfl⟩ := hq
          split at hx
          · rename_i m et s2 cs hg
            split at hx
            · rename_i hq
              obtain ⟨rfl, hnm, hnb⟩ := hq
              cases hp : pairsA (cs.take (n * 3)) with
              | none => simp [hp, bnd] at hx
              | some l =>
                simp only [hp, bnd, Option.some.injEq, Prod.mk.injEq] at hx
                obtain ⟨rfl, rfl⟩ := hx
                have hcs := pairsA_spec l hp
                intro B W0 σ w us hs hr
                simp only [RepL] at hr
                obtain ⟨u, us', rfl, hu, u2, us2, rfl, hu2, rfl⟩ := hr
                simp only [Rep] at hu hu2
                obtain ⟨b, cap, hb, hown, rfl, hcap⟩ := hu
                obtain ⟨f1, f2, rfl, hf1, hf2⟩ := hu2
                simp only [RepL] at hf1 hf2
                subst hf1 hf2
                obtain ⟨b', cap', c, q1, q1', q2, q3, q4, q5, q6, q7, q8, q9, q10, q11, q12⟩ := hs.obj id _ hg
                rw [hb] at q1
                cases q1
                rw [hown] at q1'
                cases q1'
                have hcl : cs.length = m * 3 := q9
                have hn3 : n * 3 ≤ m * 3 := Nat.mul_le_mul_right _ hnm
                have hln : l.length = n := by
                  have := congrArg List.length hcs
                  rw [encP_len, List.length_take] at this
                  omega
                have hcs3 : m * 3 ≤ c.size := by rw [q6]; exact Nat.mul_le_mul_right _ q7
                have hus : c.toList.take (n * 3) = l.flatMap encV := by
                  refine encP_uniq (σ := σ) l ?_
                  rw [← hcs]
                  have := q10.take (n * 3)
                  rwa [List.take_take, Nat.min_eq_left hn3] at this
                have hfit : 0 + ((srt l).flatMap encP).length ≤ cs.length := by rw [encP_len, hsl]; omega
                obtain ⟨b2, cap2, c2, hb2, _, hh2, _, hsim⟩ := hs.set_row (o := 0) hg (encP_rep (srt l)) (encV_one (srt l)) hfit
                rw [hb] at hb2
                cases hb2
                rw [q3] at hh2
                cases hh2
                simp only [Nat.zero_mul, Nat.sub_zero]
                rw [← hln]
                refine (h1 b cap l c et w q3 (by rw [hln]; exact hus) (by omega) (by intro h; subst h; simp at hln; omega) (by omega)).mono ?_
                rintro e w' ⟨rfl, hbel⟩
                refine ⟨_, rfl, σ, Ext.refl B σ, ?_, by simp [Rep, RepL]⟩
                have hE : (c.toList.take 0 ++ (srt l).flatMap encV ++ c.toList.drop (0 + ((srt l).flatMap encV).length)).toArray = ((srt l).flatMap encV ++ c.toList.drop (l.length * 3)).toArray := by
                  rw [Nat.zero_add, encV_len, hsl, List.take_zero, List.nil_append]
                rw [hE] at hsim
                refine hsim.under ?_
                have hsz : (w.setRow b ((srt l).flatMap encV ++ c.toList.drop (l.length * 3)).toArray).heap.size = w.heap.size := by simp [World.setRow]
                rw [hsz]
                exact hbel
            · cases hx
          · cases hx
        · cases hx
    · cases hx
  · cases hx

/-- How often a byte stands in a text. -/
def countX (f0 : FuncId) : CallO := fun f args H =>
  match args with
  | [.str l, .str [c]] => if f = f0 then some (.int .i64 (Lib.countByte l c : Nat), H) else none
  | _ => none

theorem countX_ok {f0 : FuncId} (hc : callable P f0) (h : ∀ (s : ByteArray) (c : UInt8) (w : World), Calls P f0 #[.string s, .string ⟨#[c]⟩] w fun e w' => e = .returned (.int .i64 (Lib.countByte s.data.toList c : Nat)) ∧ w' = w) : CallOk P (countX f0) := by
  intro f args H v H' hx
  unfold countX at hx
  split at hx
  · rename_i l c
    split at hx
    · rename_i hf
      subst hf
      simp only [Option.some.injEq, Prod.mk.injEq] at hx
      obtain ⟨rfl, rfl⟩ := hx
      refine ⟨hc, ?_⟩
      intro B W0 σ w us hs hr
      simp only [RepL] at hr
      obtain ⟨u, us', rfl, h1, u2, us2, rfl, h2, rfl⟩ := hr
      simp only [Rep] at h1 h2
      subst h1 h2
      refine (h ⟨l.toArray⟩ c w).mono ?_
      rintro e w' ⟨rfl, rfl⟩
      exact ⟨_, rfl, σ, Ext.refl B σ, hs, by simp [Rep]⟩
    · cases hx
  · cases hx
end
end Go.Ab
