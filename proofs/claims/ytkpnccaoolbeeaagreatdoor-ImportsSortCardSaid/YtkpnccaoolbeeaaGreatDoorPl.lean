/- ImportsSort, in plain Lean: putting in one by one, from the end, gives what any sort gives. -/
import Derived.Test.YtkpnccaoolbeeaaGreatDoorAc24
namespace Go.Proofs.YtkpnccaoolbeeaaGreatDoor
set_option linter.unusedVariables false
open Go Go.Ab

abbrev bl := Op.bytesLess
theorem bl_lt : ∀ (x y : List UInt8), bl x y = decide (x < y)
  | [], [] => by simp [Op.bytesLess]
  | _ :: _, [] => by simp [Op.bytesLess]
  | [], _ :: _ => by simp [Op.bytesLess]
  | a :: x, b :: y => by
    have ih : Op.bytesLess x y = decide (x < y) := bl_lt x y
    simp only [Op.bytesLess, List.cons_lt_cons_iff]
    rw [ih]
    by_cases h1 : a < b <;> by_cases h2 : a = b <;> by_cases h3 : x < y <;> simp [h1, h2, h3]
theorem bl_irrefl (x : List UInt8) : bl x x = false := by rw [bl_lt]; simp
theorem bl_trans {x y z : List UInt8} (h : bl x y = true) (k : bl y z = true) : bl x z = true := by
  rw [bl_lt] at *
  simp only [decide_eq_true_eq] at *
  exact List.lt_trans h k
theorem bl_tri {x y : List UInt8} (h : bl x y = false) (k : bl y x = false) : x = y := by
  rw [bl_lt] at *
  simp only [decide_eq_false_iff_not] at *
  exact List.le_antisymm (List.not_lt.1 k) (List.not_lt.1 h)
theorem bl_asymm {x y : List UInt8} (h : bl x y = true) : bl y x = false := by
  cases k : bl y x with
  | false => rfl
  | true => have := bl_trans h k; rw [bl_irrefl] at this; cases this

def ltP (x y : Pr) : Bool := bl x.1 y.1 || (x.1 == y.1 && bl x.2 y.2)
theorem ltP_iff (x y : Pr) : ltP x y = true ↔ bl x.1 y.1 = true ∨ (x.1 = y.1 ∧ bl x.2 y.2 = true) := by simp [ltP]
theorem ltP_irrefl (x : Pr) : ltP x x = false := by simp [ltP, bl_irrefl]
theorem ltP_trans {x y z : Pr} (h : ltP x y = true) (k : ltP y z = true) : ltP x z = true := by
  rw [ltP_iff] at *
  rcases h with h | ⟨h1, h2⟩ <;> rcases k with k | ⟨k1, k2⟩
  · exact .inl (bl_trans h k)
  · exact .inl (k1 ▸ h)
  · exact .inl (h1 ▸ k)
  · exact .inr ⟨h1.trans k1, bl_trans h2 k2⟩
theorem ltP_tri {x y : Pr} (h : ltP x y = false) (k : ltP y x = false) : x = y := by
  have h' : ¬ (bl x.1 y.1 = true ∨ (x.1 = y.1 ∧ bl x.2 y.2 = true)) := by rw [← ltP_iff, h]; simp
  have k' : ¬ (bl y.1 x.1 = true ∨ (y.1 = x.1 ∧ bl y.2 x.2 = true)) := by rw [← ltP_iff, k]; simp
  simp only [not_or, not_and, Bool.not_eq_true] at h' k'
  have e := bl_tri h'.1 k'.1
  exact Prod.ext e (bl_tri (h'.2 e) (k'.2 e.symm))
theorem ltP_asymm {x y : Pr} (h : ltP x y = true) : ltP y x = false := by
  cases k : ltP y x with
  | false => rfl
  | true => have := ltP_trans h k; rw [ltP_irrefl] at this; cases this
theorem ltP_ntrans {x y z : Pr} (h : ltP x y = false) (k : ltP y z = false) : ltP x z = false := by
  cases c : ltP x z with
  | false => rfl
  | true =>
    cases d : ltP y x with
    | true => rw [ltP_trans d c] at k; cases k
    | false => have := ltP_tri h d; subst this; rw [c] at k; cases k

abbrev leP (x y : Pr) : Prop := (!ltP y x) = true
def srt (l : List Pr) : List Pr := l.mergeSort fun x y => !ltP y x
theorem srt_perm (l : List Pr) : (srt l).Perm l := List.mergeSort_perm _ _
theorem srt_len (l : List Pr) : (srt l).length = l.length := (srt_perm l).length_eq
theorem srt_sorted (l : List Pr) : (srt l).Pairwise leP := by
  refine List.pairwise_mergeSort (le := fun x y => !ltP y x) ?_ ?_ l
  · intro a b c h1 h2
    simp only [Bool.not_eq_true'] at *
    exact ltP_ntrans h2 h1
  · intro a b
    cases h : ltP b a with
    | false => simp
    | true => simp [ltP_asymm h]
theorem sorted_uniq {l m : List Pr} (hp : l.Perm m) (hl : l.Pairwise leP) (hm : m.Pairwise leP) : l = m :=
  List.Perm.eq_of_pairwise (le := leP) (fun a b _ _ h1 h2 => by
    simp only [leP, Bool.not_eq_true'] at h1 h2
    exact ltP_tri h2 h1) hl hm hp

def pos (out : List Pr) (x : Pr) : Nat → Nat
  | 0 => 0
  | n + 1 => match out[n]? with
    | some y => if ltP x y = true then pos out x n else n + 1
    | none => n + 1
theorem pos_le (out : List Pr) (x : Pr) : ∀ n, pos out x n ≤ n
  | 0 => Nat.le_refl _
  | n + 1 => by
    have := pos_le out x n
    simp only [pos]
    split
    · split <;> omega
    · omega
theorem pos_after (out : List Pr) (x : Pr) : ∀ n, n ≤ out.length → ∀ j y, pos out x n ≤ j → j < n → out[j]? = some y → ltP x y = true
  | 0, _, j, y, _, h, _ => by omega
  | n + 1, hn, j, y, h1, h2, h3 => by
    have hg : out[n]? = some out[n] := List.getElem?_eq_getElem (by omega)
    simp only [pos, hg] at h1
    split at h1
    · rename_i hlt
      by_cases e : j = n
      · subst e
        rw [hg] at h3
        cases h3
        exact hlt
      · exact pos_after out x n (by omega) j y h1 (by omega) h3
    · omega
theorem pos_before (out : List Pr) (x : Pr) : ∀ n, n ≤ out.length → ∀ m y, pos out x n = m + 1 → out[m]? = some y → ltP x y = false
  | 0, _, m, y, h, _ => by simp [pos] at h
  | n + 1, hn, m, y, h, h3 => by
    have hg : out[n]? = some out[n] := List.getElem?_eq_getElem (by omega)
    simp only [pos, hg] at h
    split at h
    · exact pos_before out x n (by omega) m y h h3
    · rename_i hlt
      have : m = n := by omega
      subst this
      rw [hg] at h3
      cases h3
      simpa using hlt

def insR (out : List Pr) (x : Pr) : List Pr := out.take (pos out x out.length) ++ x :: out.drop (pos out x out.length)
theorem insR_len (out : List Pr) (x : Pr) : (insR out x).length = out.length + 1 := by
  have := pos_le out x out.length
  simp only [insR, List.length_append, List.length_take, List.length_cons, List.length_drop]
  omega
theorem insR_perm (out : List Pr) (x : Pr) : (insR out x).Perm (x :: out) := by
  have := List.perm_middle (a := x) (l₁ := out.take (pos out x out.length)) (l₂ := out.drop (pos out x out.length))
  rwa [List.take_append_drop] at this
theorem insR_sorted {out : List Pr} (x : Pr) (h : out.Pairwise leP) : (insR out x).Pairwise leP := by
  have hsplit := h
  rw [← List.take_append_drop (pos out x out.length) out, List.pairwise_append] at hsplit
  obtain ⟨h1, h2, h3⟩ := hsplit
  have hle := pos_le out x out.length
  unfold insR
  rw [List.pairwise_append, List.pairwise_cons]
  refine ⟨h1, ⟨fun b hb => ?_, h2⟩, fun a ha b hb => ?_⟩
  · obtain ⟨j, hj⟩ := List.getElem?_of_mem hb
    rw [List.getElem?_drop] at hj
    have hjl := (List.getElem?_eq_some_iff.1 hj).1
    have := pos_after out x out.length (Nat.le_refl _) _ b (Nat.le_add_right _ _) hjl hj
    simp [leP, ltP_asymm this]
  · rw [List.mem_cons] at hb
    rcases hb with rfl | hb
    · obtain ⟨i, hi⟩ := List.getElem?_of_mem ha
      have hil := (List.getElem?_eq_some_iff.1 hi).1
      rw [List.length_take] at hil
      cases hp : pos out b out.length with
      | zero => rw [hp] at hil; omega
      | succ m =>
        rw [hp] at hil hi
        rw [List.getElem?_take_of_lt (by omega)] at hi
        have hm : m < out.length := by omega
        have hbm := pos_before out b out.length (Nat.le_refl _) m out[m] hp (List.getElem?_eq_getElem hm)
        have ham : leP a out[m] := by
          by_cases e : i = m
          · subst e
            rw [List.getElem?_eq_getElem hm] at hi
            cases hi
            simp [leP, ltP_irrefl]
          · have hi2 := (List.getElem?_eq_some_iff.1 hi)
            obtain ⟨hi3, rfl⟩ := hi2
            exact List.pairwise_iff_getElem.1 h i m hi3 hm (by omega)
        simp only [leP, Bool.not_eq_true'] at ham ⊢
        exact ltP_ntrans hbm ham
    · exact h3 a ha b hb

def refS (l : List Pr) : List Pr := l.foldl insR []
theorem refS_go : ∀ (l out : List Pr), out.Pairwise leP → (l.foldl insR out).Pairwise leP ∧ (l.foldl insR out).Perm (out ++ l)
  | [], out, h => ⟨h, by simp⟩
  | x :: l, out, h => by
    obtain ⟨h1, h2⟩ := refS_go l (insR out x) (insR_sorted x h)
    refine ⟨h1, h2.trans ?_⟩
    have := (insR_perm out x).append_right l
    refine this.trans ?_
    simpa using (List.perm_middle (a := x) (l₁ := out) (l₂ := l)).symm
theorem refS_eq (l : List Pr) : refS l = srt l := by
  obtain ⟨h1, h2⟩ := refS_go l [] List.Pairwise.nil
  exact sorted_uniq ((show (l.foldl insR []).Perm l by simpa using h2).trans (srt_perm l).symm) h1 (srt_sorted l)

/-! What cmp gives. -/
def cmpL (x y : List UInt8) : Int := if bl x y = true then -1 else if (!(bl x y || x == y)) = true then 1 else 0
def cfP (x y : Pr) : Int := if cmpL x.1 y.1 ≠ 0 then cmpL x.1 y.1 else cmpL x.2 y.2
theorem cmpL_neg (x y : List UInt8) : cmpL x y < 0 ↔ bl x y = true := by
  unfold cmpL
  split
  · rename_i h; simp [h]
  · rename_i h
    split <;> simp [h]
theorem cmpL_zero (x y : List UInt8) : cmpL x y = 0 ↔ x = y := by
  unfold cmpL
  constructor
  · intro h
    split at h
    · simp at h
    · rename_i h1
      split at h
      · simp at h
      · rename_i h2
        simp only [Bool.not_eq_true', Bool.or_eq_false_iff, not_and, Bool.not_eq_false] at h2
        simpa using h2 (by simpa using h1)
  · rintro rfl
    simp [bl_irrefl]
theorem cfP_lt (x y : Pr) : decide (cfP x y < 0) = ltP x y := by
  rw [Bool.eq_iff_iff, decide_eq_true_eq, ltP_iff]
  unfold cfP
  split
  · rename_i h
    rw [cmpL_neg]
    constructor
    · exact .inl
    · rintro (h1 | ⟨h1, _⟩)
      · exact h1
      · exact absurd ((cmpL_zero _ _).2 h1) h
  · rename_i h
    have h' : x.1 = y.1 := (cmpL_zero _ _).1 (by simpa using h)
    rw [cmpL_neg]
    constructor
    · exact fun k => .inr ⟨h', k⟩
    · rintro (h1 | ⟨_, h2⟩)
      · rw [h', bl_irrefl] at h1; cases h1
      · exact h2
end Go.Proofs.YtkpnccaoolbeeaaGreatDoor
