/- Text.Place. -/
import Derived.Test.YtkhhkfgehmogoaaS11
namespace Go.Proofs.Ytkhhkfgehmogoaa
set_option linter.unusedVariables false
set_option linter.unusedSimpArgs false
open Go Go.Ab

theorem low_ex (t : Int) : ∀ (L : List Int), L.Pairwise (· < ·) → ∃ p : Nat, p ≤ L.length ∧ ∀ (q : Nat) (x : Int), L[q]? = some x → (q < p ↔ x < t)
  | [], _ => ⟨0, by simp, fun q x h => by simp at h⟩
  | y :: r, h => by
    rw [List.pairwise_cons] at h
    by_cases c : y < t
    · obtain ⟨p, h1, h2⟩ := low_ex t r h.2
      refine ⟨p + 1, by simp; omega, fun q x hq => ?_⟩
      cases q with
      | zero => simp at hq; subst hq; simp [c]
      | succ q => simp at hq; have := h2 q x hq; omega
    · refine ⟨0, by simp, fun q x hq => ?_⟩
      have : ¬ x < t := by
        cases q with
        | zero => simp at hq; subst hq; exact c
        | succ q =>
          simp at hq
          have := h.1 x (List.mem_of_getElem? hq)
          omega
      omega

theorem nextOf_get {s : List UInt8} {L : List Int} {j : Nat} (h : j < L.length) : nextOf s L j = L[j] := by simp [nextOf, List.getElem?_eq_getElem h]
theorem nextOf_end {s : List UInt8} {L : List Int} {j : Nat} (h : L.length ≤ j) : nextOf s L j = s.length + 1 := by simp [nextOf, List.getElem?_eq_none h]

theorem place_out (s : List UInt8) (L : List Int) (at_ : Int) (h : at_ < 0 ∨ (s.length : Int) < at_) : closedCall (run env) 21 [.agg [.str s, .vec .ro (ints L)], .int .i64 at_] = some (.tup [.int .i64 0, .int .i64 0, .int .i64 6]) := by
  refine closed_of (v := .tup [.int .i64 0, .int .i64 0, .int .i64 6]) (fn := Try.f21) rfl Try.func21 rfl (by rw [Try.ntmps21]; simp) (args' := [.agg [.str s, .vec .ro (ints L)], .int .i64 at_]) rfl (by simp [AV.noPtr, AV.noPtr.go, ints_np]) ?_ rfl rfl
  by_cases c1 : at_ < 0
  · have d1 : decide (at_ < 0) = true := decide_eq_true c1
    simp only [go_sem, Try.results21, envP, ↓reduceIte, Nat.reduceEqDiff, Nat.reduceAdd, Nat.reduceLT, d1]
  · have d1 : decide (at_ < 0) = false := decide_eq_false c1
    have d2 : decide ((s.length : Int) < at_) = true := decide_eq_true (by omega)
    simp only [go_sem, Try.results21, envP, ↓reduceIte, Nat.reduceEqDiff, Nat.reduceAdd, Nat.reduceLT, d1, d2, gt_iff_lt]

theorem place_run (s : List UInt8) (hs : s.length < 2 ^ 39) (L : List Int) (hn : L.length < 2 ^ 40) (at_ : Int) (h : 0 ≤ at_ ∧ at_ ≤ s.length) (p k : Nat) (f : Bool) (hb : closedCall (run env) 27 [.vec .ro (ints L), .int .i64 at_] = some (.tup [.int .i64 p, .bool f]))
    (hpl : p ≤ L.length) (hk : (f = true ∧ k = p) ∨ (f = false ∧ k + 1 = p)) (hkl : k < L.length) (hx : 0 ≤ L[k] ∧ L[k] ≤ at_) :
    closedCall (run env) 21 [.agg [.str s, .vec .ro (ints L)], .int .i64 at_] = some (.tup [.int .i64 k, .int .i64 (at_ - L[k]), .int .i64 0]) := by
  refine closed_of (v := .tup [.int .i64 k, .int .i64 (at_ - L[k]), .int .i64 0]) (fn := Try.f21) rfl Try.func21 rfl (by rw [Try.ntmps21]; simp) (args' := [.agg [.str s, .vec .ro (ints L)], .int .i64 at_]) rfl (by simp [AV.noPtr, AV.noPtr.go, ints_np]) ?_ rfl rfl
  have d1 : decide (at_ < 0) = false := decide_eq_false (by omega)
  have d2 : decide ((s.length : Int) < at_) = false := decide_eq_false (by omega)
  have d3 : ((L.length : Int) == 0) = false := by simp; intro h; subst h; simp at hkl
  have w1 : IntKind.i64.wrap (at_ - L[k]) = at_ - L[k] := IntWalk.i64_in _ (by omega)
  have x1 := ix30 (L := L) (i := (k : Int)) (x := L[k]) .ro (by omega) (by rw [Int.toNat_natCast]; exact List.getElem?_eq_getElem hkl)
  rcases hk with ⟨h1, h2⟩ | ⟨h1, h2⟩
  · subst h2; subst h1
    simp only [go_sem, Try.results21, envP, ↓reduceIte, Nat.reduceEqDiff, Nat.reduceAdd, Nat.reduceLT, d1, d2, d3, hb, w1, x1, gt_iff_lt, Bool.not_true, Bool.not_false]
  · subst h1
    have w2 : max 0 (IntKind.i64.wrap ((p : Int) - 1)) = (k : Int) := by rw [IntWalk.i64_in _ (by omega)]; omega
    simp only [go_sem, Try.results21, envP, ↓reduceIte, Nat.reduceEqDiff, Nat.reduceAdd, Nat.reduceLT, d1, d2, d3, hb, w1, w2, x1, gt_iff_lt, Bool.not_true, Bool.not_false]

theorem place_c (s : List UInt8) (hs : s.length < 2 ^ 39) (at_ : Int) (h : 0 ≤ at_ ∧ at_ ≤ s.length) :
    ∃ k : Nat, k < (stP s s.length).length ∧ nextOf s (stP s s.length) k ≤ at_ ∧ at_ < nextOf s (stP s s.length) (k + 1) ∧
      closedCall (run env) 21 [.agg [.str s, .vec .ro (ints (stP s s.length))], .int .i64 at_] = some (.tup [.int .i64 k, .int .i64 (at_ - nextOf s (stP s s.length) k), .int .i64 0]) := by
  have hI := stP_inc s s.length
  have hlen := stP_len s s.length
  generalize stP s s.length = L at *
  obtain ⟨p, hpl, hp⟩ := low_ex at_ L hI.up
  have hb := bin_c L at_ (by omega) hI.up p hp hpl
  have hpos := inc_pos hI
  have h0 : L[0]? = some L[0] := List.getElem?_eq_getElem hpos
  have hz : L[0] = 0 := by have := hI.z; rw [h0] at this; exact Option.some.inj this
  by_cases hf : FoundAt L at_ p = true
  · have hx : L[p]? = some at_ := by simpa [FoundAt] using hf
    obtain ⟨hkl, hxe⟩ := List.getElem?_eq_some_iff.1 hx
    refine ⟨p, hkl, ?_, ?_, ?_⟩
    · rw [nextOf_get hkl, hxe]; omega
    · by_cases c : p + 1 < L.length
      · rw [nextOf_get c]
        have := List.pairwise_iff_getElem.1 hI.up p (p + 1) hkl c (by omega)
        omega
      · rw [nextOf_end (by omega)]; omega
    · rw [nextOf_get hkl]
      rw [hf] at hb
      exact place_run s hs L (by omega) at_ h p p true hb hpl (Or.inl ⟨rfl, rfl⟩) hkl (by rw [hxe]; omega)
  · have hff : FoundAt L at_ p = false := by simpa using hf
    have hp1 : 1 ≤ p := by
      rcases Nat.eq_zero_or_pos p with hc | hc
      · subst hc
        have := (hp 0 L[0] h0).2
        have h00 : L[0] = at_ := by rw [hz] at this ⊢; omega
        exact absurd (by simp [FoundAt, h0, h00]) hf
      · exact hc
    have hkl : p - 1 < L.length := by omega
    have hxk : L[p - 1]? = some L[p - 1] := List.getElem?_eq_getElem hkl
    have hlt := (hp (p - 1) _ hxk).1 (by omega)
    have hm := hI.mem L[p - 1] (List.getElem_mem hkl)
    refine ⟨p - 1, hkl, ?_, ?_, ?_⟩
    · rw [nextOf_get hkl]; omega
    · rw [show p - 1 + 1 = p by omega]
      by_cases c : p < L.length
      · rw [nextOf_get c]
        have hxp : L[p]? = some L[p] := List.getElem?_eq_getElem c
        have h1 := hp p _ hxp
        have h2 : L[p] ≠ at_ := fun hc => hf (by simp [FoundAt, hxp, hc])
        omega
      · rw [nextOf_end (by omega)]; omega
    · rw [nextOf_get hkl]
      rw [hff] at hb
      exact place_run s hs L (by omega) at_ h p (p - 1) false hb hpl (Or.inr ⟨rfl, by omega⟩) hkl ⟨hm.1, by omega⟩
end Go.Proofs.Ytkhhkfgehmogoaa
