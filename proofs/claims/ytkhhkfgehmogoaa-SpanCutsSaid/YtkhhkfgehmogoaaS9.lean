/- SpanRows on the machine. -/
import Derived.Test.YtkhhkfgehmogoaaS8
namespace Go.Proofs.Ytkhhkfgehmogoaa
set_option linter.unusedVariables false
set_option linter.unusedSimpArgs false
open Go Go.Ab

/-! ### The plain law: the beginnings of lines climb. -/
structure Inc (L : List Int) (i : Nat) : Prop where
  up : L.Pairwise (· < ·)
  mem : ∀ x ∈ L, 0 ≤ x ∧ x ≤ i
  z : L[0]? = some 0

theorem stP_inc (s : List UInt8) : ∀ i, Inc (stP s i) i
  | 0 => ⟨by simp [stP], by simp [stP], by simp [stP]⟩
  | i + 1 => by
    obtain ⟨h1, h2, h3⟩ := stP_inc s i
    simp only [stP]
    split
    · refine ⟨?_, ?_, ?_⟩
      · rw [List.pairwise_append]
        refine ⟨h1, by simp, ?_⟩
        intro a ha b hb
        simp at hb
        have := h2 a ha
        omega
      · intro x hx
        rw [List.mem_append] at hx
        rcases hx with hx | hx
        · have := h2 x hx; omega
        · simp at hx; omega
      · have hp : 0 < (stP s i).length := by
          rcases Nat.eq_zero_or_pos (stP s i).length with h | h
          · rw [List.getElem?_eq_none (by omega)] at h3; cases h3
          · exact h
        rw [List.getElem?_append_left hp]; exact h3
    · exact ⟨h1, fun x hx => by have := h2 x hx; omega, h3⟩

def nextOf (s : List UInt8) (L : List Int) (j : Nat) : Int := match L[j]? with | some x => x | none => s.length + 1

theorem inc_pos {L : List Int} {n : Nat} (h : Inc L n) : 1 ≤ L.length := by
  rcases Nat.eq_zero_or_pos L.length with h' | h'
  · have := h.z; rw [List.getElem?_eq_none (by omega)] at this; cases this
  · exact h'

theorem row_of (s : List UInt8) (hs : s.length < 2 ^ 39) (j : Nat) (hj : j < (stP s s.length).length) : Row s (stP s s.length) j (nextOf s (stP s s.length) j) (nextOf s (stP s s.length) (j + 1) - 1) := by
  have hI := stP_inc s s.length
  have hlen := stP_len s s.length
  generalize hL : stP s s.length = L at *
  have hx : L[j]? = some L[j] := List.getElem?_eq_getElem hj
  have hm := hI.mem L[j] (List.getElem_mem hj)
  have n1 : nextOf s L j = L[j] := by simp [nextOf, hx]
  by_cases hj2 : j + 1 < L.length
  · have hy : L[j + 1]? = some L[j + 1] := List.getElem?_eq_getElem hj2
    have hlt : L[j] < L[j + 1] := List.pairwise_iff_getElem.1 hI.up j (j + 1) hj hj2 (by omega)
    have hm2 := hI.mem L[j + 1] (List.getElem_mem hj2)
    have n2 : nextOf s L (j + 1) = L[j + 1] := by simp [nextOf, hy]
    rw [n1, n2]
    refine ⟨bounds_in s L j L[j] (L[j + 1] - 1) (by omega) (by simp) (by omega) (Or.inl ⟨by omega, ?_, by omega, by omega⟩), by omega⟩
    rw [show ((j : Int) + 1).toNat = j + 1 by omega, hy]
    congr 1; omega
  · have n2 : nextOf s L (j + 1) = s.length + 1 := by simp [nextOf, List.getElem?_eq_none (Nat.le_of_not_lt hj2)]
    rw [n1, n2]
    refine ⟨bounds_in s L j L[j] (s.length + 1 - 1) (by omega) (by simp) (by omega) (Or.inr ⟨by omega, by omega⟩), by omega⟩

/-! ### The walk. -/
noncomputable def B6 : Code := match Try.f6.body with | some (.seq _ (.seq _ (.seq _ (.seq _ (.seq (.seq _ (.block _ (.loop c))) _))))) => c | _ => .skip
noncomputable def LB6 : Code := .block 0 (.loop B6)
noncomputable def K6 : Code := match Try.f6.body with | some (.seq _ (.seq _ (.seq _ (.seq _ (.seq _ k))))) => k | _ => .skip

structure I6 (s : List UInt8) (j : Nat) (α : Frm) (H : AHeap) : Prop where
  h : H = ⟨1, [(0, .cells [.str s, .vec .ro (ints (stP s s.length))])]⟩
  a0 : α 0 = .str s
  a3 : α 3 = .ptr 0 0
  a4 : α 4 = .int .i64 (nextOf s (stP s s.length) j)
  a21 : α 21 = .int .i64 (stP s s.length).length
  a22 : α 22 = .int .i64 j

theorem round6 (s : List UInt8) (hs : s.length < 2 ^ 39) (j : Nat) (α : Frm) (H : AHeap) (hj : j < (stP s s.length).length) (h : I6 s j α H) :
    okR (execC env (run env) loopO B6 α H) fun e α' H' => e = .normal ∧ I6 s (j + 1) α' H' := by
  obtain ⟨hh, a0, a3, a4, a21, a22⟩ := h
  subst hh
  have r := row_of s hs j hj
  have hlen := stP_len s s.length
  generalize hL : stP s s.length = L at *
  obtain ⟨x, hx⟩ : ∃ x, nextOf s L j = x := ⟨_, rfl⟩
  obtain ⟨e, he⟩ : ∃ e, nextOf s L (j + 1) - 1 = e := ⟨_, rfl⟩
  rw [hx, he] at r
  rw [hx] at a4
  have hr := r.h
  have hB : B6 = .seq _ (.seq _ (.seq _ _)) := rfl
  rw [hB]
  have hl1 := line_in r
  have ha1 := at_in r (c := 0) (by omega)
  have hln : ((List.drop x.toNat (List.take e.toNat s)).length : Int) = e - x := by
    simp only [List.length_drop, List.length_take]; omega
  have ha2 := at_in r (c := e - x) (by omega)
  rw [show x + (e - x) = e by omega] at ha2
  rw [show x + 0 = x by omega] at ha1
  have e1 : decide ((j : Int) < (L.length : Int)) = true := decide_eq_true (by omega)
  have w1 : IntKind.i64.wrap ((j : Int) + 1) = (j : Int) + 1 := IntWalk.i64_in _ (by omega)
  have w2 : IntKind.i64.wrap (x + (e - x)) = e := by rw [show x + (e - x) = e by omega]; exact IntWalk.i64_in _ (by omega)
  have w3 : IntKind.i64.wrap (e + 1) = e + 1 := IntWalk.i64_in _ (by omega)
  have hc : ((j + 1 : Nat) : Int) = (j : Int) + 1 := by omega
  have hnx : nextOf s L (j + 1) = e + 1 := by omega
  simp only [go_sem, envP, ↓reduceIte, Nat.reduceEqDiff, Nat.reduceAdd, Nat.reduceLT, a0, a3, a4, a21, a22, e1, w1, w2, w3, hl1, ha1, ha2, hln, bne_self_eq_false, true_and]
  refine ⟨by rw [hL], ?_, ?_, ?_, ?_, ?_⟩ <;>
    simp only [go_sem, ↓reduceIte, Nat.reduceEqDiff, a0, a3, a4, a21, a22, hc, hL, hnx]

theorem end6 (s : List UInt8) (α : Frm) (H : AHeap) (h : I6 s (stP s s.length).length α H) :
    okR (execC env (run env) loopO B6 α H) fun e α' H' => e ≠ .normal ∧ (e = .normal ∨ e = .exit 0) ∧ I6 s (stP s s.length).length α' H' := by
  obtain ⟨hh, a0, a3, a4, a21, a22⟩ := h
  subst hh
  have hB : B6 = .seq _ (.seq _ (.seq _ _)) := rfl
  rw [hB]
  have e1 : decide (((stP s s.length).length : Int) < ((stP s s.length).length : Int)) = false := by simp
  simp only [go_sem, envP, ↓reduceIte, Nat.reduceEqDiff, a21, a22, e1]
  refine ⟨by simp, by simp, ⟨rfl, ?_, ?_, ?_, ?_, ?_⟩⟩ <;>
    simp only [go_sem, ↓reduceIte, Nat.reduceEqDiff, a0, a3, a4, a21, a22]

theorem loop6 (s : List UInt8) (hs : s.length < 2 ^ 39) (α : Frm) (H : AHeap) (h : I6 s 0 α H) : okR (execC env (run env) loopO LB6 α H) fun e α' H' => e = .normal ∧ I6 s (stP s s.length).length α' H' := by
  refine block_normal 0 _ _ _ _ ?_
  rw [xc_loop']
  refine okR_imp (loop_up (I6 s) (stP s s.length).length (fun e α' H' => (e = .normal ∨ e = .exit 0) ∧ I6 s (stP s s.length).length α' H') (fun i α H hi h => round6 s hs i α H hi h) (fun α H h => end6 s α H h) (stP s s.length).length 0 α H (by omega) h) ?_
  intro e α H h
  exact ⟨h.1, rfl, h.2⟩

theorem lines_st (s : List UInt8) : closedCall (run env) 19 [.agg [.str s, .vec .ro (ints (stP s s.length))]] = some (.int .i64 (stP s s.length).length) := by
  rw [lines_c s _ (ints_np _)]
  have := inc_pos (stP_inc s s.length)
  congr 2; omega

theorem tail6 (s : List UInt8) (hs : s.length < 2 ^ 39) (α : Frm) (H : AHeap) (h : I6 s (stP s s.length).length α H) : okR (execC env (run env) loopO K6 α H) fun e α' H' => outOf (finish Try.prog Try.f6.results.toList (e, α', H')) = some (.bool true) := by
  obtain ⟨hh, a0, a3, a4, a21, a22⟩ := h
  subst hh
  have hl := lines_st s
  have hp := inc_pos (stP_inc s s.length)
  have ho := line_out (s := s) (L := stP s s.length) (i := ((stP s s.length).length : Int)) (Or.inr (by omega))
  have hK : K6 = .seq _ (.seq _ _) := rfl
  rw [hK]
  have hn : nextOf s (stP s s.length) (stP s s.length).length = (s.length : Int) + 1 := by simp [nextOf]
  have w1 : IntKind.i64.wrap ((s.length : Int) + 1) = (s.length : Int) + 1 := IntWalk.i64_in _ (by omega)
  simp only [go_sem, envP, Try.results6, ↓reduceIte, Nat.reduceEqDiff, Nat.reduceAdd, Nat.reduceLT, a0, a3, a4, hn, hl, ho, w1, beq_self_eq_true]

theorem fst6 (s : List UInt8) : closedCall (run env) 6 [.str s] = some (.bool true) := by
  refine closed_of (v := .bool true) (fn := Try.f6) (c := .seq _ (.seq _ (.seq _ (.seq _ (.seq (.seq _ LB6) K6))))) rfl Try.func6 rfl (by rw [Try.ntmps6]; simp) (args' := [.str s]) rfl rfl ?_ rfl rfl
  refine out_of ?_
  by_cases hs : (s.length : Int) > 2000
  · have d1 : decide ((s.length : Int) > 2000) = true := decide_eq_true hs
    simp only [go_sem, envP, Try.results6, ↓reduceIte, Nat.reduceEqDiff, Nat.reduceAdd, Nat.reduceLT, d1]
  · have d1 : decide ((s.length : Int) > 2000) = false := decide_eq_false hs
    have hs' : s.length < 2 ^ 39 := by omega
    have ho := of_c s hs'
    have hl := lines_st s
    simp only [go_sem, envP, ↓reduceIte, Nat.reduceEqDiff, Nat.reduceAdd, Nat.reduceLT, d1, ho, hl]
    refine okR_then (okR_imp (loop6 s hs' _ _ ⟨rfl, ?_, ?_, ?_, ?_, ?_⟩) fun e α H h => ⟨h.1, tail6 s hs' α H h.2⟩)
    all_goals simp [go_sem, nextOf, (stP_inc s s.length).z]
end Go.Proofs.Ytkhhkfgehmogoaa
