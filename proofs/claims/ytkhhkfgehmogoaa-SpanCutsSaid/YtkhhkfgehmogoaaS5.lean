/- SpanMeets: the whole function. -/
import Derived.Test.YtkhhkfgehmogoaaS4
namespace Go.Proofs.Ytkhhkfgehmogoaa
set_option linter.unusedVariables false
set_option linter.unusedSimpArgs false
open Go Go.Ab

theorem conv53 (k : IntKind) (n : Int) : convA Try.prog 5 3 (.int k n) = some (.int .i64 (IntKind.i64.wrap n)) := by kernel_rfl
theorem eqQ23 : eqQ Try.prog 4 23 = some [.int, .int] := by kernel_rfl
theorem eql23 (a b c d : Int) : binA Try.prog .eql 23 (.agg [.int .i64 a, .int .i64 b]) (.agg [.int .i64 c, .int .i64 d]) = some (.bool (a == c && b == d)) := by simp [binA, agg23, eqQ23, eqCells, eqCell, eqBin]
theorem bs53 (a b c d : Int) (n : Nat) (l : List (Nat × AObj)) : buildSliceA Try.prog 53 2 [(0, .agg [.int .i64 a, .int .i64 b]), (1, .agg [.int .i64 c, .int .i64 d])] ⟨n, l⟩ = some (.vec (.own n) [.agg [.int .i64 a, .int .i64 b], .agg [.int .i64 c, .int .i64 d]], ⟨n + 1, (n, .tip 2 23) :: l⟩) := by
  simp [buildSliceA, elem53, sz23, zero23, inOrder, allWidth, allOneL, allOne, AV.erase, AV.bare, AV.width, AV.cells, AV.one, AHeap.push]
attribute [go_sem] conv53 eql23 bs53

noncomputable def LB3 : Code := .block 0 (.loop B3)

theorem tail3 (F T F2 T2 : Int) (hold : Bool) (at_ : Int) (h1 : 0 ≤ F ∧ F < 20) (h2 : 0 ≤ T ∧ T < 20) (h3 : 0 ≤ F2 ∧ F2 < 20) (h4 : 0 ≤ T2 ∧ T2 < 20) (hh : hold = (decide (F ≤ F2) && decide (F2 ≤ T2) && decide (T2 ≤ T))) (α : Frm) (H : AHeap)
    (h : I3 F T F2 T2 hold at_ 20 α H) : okR (execC env (run env) loopO K3 α H) fun e α' H' => outOf (finish env.P Try.f3.results.toList (e, α', H')) = some (.bool true) := by
  obtain ⟨heap, a11, a12, a4, a15, a13, a14, a52⟩ := h
  subst heap
  have hK : K3 = .seq _ (.seq _ _) := rfl
  rw [hK]
  have k1 : closedCall (run env) 11 [.agg [.int .i64 F, .int .i64 T]] = some (.int .i64 (lng F T (20 : Nat))) := by
    rw [long_c F T (fun _ => IntWalk.i64_in _ (by omega))]
    congr 2
    unfold lng
    split <;> omega
  have k2 : closedCall (run env) 12 [.agg [.int .i64 F, .int .i64 T], .agg [.int .i64 F2, .int .i64 T2]] = some (.bool (bth F T F2 T2 (20 : Nat))) := by
    rw [meets_c]
    congr 2
    unfold bth
    rw [Bool.eq_iff_iff]
    simp only [Bool.or_eq_true, Bool.and_eq_true, decide_eq_true_eq]
    omega
  have k3 : closedCall (run env) 12 [.agg [.int .i64 F2, .int .i64 T2], .agg [.int .i64 F, .int .i64 T]] = some (.bool (bth F T F2 T2 (20 : Nat))) := by
    rw [meets_c]
    congr 2
    unfold bth
    rw [Bool.eq_iff_iff]
    simp only [Bool.or_eq_true, Bool.and_eq_true, decide_eq_true_eq]
    omega
  have k4 : closedCall (run env) 13 [.agg [.int .i64 F, .int .i64 T], .agg [.int .i64 F2, .int .i64 T2]] = some (.bool hold) := by rw [holds_c, hh]
  obtain ⟨c1, d1⟩ : ∃ q, decide (F ≤ at_) = q := ⟨_, rfl⟩
  have k5 : closedCall (run env) 8 [.agg [.int .i64 F, .int .i64 T], .int .i64 at_] = some (.bool (c1 && decide (at_ < T))) := by rw [has_c, d1]
  cases c1 <;>
    simp only [go_sem, envP, Try.results3, ↓reduceIte, Nat.reduceEqDiff, Nat.reduceAdd, Nat.reduceLT, a11, a12, a4, a15, a13, a14, a52, k1, k2, k3, k4, k5, d1, beq_self_eq_true, Bool.false_and, Bool.true_and, Int.reduceBEq, Bool.and_self]

theorem fst3 (a b c d at_ : Int) (h1 : 0 ≤ a ∧ a < 256) (h2 : 0 ≤ b ∧ b < 256) (h3 : 0 ≤ c ∧ c < 256) (h4 : 0 ≤ d ∧ d < 256) :
    closedCall (run env) 3 [.int .u8 a, .int .u8 b, .int .u8 c, .int .u8 d, .int .i64 at_] = some (.bool true) := by
  refine closed_of (v := .bool true) (fn := Try.f3) (c := .seq _ (.seq _ (.seq _ (.seq (.seq _ LB3) K3)))) rfl Try.func3 rfl (by rw [Try.ntmps3]; simp) rfl rfl ?_ rfl rfl
  obtain ⟨F, hF⟩ : ∃ q, a.tmod 20 = q := ⟨_, rfl⟩
  obtain ⟨T, hT⟩ : ∃ q, b.tmod 20 = q := ⟨_, rfl⟩
  obtain ⟨F2, hF2⟩ : ∃ q, c.tmod 20 = q := ⟨_, rfl⟩
  obtain ⟨T2, hT2⟩ : ∃ q, d.tmod 20 = q := ⟨_, rfl⟩
  have g1 : 0 ≤ F ∧ F < 20 := by rw [← hF, Int.tmod_eq_emod_of_nonneg h1.1]; omega
  have g2 : 0 ≤ T ∧ T < 20 := by rw [← hT, Int.tmod_eq_emod_of_nonneg h2.1]; omega
  have g3 : 0 ≤ F2 ∧ F2 < 20 := by rw [← hF2, Int.tmod_eq_emod_of_nonneg h3.1]; omega
  have g4 : 0 ≤ T2 ∧ T2 < 20 := by rw [← hT2, Int.tmod_eq_emod_of_nonneg h4.1]; omega
  have w1 : IntKind.i64.wrap F = F := IntWalk.i64_in _ (by omega)
  have w2 : IntKind.i64.wrap T = T := IntWalk.i64_in _ (by omega)
  have w3 : IntKind.i64.wrap F2 = F2 := IntWalk.i64_in _ (by omega)
  have w4 : IntKind.i64.wrap T2 = T2 := IntWalk.i64_in _ (by omega)
  refine out_of ?_
  obtain ⟨c1, d1⟩ : ∃ q, decide (F2 ≤ T2) = q := ⟨_, rfl⟩
  obtain ⟨c2, d2⟩ : ∃ q, decide (F ≤ F2) = q := ⟨_, rfl⟩
  obtain ⟨c3, d3⟩ : ∃ q, decide (T2 ≤ T) = q := ⟨_, rfl⟩
  have z20 : ((20 : Int) = 0) = False := by simp
  have fin := fun (hold : Bool) (hh : hold = (c2 && c1 && c3)) => fun e α H (h : e = Ex.normal ∧ I3 F T F2 T2 hold at_ 20 α H) =>
    (⟨h.1, tail3 F T F2 T2 hold at_ g1 g2 g3 g4 (by rw [hh, d1, d2, d3]) α H h.2⟩ : e = Ex.normal ∧ okR (execC env (run env) loopO K3 α H) fun e α' H' => outOf (finish env.P Try.f3.results.toList (e, α', H')) = some (.bool true))
  have l0 : lng F T (0 : Int) = 0 := by unfold lng; omega
  have b0 : bth F T F2 T2 (0 : Int) = false := by unfold bth; exact decide_eq_false (by omega)
  cases c1 <;> cases c2 <;> cases c3 <;>
    simp only [go_sem, envP, ↓reduceIte, Nat.reduceEqDiff, Nat.reduceAdd, Nat.reduceLT, z20, hF, hT, hF2, hT2, w1, w2, w3, w4, d1, d2, d3] <;>
    refine okR_then (okR_imp (loop3 F T F2 T2 _ at_ g1 g2 g3 g4 _ _ ⟨rfl, ?_, ?_, ?_, ?_, ?_, ?_, ?_⟩) (fin _ rfl)) <;>
    simp only [go_sem, ↓reduceIte, Nat.reduceEqDiff, l0, b0, Bool.and_self, Bool.and_true, Bool.and_false, Int.natCast_zero]
end Go.Proofs.Ytkhhkfgehmogoaa
