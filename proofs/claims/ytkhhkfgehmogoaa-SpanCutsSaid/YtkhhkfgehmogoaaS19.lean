/- SpanCuts on the machine. -/
import Derived.Test.YtkhhkfgehmogoaaS16
namespace Go.Proofs.Ytkhhkfgehmogoaa
set_option linter.unusedVariables false
set_option linter.unusedSimpArgs false
open Go Go.Ab

theorem clone29 (l : List UInt8) (h : l.length ≤ 281474976710656) : closedCall (run env) 29 [.str l] = some (.str l) := by
  have hr : run env 29 [.str l] .empty = some (.str l, .empty) := by
    refine run_iff.2 ⟨1, ?_⟩
    show cloneX 29 29 [.str l] .empty = _
    simp [cloneX, h]
  unfold closedCall
  rw [if_pos (by rfl)]
  show (match run env 29 [.str l] .empty with | some (v, _) => if v.erase.noPtr = true then some v.erase else none | none => none) = _
  rw [hr]
  rfl
theorem call29 (call : CallO) (args : List AV) (H : AHeap) : callA env call (.fn (.func 29) [] []) args H = bnd (closedCall call 29 args) fun v => some (v, H) := callA_closed rfl args
theorem call26 (call : CallO) (args : List AV) (H : AHeap) : callA env call (.fn (.func 26) [] []) args H = bnd (closedCall call 26 args) fun v => some (v, H) := callA_closed rfl args
theorem call17 (call : CallO) (args : List AV) (H : AHeap) : callA env call (.fn (.func 17) [] []) args H = bnd (closedCall call 17 args) fun v => some (v, H) := callA_closed rfl args
theorem call15 (call : CallO) (args : List AV) (H : AHeap) : callA env call (.fn (.func 15) [] []) args H = bnd (closedCall call 15 args) fun v => some (v, H) := callA_closed rfl args
theorem call16 (call : CallO) (args : List AV) (H : AHeap) : callA env call (.fn (.func 16) [] []) args H = bnd (closedCall call 16 args) fun v => some (v, H) := callA_closed rfl args
attribute [go_sem] call29 call26 call17 call15 call16

theorem clone26 (l : List UInt8) (h : l.length ≤ 281474976710656) : closedCall (run env) 26 [.str l] = some (.str l) := by
  refine closed_of (v := .str l) (fn := Try.f26) rfl Try.func26 rfl (by rw [Try.ntmps26]; simp) (args' := [.str l]) rfl rfl ?_ rfl rfl
  have hc := clone29 l h
  simp only [go_sem, Try.results26, envP, ↓reduceIte, Nat.reduceEqDiff, Nat.reduceAdd, Nat.reduceLT, hc]

theorem sound_t (a b n : Int) (h : 0 ≤ a ∧ a ≤ b ∧ b ≤ n) : closedCall (run env) 17 [.agg [.int .i64 a, .int .i64 b], .int .i64 n] = some (.bool true) := by
  rw [sound_c]; simp; omega
theorem sound_f (a b n : Int) (h : ¬ (0 ≤ a ∧ a ≤ b ∧ b ≤ n)) : closedCall (run env) 17 [.agg [.int .i64 a, .int .i64 b], .int .i64 n] = some (.bool false) := by
  rw [sound_c]; simp; omega

theorem cut_out (s : List UInt8) (L : List Int) (a b : Int) (h : ¬ (0 ≤ a ∧ a ≤ b ∧ b ≤ s.length)) : closedCall (run env) 15 [.agg [.str s, .vec .ro (ints L)], .agg [.int .i64 a, .int .i64 b]] = some (.tup [.str [], .int .i64 6]) := by
  refine closed_of (v := .tup [.str [], .int .i64 6]) (fn := Try.f15) rfl Try.func15 rfl (by rw [Try.ntmps15]; simp) (args' := [.agg [.str s, .vec .ro (ints L)], .agg [.int .i64 a, .int .i64 b]]) rfl (by simp [AV.noPtr, AV.noPtr.go, ints_np]) ?_ rfl rfl
  have hc := sound_f a b s.length h
  simp only [go_sem, Try.results15, envP, ↓reduceIte, Nat.reduceEqDiff, Nat.reduceAdd, Nat.reduceLT, hc, Bool.not_true, Bool.not_false]
theorem cut_in (s : List UInt8) (hs : s.length < 2 ^ 39) (L : List Int) (a b : Int) (h : 0 ≤ a ∧ a ≤ b ∧ b ≤ s.length) : closedCall (run env) 15 [.agg [.str s, .vec .ro (ints L)], .agg [.int .i64 a, .int .i64 b]] = some (.tup [.str ((s.take b.toNat).drop a.toNat), .int .i64 0]) := by
  refine closed_of (v := .tup [.str ((s.take b.toNat).drop a.toNat), .int .i64 0]) (fn := Try.f15) rfl Try.func15 rfl (by rw [Try.ntmps15]; simp) (args' := [.agg [.str s, .vec .ro (ints L)], .agg [.int .i64 a, .int .i64 b]]) rfl (by simp [AV.noPtr, AV.noPtr.go, ints_np]) ?_ rfl rfl
  have hc := sound_t a b s.length h
  have h9 := sl9 s a b h
  have hk := clone26 ((s.take b.toNat).drop a.toNat) (by simp only [List.length_drop, List.length_take]; omega)
  simp only [go_sem, Try.results15, envP, ↓reduceIte, Nat.reduceEqDiff, Nat.reduceAdd, Nat.reduceLT, hc, h9, hk, Bool.not_true, Bool.not_false]

theorem touched_out (s : List UInt8) (L : List Int) (a b : Int) (h : ¬ (0 ≤ a ∧ a ≤ b ∧ b ≤ s.length)) : closedCall (run env) 16 [.agg [.str s, .vec .ro (ints L)], .agg [.int .i64 a, .int .i64 b]] = some (.tup [.int .i64 0, .int .i64 0, .int .i64 6]) := by
  refine closed_of (v := .tup [.int .i64 0, .int .i64 0, .int .i64 6]) (fn := Try.f16) rfl Try.func16 rfl (by rw [Try.ntmps16]; simp) (args' := [.agg [.str s, .vec .ro (ints L)], .agg [.int .i64 a, .int .i64 b]]) rfl (by simp [AV.noPtr, AV.noPtr.go, ints_np]) ?_ rfl rfl
  have hc := sound_f a b s.length h
  simp only [go_sem, Try.results16, envP, ↓reduceIte, Nat.reduceEqDiff, Nat.reduceAdd, Nat.reduceLT, hc, Bool.not_true, Bool.not_false]
theorem touched_in (s : List UInt8) (L : List Int) (a b : Int) (h : 0 ≤ a ∧ a ≤ b ∧ b ≤ s.length) (hs : s.length < 2 ^ 39) (p q p2 q2 p3 q3 : Int)
    (h1 : closedCall (run env) 21 [.agg [.str s, .vec .ro (ints L)], .int .i64 a] = some (.tup [.int .i64 p, .int .i64 p2, .int .i64 p3])) (h2 : closedCall (run env) 21 [.agg [.str s, .vec .ro (ints L)], .int .i64 (max a (b - 1))] = some (.tup [.int .i64 q, .int .i64 q2, .int .i64 q3])) :
    closedCall (run env) 16 [.agg [.str s, .vec .ro (ints L)], .agg [.int .i64 a, .int .i64 b]] = some (.tup [.int .i64 p, .int .i64 q, .int .i64 0]) := by
  refine closed_of (v := .tup [.int .i64 p, .int .i64 q, .int .i64 0]) (fn := Try.f16) rfl Try.func16 rfl (by rw [Try.ntmps16]; simp) (args' := [.agg [.str s, .vec .ro (ints L)], .agg [.int .i64 a, .int .i64 b]]) rfl (by simp [AV.noPtr, AV.noPtr.go, ints_np]) ?_ rfl rfl
  have hc := sound_t a b s.length h
  have w1 : IntKind.i64.wrap (b - 1) = b - 1 := IntWalk.i64_in _ (by omega)
  simp only [go_sem, Try.results16, envP, ↓reduceIte, Nat.reduceEqDiff, Nat.reduceAdd, Nat.reduceLT, hc, w1, h1, h2, Bool.not_true, Bool.not_false]

theorem len20' (s : List UInt8) (L : List Int) : closedCall (run env) 20 [.agg [.str s, .vec .ro (ints L)]] = some (.int .i64 s.length) := by
  refine closed_of (v := .int .i64 s.length) (fn := Try.f20) rfl Try.func20 rfl (by rw [Try.ntmps20]; simp) (args' := [.agg [.str s, .vec .ro (ints L)]]) rfl (by simp [AV.noPtr, AV.noPtr.go, ints_np]) ?_ rfl rfl
  simp only [go_sem, Try.results20, envP, ↓reduceIte, Nat.reduceEqDiff, Nat.reduceAdd, Nat.reduceLT]
theorem none19 : closedCall (run env) 19 [.agg [.str [], .vec .nil []]] = some (.int .i64 1) := lines_c [] [] rfl
theorem none20 : closedCall (run env) 20 [.agg [.str [], .vec .nil []]] = some (.int .i64 0) := len20' [] []

set_option maxHeartbeats 4000000 in
set_option maxRecDepth 100000 in
theorem fst4 (s : List UInt8) (a b : Int) : closedCall (run env) 4 [.str s, .int .i64 a, .int .i64 b] = some (.bool true) := by
  refine closed_of (v := .bool true) (fn := Try.f4) rfl Try.func4 rfl (by rw [Try.ntmps4]; simp) (args' := [.str s, .int .i64 a, .int .i64 b]) rfl rfl ?_ rfl rfl
  by_cases hs : (s.length : Int) > 3000
  · have d1 : decide ((s.length : Int) > 3000) = true := decide_eq_true hs
    simp (config := { maxSteps := 10000000 }) only [go_sem, envP, Try.results4, ↓reduceIte, Nat.reduceEqDiff, Nat.reduceAdd, Nat.reduceLT, d1]
  have d1 : decide ((s.length : Int) > 3000) = false := decide_eq_false hs
  have hs' : s.length < 2 ^ 39 := by omega
  have ho := of_c s hs'
  have ee : ∀ x : List UInt8, strBin .eql x x = some (.bool true) := fun x => by simp [strBin]
  by_cases h : 0 ≤ a ∧ a ≤ b ∧ b ≤ s.length
  · have hc := cut_in s hs' (stP s s.length) a b h
    have h9 := sl9 s a b h
    have hsd := sound_t a b s.length h
    obtain ⟨k, hk, hk1, hk2, hp⟩ := place_c s hs' a (by omega)
    obtain ⟨q, hq, hq1, hq2, hp2⟩ := place_c s hs' (max a (b - 1)) (by omega)
    have ht := touched_in s (stP s s.length) a b h hs' _ _ _ _ _ _ hp hp2
    have r1 := rplace_c s hs' a.toNat (by omega) k ⟨hk, by omega, by omega⟩
    rw [show ((a.toNat : Nat) : Int) = a by omega] at r1
    have r2 := rplace_c s hs' (max a (b - 1)).toNat (by omega) q ⟨hq, by omega, by omega⟩
    rw [show (((max a (b - 1)).toNat : Nat) : Int) = max a (b - 1) by omega] at r2
    have d2 : decide (a < 0) = false := decide_eq_false (by omega)
    have d3 : decide (b < a) = false := decide_eq_false (by omega)
    have d4 : decide ((s.length : Int) < b) = false := decide_eq_false (by omega)
    have w1 : IntKind.i64.wrap (b - 1) = b - 1 := IntWalk.i64_in _ (by omega)
    by_cases c : a < b
    · have d5 : decide (a < b) = true := decide_eq_true c
      rw [show max a (b - 1) = b - 1 by omega] at r2
      simp (config := { maxSteps := 10000000 }) only [go_sem, envP, Try.results4, ↓reduceIte, Nat.reduceEqDiff, Nat.reduceAdd, Nat.reduceLT, d1, d2, d3, d4, d5, w1, ho, hc, ht, hsd, h9, r1, r2, ee, none19, none20, gt_iff_lt, beq_self_eq_true]
    · have d5 : decide (a < b) = false := decide_eq_false c
      rw [show max a (b - 1) = a by omega] at r2
      have r2' := r1.symm.trans r2
      simp only [Option.some.injEq, AV.tup.injEq, List.cons.injEq, AV.int.injEq, true_and] at r2'
      have hkq : (k : Int) = q := r2'.1
      rw [← hkq] at ht
      simp (config := { maxSteps := 10000000 }) only [go_sem, envP, Try.results4, ↓reduceIte, Nat.reduceEqDiff, Nat.reduceAdd, Nat.reduceLT, d1, d2, d3, d4, d5, w1, ho, hc, ht, hsd, h9, r1, ee, none19, none20, gt_iff_lt, beq_self_eq_true]
  · have hc := cut_out s (stP s s.length) a b h
    have ht := touched_out s (stP s s.length) a b h
    have hsd := sound_f a b s.length h
    have e0 : strBin .eql [] [] = some (.bool true) := ee []
    by_cases c1 : a < 0
    · have d2 : decide (a < 0) = true := decide_eq_true c1
      simp (config := { maxSteps := 10000000 }) only [go_sem, envP, Try.results4, ↓reduceIte, Nat.reduceEqDiff, Nat.reduceAdd, Nat.reduceLT, d1, d2, ho, hc, ht, hsd, ee, gt_iff_lt, beq_self_eq_true, Bool.not_false]
    have d2 : decide (a < 0) = false := decide_eq_false c1
    by_cases c2 : b < a
    · have d3 : decide (b < a) = true := decide_eq_true c2
      simp (config := { maxSteps := 10000000 }) only [go_sem, envP, Try.results4, ↓reduceIte, Nat.reduceEqDiff, Nat.reduceAdd, Nat.reduceLT, d1, d2, d3, ho, hc, ht, hsd, ee, gt_iff_lt, beq_self_eq_true, Bool.not_false]
    have d3 : decide (b < a) = false := decide_eq_false c2
    have d4 : decide ((s.length : Int) < b) = true := decide_eq_true (by omega)
    simp (config := { maxSteps := 10000000 }) only [go_sem, envP, Try.results4, ↓reduceIte, Nat.reduceEqDiff, Nat.reduceAdd, Nat.reduceLT, d1, d2, d3, d4, ho, hc, ht, hsd, ee, gt_iff_lt, beq_self_eq_true, Bool.not_false]
end Go.Proofs.Ytkhhkfgehmogoaa
