/- The small functions of spans. -/
import Derived.Test.YtkhhkfgehmogoaaS1
import Derived.Test.YtkhhkfgehmogoaaAb18
namespace Go.Proofs.Ytkhhkfgehmogoaa
set_option linter.unusedVariables false
open Go Go.Ab

theorem envP : env.P = Try.prog := rfl
theorem fields23 : fieldsQ Try.prog 23 = some [(0, 3), (1, 3)] := by kernel_rfl
theorem sz3 : szQ Try.prog 3 = some 1 := by kernel_rfl
theorem agg3 : aggQ Try.prog 3 = some false := by kernel_rfl

theorem agg23 : aggQ Try.prog 23 = some true := by kernel_rfl
theorem sz23 : szQ Try.prog 23 = some 2 := by kernel_rfl
theorem fa23_0 (id o : Nat) : fieldAddrA Try.prog 23 0 (.ptr id o) = some (.ptr id o) := fa_ptr fields23 0 id o rfl sz3
theorem fa23_1 (id o : Nat) : fieldAddrA Try.prog 23 1 (.ptr id o) = some (.ptr id (o + 1)) := fa_ptr fields23 1 id o rfl sz3
theorem ld3 (cs : List AV) (off : Nat) : ldA Try.prog 3 cs off = cs[off]? := ld_one agg3 cs off


theorem ld23 (x y : AV) : ldA Try.prog 23 [x, y] 0 = some (.agg [x, y]) := by simp [ld_agg agg23 sz23]
theorem build23 (a b : Int) : buildA Try.prog 23 [(0, .int .i64 a), (1, .int .i64 b)] = some (.agg [.int .i64 a, .int .i64 b]) := by kernel_rfl
theorem build23_nil : buildA Try.prog 23 [] = some (.agg [.int .i64 0, .int .i64 0]) := by kernel_rfl
theorem zero23 : zeroQ Try.prog 23 = some [.int .i64 0, .int .i64 0] := by kernel_rfl
theorem alloc23 (n : Nat) (l : List (Nat × AObj)) : allocA Try.prog 23 ⟨n, l⟩ = some (.ptr n 0, ⟨n + 1, (n, .cells [.int .i64 0, .int .i64 0]) :: l⟩) := by simp [allocA, zero23, AHeap.push]
def st2 (n : Nat) (l : List (Nat × AObj)) (id : Nat) (x y : AV) (q : Option (List AV)) : Option (AV × AHeap) :=
  match q with
  | some cs => if 2 ≤ cs.length then some (undefA, ⟨n, setL l id (.cells (overlay cs 0 [x, y]))⟩) else none
  | none => none
theorem st2_some (n : Nat) (l : List (Nat × AObj)) (id : Nat) (x y a b : AV) : st2 n l id x y (some [a, b]) = some (undefA, ⟨n, setL l id (.cells [x, y])⟩) := (rfl)
@[congr] theorem st2_congr {n : Nat} {l : List (Nat × AObj)} {id : Nat} {x y : AV} {q q' : Option (List AV)} (h : q = q') : st2 n l id x y q = st2 n l id x y q' := by rw [h]
theorem st23 (n : Nat) (l : List (Nat × AObj)) (id : Nat) (a b : Int) : storeA Try.prog 23 (.ptr id 0) (.agg [.int .i64 a, .int .i64 b]) ⟨n, l⟩ = if id < n then st2 n l id (.int .i64 a) (.int .i64 b) (cellsQ l id) else none := by
  rw [store_ptr]
  by_cases h : id < n
  · simp only [h, if_true]
    cases cellsQ l id with
    | none => rfl
    | some cs => simp [bnd, st2, sz23, AV.width, AV.cells, allOne, AV.one]
  · simp only [h, if_false]
theorem elem53 : elemQ Try.prog 53 = some 23 := by kernel_rfl
theorem len53_0 (o : Own) : lenA Try.prog #[53] [.vec o []] = some (.int .i64 0) := by simp [lenA, elem53]
theorem len53_1 (o : Own) (x : AV) : lenA Try.prog #[53] [.vec o [x]] = some (.int .i64 1) := by simp [lenA, elem53]
theorem len53_2 (o : Own) (x y : AV) : lenA Try.prog #[53] [.vec o [x, y]] = some (.int .i64 2) := by simp [lenA, elem53]
theorem len53 (o : Own) (es : List AV) : lenA Try.prog #[53] [.vec o es] = some (.int .i64 es.length) := by simp [lenA, elem53]
theorem ix53 (o : Own) (a b : AV) (r : List AV) : indexAddrA Try.prog 53 (.vec o (.agg [a, b] :: r)) (.int .i64 0) = some (.rptr [a, b]) := by simp [indexAddrA, elem53, sz23, AV.width, AV.cells]
theorem sl53 (a b c d : AV) : sliceA Try.prog 53 (some (.int .i64 1)) none (.vec .ro [.agg [a, b], .agg [c, d]]) = some (.vec .ro [.agg [c, d]]) := by simp [sliceA, strideQ, elem53, sz23, AV.width, sliceLH, sliceBnd]
theorem min_i (k : IntKind) (a b : Int) : minA [.int k a, .int k b] = some (.int k (min a b)) := by simp only [minA]; congr 2; omega
theorem max_i (k : IntKind) (a b : Int) : maxA [.int k a, .int k b] = some (.int k (max a b)) := by simp only [maxA]; congr 2; omega
attribute [go_sem] fa23_0 fa23_1 ld3 ld23 build23 build23_nil alloc23 st23 st2_some len53_0 len53_1 len53_2 ix53 sl53 min_i max_i

theorem has_c (f t x : Int) : closedCall (run env) 8 [.agg [.int .i64 f, .int .i64 t], .int .i64 x] = some (.bool (decide (f ≤ x) && decide (x < t))) := by
  refine closed_of (v := .bool (decide (f ≤ x) && decide (x < t))) (fn := Try.f8) rfl Try.func8 rfl (by rw [Try.ntmps8]; simp) rfl rfl ?_ rfl rfl
  obtain ⟨c, hc⟩ : ∃ q, decide (f ≤ x) = q := ⟨_, rfl⟩
  rw [hc]
  cases c
  all_goals simp only [go_sem, Try.results8, envP, ↓reduceIte, Nat.reduceEqDiff, Nat.reduceAdd, Nat.reduceLT, hc, Bool.false_and, Bool.true_and]

theorem long_c (f t : Int) (h : f ≤ t → IntKind.i64.wrap (t - f) = t - f) : closedCall (run env) 11 [.agg [.int .i64 f, .int .i64 t]] = some (.int .i64 (if f > t then 0 else t - f)) := by
  refine closed_of (v := .int .i64 (if f > t then 0 else t - f)) (fn := Try.f11) rfl Try.func11 rfl (by rw [Try.ntmps11]; simp) rfl rfl ?_ rfl rfl
  by_cases hc : f > t
  · have hd : decide (f > t) = true := decide_eq_true hc
    simp only [go_sem, Try.results11, envP, ↓reduceIte, Nat.reduceEqDiff, Nat.reduceAdd, Nat.reduceLT, hd, if_pos hc]
  · have hd : decide (f > t) = false := decide_eq_false hc
    have hw := h (by omega)
    simp only [go_sem, Try.results11, envP, ↓reduceIte, Nat.reduceEqDiff, Nat.reduceAdd, Nat.reduceLT, hd, if_neg hc, hw]

set_option linter.unusedSimpArgs false in
theorem meets_c (a b c d : Int) : closedCall (run env) 12 [.agg [.int .i64 a, .int .i64 b], .agg [.int .i64 c, .int .i64 d]] = some (.bool (decide (a < b) && decide (c < d) && decide (a < d) && decide (c < b))) := by
  refine closed_of (v := .bool (decide (a < b) && decide (c < d) && decide (a < d) && decide (c < b))) (fn := Try.f12) rfl Try.func12 rfl (by rw [Try.ntmps12]; simp) rfl rfl ?_ rfl rfl
  obtain ⟨c0, h0⟩ : ∃ q, decide (a < b) = q := ⟨_, rfl⟩
  obtain ⟨c1, h1⟩ : ∃ q, decide (c < d) = q := ⟨_, rfl⟩
  obtain ⟨c2, h2⟩ : ∃ q, decide (a < d) = q := ⟨_, rfl⟩
  rw [h0, h1, h2]
  cases c0 <;> cases c1 <;> cases c2 <;> simp only [go_sem, Try.results12, envP, ↓reduceIte, Nat.reduceEqDiff, Nat.reduceAdd, Nat.reduceLT, h0, h1, h2, Bool.false_and, Bool.true_and]

set_option linter.unusedSimpArgs false in
theorem holds_c (a b c d : Int) : closedCall (run env) 13 [.agg [.int .i64 a, .int .i64 b], .agg [.int .i64 c, .int .i64 d]] = some (.bool (decide (a ≤ c) && decide (c ≤ d) && decide (d ≤ b))) := by
  refine closed_of (v := .bool (decide (a ≤ c) && decide (c ≤ d) && decide (d ≤ b))) (fn := Try.f13) rfl Try.func13 rfl (by rw [Try.ntmps13]; simp) rfl rfl ?_ rfl rfl
  obtain ⟨c0, h0⟩ : ∃ q, decide (a ≤ c) = q := ⟨_, rfl⟩
  obtain ⟨c1, h1⟩ : ∃ q, decide (c ≤ d) = q := ⟨_, rfl⟩
  rw [h0, h1]
  cases c0 <;> cases c1 <;> simp only [go_sem, Try.results13, envP, ↓reduceIte, Nat.reduceEqDiff, Nat.reduceAdd, Nat.reduceLT, h0, h1, Bool.false_and, Bool.true_and]

set_option linter.unusedSimpArgs false in
theorem sound_c (a b n : Int) : closedCall (run env) 17 [.agg [.int .i64 a, .int .i64 b], .int .i64 n] = some (.bool (decide (a ≥ 0) && decide (a ≤ b) && decide (b ≤ n))) := by
  refine closed_of (v := .bool (decide (a ≥ 0) && decide (a ≤ b) && decide (b ≤ n))) (fn := Try.f17) rfl Try.func17 rfl (by rw [Try.ntmps17]; simp) rfl rfl ?_ rfl rfl
  obtain ⟨c0, h0⟩ : ∃ q, decide (a ≥ 0) = q := ⟨_, rfl⟩
  obtain ⟨c1, h1⟩ : ∃ q, decide (a ≤ b) = q := ⟨_, rfl⟩
  rw [h0, h1]
  cases c0 <;> cases c1 <;> simp only [go_sem, Try.results17, envP, ↓reduceIte, Nat.reduceEqDiff, Nat.reduceAdd, Nat.reduceLT, h0, h1, Bool.false_and, Bool.true_and]

end Go.Proofs.Ytkhhkfgehmogoaa
