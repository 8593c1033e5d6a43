/- The cover of two spans. -/
import Derived.Test.YtkhhkfgehmogoaaS2
import Derived.IntWalk
namespace Go.Proofs.Ytkhhkfgehmogoaa
set_option linter.unusedVariables false
set_option linter.unusedSimpArgs false
open Go Go.Ab

theorem run_of (n : Nat) {f : FuncId} {args : List AV} {v : AV} (h : closedCall (execF env n) f args = some v) : closedCall (run env) f args = some v :=
  closed_mono (fun f args H r hr => run_iff.2 ⟨n, hr⟩) h

def isB : Option AV → Bool
  | some (.bool true) => true
  | _ => false
theorem isB_of {o : Option AV} (h : isB o = true) : o = some (.bool true) := by
  unfold isB at h
  split at h
  · rfl
  · cases h
theorem awake_c : closedCall (run env) 10 [] = some (.bool true) := run_of 30 (isB_of (by kernel_rfl))

def isZ : Option AV → Bool
  | some (.agg [.int .i64 0, .int .i64 0]) => true
  | _ => false
theorem isZ_of {o : Option AV} (h : isZ o = true) : o = some (.agg [.int .i64 0, .int .i64 0]) := by
  unfold isZ at h
  split at h
  · rfl
  · cases h
theorem cover_none : closedCall (run env) 9 [.vec .nil []] = some (.agg [.int .i64 0, .int .i64 0]) := run_of 30 (isZ_of (by kernel_rfl))

theorem xc_loop2 {E : Env} {call : CallO} {c : Code} {α : Frm} {H : AHeap} : execC E call loopO (.loop c) α H = loopO (execC E call loopO c) α H := rfl

theorem cover_c (o : Own) (a b c d : Int) : closedCall (run env) 9 [.vec o [.agg [.int .i64 a, .int .i64 b], .agg [.int .i64 c, .int .i64 d]]] = some (.agg [.int .i64 (min a c), .int .i64 (max b d)]) := by
  refine closed_of (v := .agg [.int .i64 (min a c), .int .i64 (max b d)]) (fn := Try.f9) rfl Try.func9 rfl (by rw [Try.ntmps9]; simp) rfl rfl ?_ rfl rfl
  simp only [go_sem, Try.results9, envP, ↓reduceIte, Nat.reduceEqDiff, Nat.reduceAdd, Nat.reduceLT, ↓xc_loop2, ↓loopO_eq, Int.reduceBEq, Int.reduceLT, Int.reduceAdd, beq_self_eq_true, IntWalk.i64_in, Int.reduceLE, Int.reduceNeg, and_self]
end Go.Proofs.Ytkhhkfgehmogoaa
