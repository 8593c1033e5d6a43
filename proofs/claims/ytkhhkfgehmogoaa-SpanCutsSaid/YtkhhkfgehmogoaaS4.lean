/- SpanMeets: the loop. -/
import Derived.Test.YtkhhkfgehmogoaaS3
import Derived.Test.YtkhhkfgehmogoaaAb19
namespace Go.Proofs.Ytkhhkfgehmogoaa
set_option linter.unusedVariables false
set_option linter.unusedSimpArgs false
open Go Go.Ab

theorem eql4 (a b : Bool) : binA Try.prog .eql 4 (.bool a) (.bool b) = some (.bool (a == b)) := by kernel_rfl
theorem neq4 (a b : Bool) : binA Try.prog .neq 4 (.bool a) (.bool b) = some (.bool (!(a == b))) := by kernel_rfl
theorem call8 (call : CallO) (args : List AV) (H : AHeap) : callA env call (.fn (.func 8) [] []) args H = bnd (closedCall call 8 args) fun v => some (v, H) := callA_closed rfl args
theorem call9 (call : CallO) (args : List AV) (H : AHeap) : callA env call (.fn (.func 9) [] []) args H = bnd (closedCall call 9 args) fun v => some (v, H) := callA_closed rfl args
theorem call10 (call : CallO) (args : List AV) (H : AHeap) : callA env call (.fn (.func 10) [] []) args H = bnd (closedCall call 10 args) fun v => some (v, H) := callA_closed rfl args
theorem call11 (call : CallO) (args : List AV) (H : AHeap) : callA env call (.fn (.func 11) [] []) args H = bnd (closedCall call 11 args) fun v => some (v, H) := callA_closed rfl args
theorem call12 (call : CallO) (args : List AV) (H : AHeap) : callA env call (.fn (.func 12) [] []) args H = bnd (closedCall call 12 args) fun v => some (v, H) := callA_closed rfl args
theorem call13 (call : CallO) (args : List AV) (H : AHeap) : callA env call (.fn (.func 13) [] []) args H = bnd (closedCall call 13 args) fun v => some (v, H) := callA_closed rfl args
attribute [go_sem] call8 call9 call10 call11 call12 call13 eql4 neq4 awake_c cover_none cover_c

noncomputable def L3 : Code := match Try.f3.body with | some (.seq _ (.seq _ (.seq _ (.seq l _)))) => l | _ => .skip
noncomputable def K3 : Code := match Try.f3.body with | some (.seq _ (.seq _ (.seq _ (.seq _ k)))) => k | _ => .skip
noncomputable def B3 : Code := match Try.f3.body with | some (.seq _ (.seq _ (.seq _ (.seq (.seq _ (.block _ (.loop c))) _)))) => c | _ => .skip

def lng (F T i : Int) : Int := max 0 (min i T - F)
def bth (F T F2 T2 i : Int) : Bool := decide (max F F2 < min (min T T2) i)
structure I3 (F T F2 T2 : Int) (hold : Bool) (at_ : Int) (i : Nat) (α : Frm) (H : AHeap) : Prop where
  heap : H = ⟨2, [(1, .cells [.int .i64 F2, .int .i64 T2]), (0, .cells [.int .i64 F, .int .i64 T])]⟩
  a11 : α 11 = .ptr 0 0
  a12 : α 12 = .ptr 1 0
  a4 : α 4 = .int .i64 at_
  a15 : α 15 = .bool hold
  a13 : α 13 = .int .i64 (lng F T i)
  a14 : α 14 = .bool (bth F T F2 T2 i)
  a52 : α 52 = .int .i64 i

theorem round3 (F T F2 T2 : Int) (hold : Bool) (at_ : Int) (h1 : 0 ≤ F ∧ F < 20) (h2 : 0 ≤ T ∧ T < 20) (h3 : 0 ≤ F2 ∧ F2 < 20) (h4 : 0 ≤ T2 ∧ T2 < 20) (i : Nat) (α : Frm) (H : AHeap) (hi : i < 20)
    (h : I3 F T F2 T2 hold at_ i α H) : okR (execC env (run env) loopO B3 α H) fun e α' H' => e = .normal ∧ I3 F T F2 T2 hold at_ (i + 1) α' H' := by
  obtain ⟨heap, a11, a12, a4, a15, a13, a14, a52⟩ := h
  subst heap
  have hB : B3 = .seq _ (.seq _ (.seq _ _)) := rfl
  rw [hB]
  have e1 : decide ((i : Int) < 20) = true := decide_eq_true (by omega)
  have w1 : IntKind.i64.wrap ((i : Int) + 1) = (i : Int) + 1 := IntWalk.i64_in _ (by omega)
  have w2 : IntKind.i64.wrap (lng F T i + 1) = lng F T i + 1 := IntWalk.i64_in _ (by unfold lng; omega)
  have hc : ((i + 1 : Nat) : Int) = (i : Int) + 1 := by omega
  have hl : lng F T ((i : Int) + 1) = if (decide (F ≤ (i : Int)) && decide ((i : Int) < T)) = true then lng F T i + 1 else lng F T i := by
    unfold lng
    by_cases q1 : F ≤ (i : Int) <;> by_cases q2 : (i : Int) < T <;> simp [q1, q2] <;> omega
  have hb : bth F T F2 T2 ((i : Int) + 1) = (bth F T F2 T2 i || (decide (F ≤ (i : Int)) && decide ((i : Int) < T) && decide (F2 ≤ (i : Int)) && decide ((i : Int) < T2))) := by
    unfold bth
    rw [Bool.eq_iff_iff]
    simp only [Bool.or_eq_true, Bool.and_eq_true, decide_eq_true_eq]
    omega
  obtain ⟨c1, d1⟩ : ∃ q, decide (F ≤ (i : Int)) = q := ⟨_, rfl⟩
  obtain ⟨c2, d2⟩ : ∃ q, decide ((i : Int) < T) = q := ⟨_, rfl⟩
  obtain ⟨c3, d3⟩ : ∃ q, decide (F2 ≤ (i : Int)) = q := ⟨_, rfl⟩
  obtain ⟨c4, d4⟩ : ∃ q, decide ((i : Int) < T2) = q := ⟨_, rfl⟩
  obtain ⟨c5, d5⟩ : ∃ q, bth F T F2 T2 i = q := ⟨_, rfl⟩
  rw [d5] at a14 hb
  rw [d1, d2] at hl
  rw [d1, d2, d3, d4] at hb
  cases c1 <;> cases c2 <;> cases c3 <;> cases c4 <;> cases c5 <;>
    simp only [go_sem, has_c, envP, ↓reduceIte, Nat.reduceEqDiff, Nat.reduceAdd, Nat.reduceLT, a11, a12, a4, a15, a13, a14, a52, e1, w1, w2, d1, d2, d3, d4, ge_iff_le, Bool.not_true, Bool.not_false, beq_self_eq_true, Bool.false_and, Bool.true_and] <;>
    refine ⟨trivial, ⟨rfl, ?_, ?_, ?_, ?_, ?_, ?_, ?_⟩⟩ <;>
    simp only [go_sem, ↓reduceIte, Nat.reduceEqDiff, a11, a12, a4, a15, a13, a14, a52, hc, hl, hb, Bool.false_and, Bool.true_and, Bool.or_false, Bool.or_true, Bool.false_or, Bool.false_eq_true]

theorem end3 (F T F2 T2 : Int) (hold : Bool) (at_ : Int) (α : Frm) (H : AHeap)
    (h : I3 F T F2 T2 hold at_ 20 α H) : okR (execC env (run env) loopO B3 α H) fun e α' H' => e ≠ .normal ∧ (e = .normal ∨ e = .exit 0) ∧ I3 F T F2 T2 hold at_ 20 α' H' := by
  obtain ⟨heap, a11, a12, a4, a15, a13, a14, a52⟩ := h
  subst heap
  have hB : B3 = .seq _ (.seq _ (.seq _ _)) := rfl
  rw [hB]
  have e1 : decide (((20 : Nat) : Int) < 20) = false := by decide
  simp only [go_sem, envP, ↓reduceIte, Nat.reduceEqDiff, a52, e1]
  refine ⟨by simp, by simp, ⟨rfl, ?_, ?_, ?_, ?_, ?_, ?_, ?_⟩⟩ <;>
    simp only [go_sem, ↓reduceIte, Nat.reduceEqDiff, a11, a12, a4, a15, a13, a14, a52]

theorem loop3 (F T F2 T2 : Int) (hold : Bool) (at_ : Int) (h1 : 0 ≤ F ∧ F < 20) (h2 : 0 ≤ T ∧ T < 20) (h3 : 0 ≤ F2 ∧ F2 < 20) (h4 : 0 ≤ T2 ∧ T2 < 20) (α : Frm) (H : AHeap)
    (h : I3 F T F2 T2 hold at_ 0 α H) : okR (execC env (run env) loopO (.block 0 (.loop B3)) α H) fun e α' H' => e = .normal ∧ I3 F T F2 T2 hold at_ 20 α' H' := by
  refine block_normal 0 _ _ _ _ ?_
  rw [xc_loop']
  refine okR_imp (loop_up (I3 F T F2 T2 hold at_) 20 (fun e α' H' => (e = .normal ∨ e = .exit 0) ∧ I3 F T F2 T2 hold at_ 20 α' H') (fun i α H hi h => round3 F T F2 T2 hold at_ h1 h2 h3 h4 i α H hi h) (fun α H h => end3 F T F2 T2 hold at_ α H h) 20 0 α H rfl h) ?_
  intro e α H h
  exact ⟨h.1, rfl, h.2⟩
end Go.Proofs.Ytkhhkfgehmogoaa
