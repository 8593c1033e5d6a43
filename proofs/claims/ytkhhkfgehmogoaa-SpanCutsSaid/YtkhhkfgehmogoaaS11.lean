/- slices.BinarySearch over ints; Text.Place. -/
import Derived.Test.YtkhhkfgehmogoaaS9
namespace Go.Proofs.Ytkhhkfgehmogoaa
set_option linter.unusedVariables false
set_option linter.unusedSimpArgs false
open Go Go.Ab

theorem loop_meas {g : Frm → AHeap → Option Res} (I : Nat → Frm → AHeap → Prop) (P : Ex → Frm → AHeap → Prop)
    (hr : ∀ d α H, I d α H → okR (g α H) fun e α' H' => (e = .normal ∧ ∃ d', d' < d ∧ I d' α' H') ∨ (e ≠ .normal ∧ P e α' H')) (d : Nat) : ∀ α H, I d α H → okR (loopO g α H) P := by
  induction d using Nat.strongRecOn with
  | _ d ih =>
    intro α H h
    obtain ⟨e, α', H', h1, h2⟩ := okR_get (hr d α H h)
    rcases h2 with ⟨h2, d', h3, h4⟩ | ⟨h2, h3⟩
    · subst h2
      rw [loopO_eq, h1]
      exact ih d' h3 α' H' h4
    · rw [loopO_eq, h1]
      cases e with
      | normal => exact (h2 rfl).elim
      | exit j => exact h3
      | ret => exact h3

theorem call30 (call : CallO) (args : List AV) (H : AHeap) : callA env call (.fn (.func 30) [] []) args H = bnd (closedCall call 30 args) fun v => some (v, H) := callA_closed rfl args
theorem call31 (call : CallO) (args : List AV) (H : AHeap) : callA env call (.fn (.func 31) [] []) args H = bnd (closedCall call 31 args) fun v => some (v, H) := callA_closed rfl args
theorem call32 (call : CallO) (args : List AV) (H : AHeap) : callA env call (.fn (.func 32) [] []) args H = bnd (closedCall call 32 args) fun v => some (v, H) := callA_closed rfl args
theorem call27 (call : CallO) (args : List AV) (H : AHeap) : callA env call (.fn (.func 27) [] []) args H = bnd (closedCall call 27 args) fun v => some (v, H) := callA_closed rfl args
theorem call21 (call : CallO) (args : List AV) (H : AHeap) : callA env call (.fn (.func 21) [] []) args H = bnd (closedCall call 21 args) fun v => some (v, H) := callA_closed rfl args
theorem ex3_0 (a b c : AV) : extractA 0 (.tup [a, b, c]) = some a := (rfl)
theorem ex3_1 (a b c : AV) : extractA 1 (.tup [a, b, c]) = some b := (rfl)
theorem ex3_2 (a b c : AV) : extractA 2 (.tup [a, b, c]) = some c := (rfl)
attribute [go_sem] call30 call31 call32 call27 call21 ex3_0 ex3_1 ex3_2

theorem nan31 (x : Int) : closedCall (run env) 31 [.int .i64 x] = some (.bool false) := by
  refine closed_of (v := .bool false) (fn := Try.f31) rfl Try.func31 rfl (by rw [Try.ntmps31]; simp) (args' := [.int .i64 x]) rfl rfl ?_ rfl rfl
  simp only [go_sem, Try.results31, envP, ↓reduceIte, Nat.reduceEqDiff, Nat.reduceAdd, Nat.reduceLT, bne_self_eq_false]
theorem nan32 (x : Int) : closedCall (run env) 32 [.int .i64 x] = some (.bool false) := by
  refine closed_of (v := .bool false) (fn := Try.f32) rfl Try.func32 rfl (by rw [Try.ntmps32]; simp) (args' := [.int .i64 x]) rfl rfl ?_ rfl rfl
  simp only [go_sem, Try.results32, envP, ↓reduceIte, Nat.reduceEqDiff, Nat.reduceAdd, Nat.reduceLT, bne_self_eq_false]
theorem less_c (x y : Int) : closedCall (run env) 30 [.int .i64 x, .int .i64 y] = some (.bool (decide (x < y))) := by
  refine closed_of (v := .bool (decide (x < y))) (fn := Try.f30) rfl Try.func30 rfl (by rw [Try.ntmps30]; simp) (args' := [.int .i64 x, .int .i64 y]) rfl rfl ?_ rfl rfl
  simp only [go_sem, Try.results30, envP, ↓reduceIte, Nat.reduceEqDiff, Nat.reduceAdd, Nat.reduceLT, nan32]

theorem shr59 (a : Int) (h : 0 ≤ a) : binA Try.prog .shr 59 (.int .u64 a) (.int .u64 1) = some (.int .u64 (a / 2)) := by
  have : a.fdiv 2 = a / 2 := Int.fdiv_eq_ediv_of_nonneg a (by omega)
  simp [binA, isShift, shiftA, IntKind.bits, this]
theorem conv359 (n : Int) : convA Try.prog 3 59 (.int .i64 n) = some (.int .u64 (IntKind.u64.wrap n)) := by kernel_rfl
theorem conv593 (n : Int) : convA Try.prog 59 3 (.int .u64 n) = some (.int .i64 (IntKind.i64.wrap n)) := by kernel_rfl

noncomputable def B27 : Code := match Try.f27.body with | some (.seq _ (.seq _ (.seq _ (.seq (.block _ (.loop c)) _)))) => c | _ => .skip
noncomputable def LB27 : Code := .block 0 (.loop B27)
noncomputable def K27 : Code := match Try.f27.body with | some (.seq _ (.seq _ (.seq _ (.seq _ k)))) => k | _ => .skip

structure I27 (L : List Int) (t : Int) (d : Nat) (α : Frm) (H : AHeap) : Prop where
  ex : ∃ i j : Nat, i ≤ j ∧ j ≤ L.length ∧ d = j - i ∧ α 7 = .int .i64 i ∧ α 8 = .int .i64 j ∧ (∀ (q : Nat) (x : Int), L[q]? = some x → (q < i → x < t) ∧ (j ≤ q → ¬ x < t))
  a0 : α 0 = .vec .ro (ints L)
  a1 : α 1 = .int .i64 t
  a6 : α 6 = .int .i64 L.length

structure E27 (L : List Int) (t : Int) (α : Frm) (H : AHeap) : Prop where
  ex : ∃ i : Nat, i ≤ L.length ∧ α 7 = .int .i64 i ∧ (∀ (q : Nat) (x : Int), L[q]? = some x → (q < i ↔ x < t))
  a0 : α 0 = .vec .ro (ints L)
  a1 : α 1 = .int .i64 t
  a6 : α 6 = .int .i64 L.length

theorem round27 (L : List Int) (t : Int) (hn : L.length < 2 ^ 40) (hu : L.Pairwise (· < ·)) (d : Nat) (α : Frm) (H : AHeap) (h : I27 L t d α H) :
    okR (execC env (run env) loopO B27 α H) fun e α' H' => (e = .normal ∧ ∃ d', d' < d ∧ I27 L t d' α' H') ∨ (e ≠ .normal ∧ e = .exit 0 ∧ E27 L t α' H') := by
  obtain ⟨⟨i, j, h1, h2, h3, a7, a8, hq⟩, a0, a1, a6⟩ := h
  have hB : B27 = .seq _ _ := rfl
  rw [hB]
  by_cases c : i < j
  · have e1 : decide ((i : Int) < (j : Int)) = true := decide_eq_true (by omega)
    have hm : (i + j) / 2 < L.length := by omega
    obtain ⟨m, hmm⟩ : ∃ m, (i + j) / 2 = m := ⟨_, rfl⟩
    rw [hmm] at hm
    have hx : L[m]? = some L[m] := List.getElem?_eq_getElem hm
    have w1 : IntKind.i64.wrap ((i : Int) + (j : Int)) = (i : Int) + j := IntWalk.i64_in _ (by omega)
    have w2 : IntKind.u64.wrap ((i : Int) + (j : Int)) = (i : Int) + j := IntWalk.u64_in _ (by omega)
    have w3 : IntKind.i64.wrap (m : Int) = m := IntWalk.i64_in _ (by omega)
    have w4 : IntKind.i64.wrap ((m : Int) + 1) = ((m + 1 : Nat) : Int) := by rw [IntWalk.i64_in _ (by omega)]; omega
    have sh := shr59 ((i : Int) + j) (by omega)
    rw [show ((i : Int) + j) / 2 = (m : Int) by omega] at sh
    have x1 := ix30 (L := L) (i := (m : Int)) (x := L[m]) .ro (by omega) (by rw [Int.toNat_natCast]; exact hx)
    have hl := less_c L[m] t
    have mono : ∀ (q : Nat) (x : Int), L[q]? = some x → (q < m → x < L[m]) ∧ (m < q → L[m] < x) := by
      intro q x hq
      obtain ⟨hql, rfl⟩ := List.getElem?_eq_some_iff.1 hq
      exact ⟨fun hlt => List.pairwise_iff_getElem.1 hu q m hql hm hlt, fun hlt => List.pairwise_iff_getElem.1 hu m q hm hql hlt⟩
    by_cases c2 : L[m] < t
    · have d1 : decide (L[m] < t) = true := decide_eq_true c2
      rw [d1] at hl
      simp only [go_sem, envP, ↓reduceIte, Nat.reduceEqDiff, Nat.reduceAdd, Nat.reduceLT, a0, a1, a6, a7, a8, e1, w1, w2, w3, w4, sh, x1, hl, conv359, conv593]
      refine Or.inl ⟨by simp, j - (m + 1), by omega, ⟨m + 1, j, by omega, by omega, rfl, ?_, ?_, ?_⟩, ?_, ?_, ?_⟩
      case refine_3 =>
        intro q x hqx
        refine ⟨fun hlt => ?_, (hq q x hqx).2⟩
        rcases Nat.lt_or_ge q m with hc | hc
        · have := (mono q x hqx).1 hc; omega
        · have : q = m := by omega
          subst this
          rw [hx] at hqx; cases hqx; exact c2
      all_goals simp only [go_sem, ↓reduceIte, Nat.reduceEqDiff, a0, a1, a6, a7, a8]
    · have d1 : decide (L[m] < t) = false := decide_eq_false c2
      rw [d1] at hl
      simp only [go_sem, envP, ↓reduceIte, Nat.reduceEqDiff, Nat.reduceAdd, Nat.reduceLT, a0, a1, a6, a7, a8, e1, w1, w2, w3, w4, sh, x1, hl, conv359, conv593]
      refine Or.inl ⟨by simp, m - i, by omega, ⟨i, m, by omega, by omega, rfl, ?_, ?_, ?_⟩, ?_, ?_, ?_⟩
      case refine_3 =>
        intro q x hqx
        refine ⟨(hq q x hqx).1, fun hge => ?_⟩
        rcases Nat.lt_or_ge m q with hc | hc
        · have := (mono q x hqx).2 hc; omega
        · have : q = m := by omega
          subst this
          rw [hx] at hqx; cases hqx; exact c2
      all_goals simp only [go_sem, ↓reduceIte, Nat.reduceEqDiff, a0, a1, a6, a7, a8]
  · have e1 : decide ((i : Int) < (j : Int)) = false := decide_eq_false (by omega)
    simp only [go_sem, envP, ↓reduceIte, Nat.reduceEqDiff, Nat.reduceAdd, Nat.reduceLT, a0, a1, a6, a7, a8, e1]
    refine Or.inr ⟨by simp, by simp, ⟨i, by omega, ?_, ?_⟩, ?_, ?_, ?_⟩
    case refine_2 =>
      intro q x hqx
      have := hq q x hqx
      refine ⟨this.1, fun hlt => ?_⟩
      rcases Nat.lt_or_ge q i with hc | hc
      · exact hc
      · exact (this.2 (by omega) hlt).elim
    all_goals simp only [go_sem, ↓reduceIte, Nat.reduceEqDiff, a0, a1, a6, a7, a8]

def FoundAt (L : List Int) (t : Int) (p : Nat) : Bool := L[p]? == some t

theorem tail27 (L : List Int) (t : Int) (hn : L.length < 2 ^ 40) (α : Frm) (H : AHeap) (h : E27 L t α H) (p : Nat) (hp : ∀ (q : Nat) (x : Int), L[q]? = some x → (q < p ↔ x < t)) (hpl : p ≤ L.length) :
    okR (execC env (run env) loopO K27 α H) fun e α' H' => outOf (finish Try.prog Try.f27.results.toList (e, α', H')) = some (.tup [.int .i64 p, .bool (FoundAt L t p)]) := by
  obtain ⟨⟨i, h1, a7, hq⟩, a0, a1, a6⟩ := h
  have hip : i = p := by
    rcases Nat.lt_trichotomy i p with hc | hc | hc
    · have hx : L[i]? = some L[i] := List.getElem?_eq_getElem (by omega)
      have := (hp i _ hx).1 hc
      have := (hq i _ hx).2 this
      omega
    · exact hc
    · have hx : L[p]? = some L[p] := List.getElem?_eq_getElem (by omega)
      have := (hq p _ hx).1 hc
      have := (hp p _ hx).2 this
      omega
  subst hip
  have hK : K27 = .seq _ _ := rfl
  rw [hK]
  by_cases c : i < L.length
  · have e1 : decide ((i : Int) < (L.length : Int)) = true := decide_eq_true (by omega)
    have hx : L[i]? = some L[i] := List.getElem?_eq_getElem c
    have x1 := ix30 (L := L) (i := (i : Int)) (x := L[i]) .ro (by omega) (by rw [Int.toNat_natCast]; exact hx)
    by_cases c2 : L[i] = t
    · have d1 : (L[i] == t) = true := by simp [c2]
      have f1 : FoundAt L t i = true := by simp [FoundAt, hx, c2]
      simp only [go_sem, envP, Try.results27, ↓reduceIte, Nat.reduceEqDiff, Nat.reduceAdd, Nat.reduceLT, a0, a1, a6, a7, e1, x1, d1, f1, nan31]
    · have d1 : (L[i] == t) = false := by simp [c2]
      have f1 : FoundAt L t i = false := by simp [FoundAt, hx, c2]
      simp only [go_sem, envP, Try.results27, ↓reduceIte, Nat.reduceEqDiff, Nat.reduceAdd, Nat.reduceLT, a0, a1, a6, a7, e1, x1, d1, f1, nan31]
  · have e1 : decide ((i : Int) < (L.length : Int)) = false := decide_eq_false (by omega)
    have f1 : FoundAt L t i = false := by simp [FoundAt, List.getElem?_eq_none (Nat.le_of_not_lt c)]
    simp only [go_sem, envP, Try.results27, ↓reduceIte, Nat.reduceEqDiff, Nat.reduceAdd, Nat.reduceLT, a0, a1, a6, a7, e1, f1]

theorem bin_c (L : List Int) (t : Int) (hn : L.length < 2 ^ 40) (hu : L.Pairwise (· < ·)) (p : Nat) (hp : ∀ (q : Nat) (x : Int), L[q]? = some x → (q < p ↔ x < t)) (hpl : p ≤ L.length) :
    closedCall (run env) 27 [.vec .ro (ints L), .int .i64 t] = some (.tup [.int .i64 p, .bool (FoundAt L t p)]) := by
  refine closed_of (v := .tup [.int .i64 p, .bool (FoundAt L t p)]) (fn := Try.f27) (c := .seq _ (.seq _ (.seq _ (.seq LB27 K27)))) rfl Try.func27 rfl (by rw [Try.ntmps27]; simp) (args' := [.vec .ro (ints L), .int .i64 t]) rfl (by simp [AV.noPtr, AV.noPtr.go, ints_np]) ?_ rfl rfl
  refine out_of ?_
  simp only [go_sem, envP, ↓reduceIte, Nat.reduceEqDiff, Nat.reduceAdd, Nat.reduceLT]
  refine okR_then (block_normal 0 _ _ _ _ ?_)
  rw [xc_loop']
  refine okR_imp (loop_meas (I27 L t) (fun e α' H' => e = .exit 0 ∧ E27 L t α' H') (fun d α H h => round27 L t hn hu d α H h) L.length _ _ ⟨⟨0, L.length, by omega, by omega, by omega, ?_, ?_, ?_⟩, ?_, ?_, ?_⟩) ?_
  case refine_3 =>
    intro q x hq
    refine ⟨fun h => by omega, fun h => ?_⟩
    rw [List.getElem?_eq_none h] at hq; cases hq
  case refine_7 =>
    intro e α H ⟨h1, h2⟩
    exact ⟨Or.inr h1, rfl, tail27 L t hn α H h2 p hp hpl⟩
  all_goals simp [go_sem]
end Go.Proofs.Ytkhhkfgehmogoaa
