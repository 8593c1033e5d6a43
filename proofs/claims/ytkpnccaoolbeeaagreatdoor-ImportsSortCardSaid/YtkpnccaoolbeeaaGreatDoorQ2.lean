/- ImportsSort: Clone, IndexFunc, DeleteFunc on the machine. -/
import Derived.Test.YtkpnccaoolbeeaaGreatDoorQ1
namespace Go.Proofs.YtkpnccaoolbeeaaGreatDoor
set_option linter.unusedVariables false
set_option linter.unusedSimpArgs false
open Go Go.Ab

theorem open_out {E : Env} {f : FuncId} {fn : Func} {c : Code} (hG : E.G f = true) (hdf : E.df f = false) (h1 : E.P.funcs[f]? = some fn) (h2 : fn.body = some c) {args : List AV} (hn : args.length ≤ fn.ntmps) {H : AHeap} {Q : AV × AHeap → Prop}
    (h : okR (execC E (run E) loopO c (frm0 args) H) fun e α' H' => ∃ r, finish E.P fn.results.toList (e, α', H') = some r ∧ Q r) : ∃ r, run E f args H = some r ∧ Q r := by
  rw [run_body hG hdf h1 h2 hn]
  obtain ⟨e, α', H', h3, r, h4, h5⟩ := okR_get h
  rw [h3]
  exact ⟨r, h4, h5⟩

theorem loop_meas {g : Frm → AHeap → Option Res} (I : Nat → Frm → AHeap → Prop) (P : Ex → Frm → AHeap → Prop)
    (hr : ∀ d α H, I d α H → okR (g α H) fun e α' H' => (e = .normal ∧ ∃ d', d' < d ∧ I d' α' H') ∨ (e ≠ .normal ∧ P e α' H')) (d : Nat) : ∀ α H, I d α H → okR (loopO g α H) P := by
  induction d using Nat.strongRecOn with
  | _ d ih =>
    intro α H h
    obtain ⟨e, α', H', h1, h2⟩ := okR_get (hr d α H h)
    rcases h2 with ⟨h2, d', h3, h4⟩ | ⟨h2, h3⟩
    · subst h2
      rw [loopO_eq, h1]
      exact ih d' h3 α' H' h4
    · rw [loopO_eq, h1]
      cases e with
      | normal => exact (h2 rfl).elim
      | exit j => exact h3
      | ret => exact h3
theorem block_ret {E : Env} {call : CallO} {loop : (Frm → AHeap → Option Res) → Frm → AHeap → Option Res} {id : Nat} {c : Code} {k : Frm → AHeap → Option Res} {α : Frm} {H : AHeap} {P : Ex → Frm → AHeap → Prop}
    (h : okR (execC E call loop c α H) fun e α' H' => ((e = .normal ∨ e = .exit id) ∧ okR (k α' H') P) ∨ (e = .ret ∧ P .ret α' H')) : okR (bnd (execC E call loop (.block id c) α H) fun r => andThen r k) P := by
  obtain ⟨e, α', H', h1, h2⟩ := okR_get h
  rw [xc_block, h1]
  rcases h2 with ⟨h2 | h2, h3⟩ | ⟨h2, h3⟩
  · subst h2; exact h3
  · subst h2
    simp only [bnd, unblock, if_true]
    exact h3
  · subst h2
    exact h3

theorem V_cons_eq {l : List Im} (hl : l ≠ []) : binA Tryz.prog .eql 22 (.vec .ro (V l)) (.vec .nil []) = some (.bool false) := by
  cases l with
  | nil => exact absurd rfl hl
  | cons x l =>
    have h : sliceTQ Tryz.prog 22 = true := by kernel_rfl
    simp [V, binA, h, nilBin]
theorem bs22 (H : AHeap) : buildSliceA Tryz.prog 22 0 [] H = some (.vec .full [], H) := by
  simp [buildSliceA, elem22, sz26, zero26, inOrder, allWidth, allOneL]
theorem app22 {l : List Im} (hl : l ≠ []) (hn : l.length ≤ 100) (m : Nat) (L : List (Nat × AObj)) :
    appendOp env2.mutT Tryz.prog [22, 22] [.vec .full [], .vec .ro (V l)] ⟨m, L⟩ = some (.sl m 3 0 l.length, ⟨m + 1, (m, .row l.length 26 3 (flat l)) :: L⟩) := by
  have h0 : l.length ≠ 0 := by simpa using hl
  have h1 : l.length * 40 ≤ 140737488355328 := by omega
  have h2 : l.length ≤ 9223372036854775807 := by omega
  simp [appendOp, appendA, elem22, sz26, by26, zero26, persist, mutE, appendRow, srcA, V_wide, V_len, V_flat, appendSrc, h0, hl, allWidth, h1, h2, AHeap.push]

theorem clone_c {l : List Im} (hl : l ≠ []) (hn : l.length ≤ 100) (m : Nat) (L : List (Nat × AObj)) :
    run env2 10 [.vec .ro (V l)] ⟨m, L⟩ = some (.sl m 3 0 l.length, ⟨m + 1, (m, .row l.length 26 3 (flat l)) :: L⟩) := by
  have h1 := V_cons_eq hl
  have h2 := app22 hl hn m L
  rw [run_body (E := env2) (fn := Tryz.f10) rfl rfl Tryz.func10 rfl (by rw [Tryz.ntmps10]; simp)]
  simp only [go_sem, envP, ↓reduceIte, Nat.reduceEqDiff, Nat.reduceAdd, Nat.reduceLT, h1, bs22, h2, Tryz.results10]

/-! slices.IndexFunc -/
noncomputable def B26 : Code := match Tryz.f26.body with | some (.seq _ (.seq (.seq _ (.block _ (.loop c))) _)) => c | _ => .skip
noncomputable def LB26 : Code := .block 0 (.loop B26)
noncomputable def K26 : Code := match Tryz.f26.body with | some (.seq _ (.seq _ k)) => k | _ => .skip

structure I26 (l : List Im) (k : Nat) (H0 : AHeap) (d : Nat) (α : Frm) (H : AHeap) : Prop where
  ex : ∃ i : Nat, i + d = l.length ∧ α 8 = .int .i64 i ∧ ∀ (j : Nat) (x : Im), j < i → l[j]? = some x → x.2.2 = true
  a0 : α 0 = .sl k 3 0 l.length
  a1 : α 1 = .fn (.func 11) [] []
  a7 : α 7 = .int .i64 l.length
  h : H = H0

def Post26 (l : List Im) (H0 : AHeap) (e : Ex) (α : Frm) (H : AHeap) : Prop :=
  H = H0 ∧ ((e = .exit 0 ∧ ∀ x ∈ l, x.2.2 = true) ∨ (e = .ret ∧ ∃ i : Nat, α 4 = .int .i64 i ∧ i < l.length ∧ (∀ (j : Nat) (x : Im), j < i → l[j]? = some x → x.2.2 = true) ∧ ∀ x : Im, l[i]? = some x → x.2.2 = false))

theorem round26 {l : List Im} {k m : Nat} {L : List (Nat × AObj)} (hk : k < m) (hc : cellsQ L k = some (flat l)) (hn : l.length ≤ 100) (d : Nat) (α : Frm) (H : AHeap) (h : I26 l k ⟨m, L⟩ d α H) :
    okR (execC env2 (run env2) loopO B26 α H) fun e α' H' => (e = .normal ∧ ∃ d', d' < d ∧ I26 l k ⟨m, L⟩ d' α' H') ∨ (e ≠ .normal ∧ Post26 l ⟨m, L⟩ e α' H') := by
  obtain ⟨⟨i, hi, a8, hq⟩, a0, a1, a7, rfl⟩ := h
  have hB : B26 = .seq _ _ := rfl
  rw [hB]
  have hkm : (k < m) = True := eq_true hk
  by_cases c : i < l.length
  · have e1 : decide ((i : Int) < (l.length : Int)) = true := decide_eq_true (by omega)
    have w1 : IntKind.i64.wrap ((i : Int) + 1) = ((i + 1 : Nat) : Int) := by rw [IntWalk.i64_in _ (by omega)]; omega
    have hx : l[i]? = some l[i] := List.getElem?_eq_getElem c
    have x1 := ixS k l.length c
    have x2 := ldF hx
    have x3 := unused_c l[i]
    cases hu : l[i].2.2 with
    | false =>
      rw [hu] at x3
      simp only [go_sem, envP, ↓reduceIte, Nat.reduceEqDiff, Nat.reduceAdd, Nat.reduceLT, a0, a1, a7, a8, e1, w1, x1, x2, x3, hkm, hc, Bool.not_false]
      refine .inr ⟨by simp, rfl, .inr ⟨rfl, i, ?_, c, hq, fun x h => ?_⟩⟩
      · simp only [go_sem, ↓reduceIte, Nat.reduceEqDiff]
      · rw [hx] at h
        cases h
        exact hu
    | true =>
      rw [hu] at x3
      simp only [go_sem, envP, ↓reduceIte, Nat.reduceEqDiff, Nat.reduceAdd, Nat.reduceLT, a0, a1, a7, a8, e1, w1, x1, x2, x3, hkm, hc, Bool.not_true]
      refine .inl ⟨trivial, d - 1, by omega, ⟨i + 1, by omega, ?_, fun j x h1 h2 => ?_⟩, ?_, ?_, ?_, rfl⟩
      case refine_2 =>
        rcases Nat.lt_or_ge j i with h | h
        · exact hq j x h h2
        · have : j = i := by omega
          subst this
          rw [hx] at h2
          cases h2
          exact hu
      all_goals simp only [go_sem, ↓reduceIte, Nat.reduceEqDiff, a0, a1, a7, a8]
  · have e1 : decide ((i : Int) < (l.length : Int)) = false := decide_eq_false (by omega)
    simp only [go_sem, envP, ↓reduceIte, Nat.reduceEqDiff, Nat.reduceAdd, Nat.reduceLT, a0, a1, a7, a8, e1]
    refine .inr ⟨by simp, rfl, .inl ⟨rfl, fun x hx => ?_⟩⟩
    obtain ⟨j, hj⟩ := List.getElem?_of_mem hx
    exact hq j x (by have := (List.getElem?_eq_some_iff.1 hj).1; omega) hj

theorem index_c {l : List Im} {k m : Nat} {L : List (Nat × AObj)} (hk : k < m) (hc : cellsQ L k = some (flat l)) (hn : l.length ≤ 100) :
    ∃ r : Int, run env2 26 [.sl k 3 0 l.length, .fn (.func 11) [] []] ⟨m, L⟩ = some (.int .i64 r, ⟨m, L⟩) ∧
      ((r = -1 ∧ ∀ x ∈ l, x.2.2 = true) ∨ ∃ i : Nat, r = i ∧ i < l.length ∧ (∀ (j : Nat) (x : Im), j < i → l[j]? = some x → x.2.2 = true) ∧ ∀ x : Im, l[i]? = some x → x.2.2 = false) := by
  have key := open_out (E := env2) (f := 26) (fn := Tryz.f26) (c := .seq _ (.seq (.seq _ LB26) K26)) rfl rfl Tryz.func26 rfl (args := [.sl k 3 0 l.length, .fn (.func 11) [] []]) (by rw [Tryz.ntmps26]; simp) (H := ⟨m, L⟩)
    (Q := fun r => ∃ z : Int, r = (.int .i64 z, ⟨m, L⟩) ∧ ((z = -1 ∧ ∀ x ∈ l, x.2.2 = true) ∨ ∃ i : Nat, z = i ∧ i < l.length ∧ (∀ (j : Nat) (x : Im), j < i → l[j]? = some x → x.2.2 = true) ∧ ∀ x : Im, l[i]? = some x → x.2.2 = false)) ?_
  · obtain ⟨r, h1, z, rfl, h2⟩ := key
    exact ⟨z, h1, h2⟩
  simp only [go_sem, envP, ↓reduceIte, Nat.reduceEqDiff, Nat.reduceAdd, Nat.reduceLT]
  refine block_ret (id := 0) ?_
  rw [xc_loop']
  refine okR_imp (loop_meas (I26 l k ⟨m, L⟩) (Post26 l ⟨m, L⟩) (fun d α H h => round26 hk hc hn d α H h) l.length _ _ ⟨⟨0, by omega, ?_, fun j x h => absurd h (by omega)⟩, ?_, ?_, ?_, rfl⟩) ?_
  case refine_5 =>
    rintro e α' H' ⟨rfl, ⟨rfl, hall⟩ | ⟨rfl, i, h4, h5, h6, h7⟩⟩
    · refine .inl ⟨.inr rfl, ?_⟩
      have hK : K26 = .seq _ _ := rfl
      rw [hK]
      simp only [go_sem, envP, ↓reduceIte, Nat.reduceEqDiff, Nat.reduceAdd, Nat.reduceLT, Tryz.results26]
      exact ⟨_, rfl, -1, rfl, .inl ⟨rfl, hall⟩⟩
    · refine .inr ⟨rfl, ?_⟩
      simp only [go_sem, envP, ↓reduceIte, Nat.reduceEqDiff, Nat.reduceAdd, Nat.reduceLT, Tryz.results26, h4]
      exact ⟨_, rfl, i, rfl, .inr ⟨i, rfl, h5, h6, h7⟩⟩
  all_goals simp only [go_sem, ↓reduceIte, Nat.reduceEqDiff]
  all_goals rfl
end Go.Proofs.YtkpnccaoolbeeaaGreatDoor
