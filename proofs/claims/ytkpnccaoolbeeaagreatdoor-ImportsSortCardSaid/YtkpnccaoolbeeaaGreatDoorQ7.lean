/- ImportsSort: the law on the machine. -/
import Derived.Test.YtkpnccaoolbeeaaGreatDoorQ6
namespace Go.Proofs.YtkpnccaoolbeeaaGreatDoor
set_option linter.unusedVariables false
set_option linter.unusedSimpArgs false
open Go Go.Ab

def isT : Option AV → Bool
  | some (.bool true) => true
  | _ => false
theorem isT_of {o : Option AV} (h : isT o = true) : o = some (.bool true) := by
  unfold isT at h
  split at h
  · rfl
  · cases h
theorem run_of2 (n : Nat) {f : FuncId} {args : List AV} {v : AV} (h : closedCall Tryz.prog (execF env2 n) f args = some v) : closedCall Tryz.prog (run env2) f args = some v :=
  closed_mono (fun f args H r hr => run_iff.2 ⟨n, hr⟩) h
theorem awake2 : closedCall Tryz.prog (run env2) 4 [] = some (.bool true) := run_of2 1 (isT_of (by kernel_rfl))
theorem law_nil : closedCall Tryz.prog (run env2) 3 [.vec .nil []] = some (.bool true) := run_of2 30 (isT_of (by kernel_rfl))
theorem law_es (a : Addr) (c : Nat) : closedCall Tryz.prog (run env2) 3 [.val (.slice (some a) 0 c)] = some (.bool true) := run_of2 30 (isT_of (by kernel_rfl))
theorem eq27 : eqQ Tryz.prog 4 27 = some [.str, .str, .bool] := by kernel_rfl
theorem neq27 (x : Im) : binA Tryz.prog .neq 27 (.agg (encI x)) (.agg (encI x)) = some (.bool false) := by
  simp [binA, agg27, eq27, encI, eqCells, eqCell, eqBin]
attribute [go_sem] awake2 neq27

theorem law_gt {l : List Im} (hn : 100 < l.length) : closedCall Tryz.prog (run env2) 3 [.vec .ro (V l)] = some (.bool true) := by
  refine closed_of (v := .bool true) (fn := Tryz.f3) rfl rfl Tryz.func3 rfl (by rw [Tryz.ntmps3]; simp) (args' := [.vec .ro (V l)]) rfl (by simp [AV.noPtr, AV.noPtr.go, V_np]) ?_ rfl rfl
  have d1 : decide ((l.length : Int) > 100) = true := decide_eq_true (by omega)
  simp only [go_sem, envP, ↓reduceIte, Nat.reduceEqDiff, Nat.reduceAdd, Nat.reduceLT, d1, Tryz.results3]

noncomputable def B3a : Code := match Tryz.f3.body with | some (.seq _ (.seq _ (.seq _ (.seq (.seq _ (.block _ (.loop c))) _)))) => c | _ => .skip
noncomputable def LB3a : Code := .block 0 (.loop B3a)
noncomputable def K3a : Code := match Tryz.f3.body with | some (.seq _ (.seq _ (.seq _ (.seq _ k)))) => k | _ => .skip
noncomputable def B3b : Code := match K3a with | .seq _ (.seq _ (.seq (.seq _ (.block _ (.loop c))) _)) => c | _ => .skip
noncomputable def LB3b : Code := .block 2 (.loop B3b)
noncomputable def K3b : Code := match K3a with | .seq _ (.seq _ (.seq _ k)) => k | _ => .skip

structure I3a (l : List Im) (d : Nat) (α : Frm) (H : AHeap) : Prop where
  ex : ∃ (i : Nat) (o : Own), i + d = l.length ∧ α 15 = .int .i64 i ∧ α 3 = .vec o (V (l.take i)) ∧ OwnI o (l.take i).length H
  a0 : α 0 = .vec .ro (V l)
  a13 : α 13 = .vec .ro (V l)
  a14 : α 14 = .int .i64 l.length
def P3a (l : List Im) (e : Ex) (α : Frm) (H : AHeap) : Prop := e = .exit 0 ∧ α 0 = .vec .ro (V l) ∧ ∃ o, α 3 = .vec o (V l) ∧ OwnI o l.length H

theorem round3a {l : List Im} (hn : l.length ≤ 100) (d : Nat) (α : Frm) (H : AHeap) (h : I3a l d α H) :
    okR (execC env2 (run env2) loopO B3a α H) fun e α' H' => (e = .normal ∧ ∃ d', d' < d ∧ I3a l d' α' H') ∨ (e ≠ .normal ∧ P3a l e α' H') := by
  obtain ⟨⟨i, o, hi, a15, a3, hown⟩, a0, a13, a14⟩ := h
  have hB : B3a = .seq _ (.seq _ _) := rfl
  rw [hB]
  by_cases c : i < l.length
  · have e1 : decide ((i : Int) < (l.length : Int)) = true := decide_eq_true (by omega)
    have w1 : IntKind.i64.wrap ((i : Int) + 1) = ((i + 1 : Nat) : Int) := by rw [IntWalk.i64_in _ (by omega)]; omega
    have hx : l[i]? = some l[i] := List.getElem?_eq_getElem c
    generalize l[i] = x at hx
    have xi := ix22 .ro hx
    obtain ⟨m, L⟩ := H
    have hmm : (m < m + 1) = True := eq_true (by omega)
    have hown' : OwnI o (l.take i).length ⟨m + 1, (m, .cells (some 26) (encI x)) :: L⟩ := by
      rcases hown with h | ⟨h1, id, h2, h3, h4⟩
      · exact .inl h
      · simp only at h3
        exact .inr ⟨h1, id, h2, by simp only; omega, by rw [getL_cons, if_neg (by omega)]; exact h4⟩
    obtain ⟨o', H', f1, g1⟩ := app24 (o := o) (es := l.take i) [x] .full hown' (by simp only [List.length_take, List.length_cons, List.length_nil]; omega)
    have ht : l.take i ++ [x] = l.take (i + 1) := by rw [List.take_add_one, hx]; rfl
    rw [ht] at f1 g1
    simp only [go_sem, envP, ↓reduceIte, Nat.reduceEqDiff, Nat.reduceAdd, Nat.reduceLT, a3, a13, a14, a15, e1, w1, xi, hmm, f1]
    refine .inl ⟨trivial, d - 1, by omega, ⟨i + 1, o', by omega, ?_, ?_, g1⟩, ?_, ?_, ?_⟩
    all_goals simp only [go_sem, ↓reduceIte, Nat.reduceEqDiff, a0, a13, a14]
  · have e1 : decide ((i : Int) < (l.length : Int)) = false := decide_eq_false (by omega)
    have : i = l.length := by omega
    subst this
    rw [List.take_length] at a3 hown
    simp only [go_sem, envP, ↓reduceIte, Nat.reduceEqDiff, Nat.reduceAdd, Nat.reduceLT, a14, a15, e1]
    refine .inr ⟨by simp, rfl, ?_, o, ?_, hown⟩
    all_goals simp only [go_sem, ↓reduceIte, Nat.reduceEqDiff, a0, a3]

structure I3b (S : List Im) (o : Own) (d : Nat) (α : Frm) (H : AHeap) : Prop where
  ex : ∃ i : Nat, i + d = S.length ∧ α 35 = .int .i64 i
  a6 : α 6 = .vec .ro (V S)
  a7 : α 7 = .vec o (V S)
  a34 : α 34 = .int .i64 S.length

theorem round3b {S : List Im} {o : Own} (hn : S.length ≤ 100) (d : Nat) (α : Frm) (H : AHeap) (h : I3b S o d α H) :
    okR (execC env2 (run env2) loopO B3b α H) fun e α' H' => (e = .normal ∧ ∃ d', d' < d ∧ I3b S o d' α' H') ∨ (e ≠ .normal ∧ e = .exit 2) := by
  obtain ⟨⟨i, hi, a35⟩, a6, a7, a34⟩ := h
  have hB : B3b = .seq _ (.seq _ _) := rfl
  rw [hB]
  by_cases c : i < S.length
  · have e1 : decide ((i : Int) < (S.length : Int)) = true := decide_eq_true (by omega)
    have w1 : IntKind.i64.wrap ((i : Int) + 1) = ((i + 1 : Nat) : Int) := by rw [IntWalk.i64_in _ (by omega)]; omega
    have hx : S[i]? = some S[i] := List.getElem?_eq_getElem c
    generalize S[i] = x at hx
    have x1 := ix22 .ro hx
    have x2 := ix24 o hx
    simp only [go_sem, envP, ↓reduceIte, Nat.reduceEqDiff, Nat.reduceAdd, Nat.reduceLT, a6, a7, a34, a35, e1, w1, x1, x2]
    refine .inl ⟨trivial, d - 1, by omega, ⟨i + 1, by omega, ?_⟩, ?_, ?_, ?_⟩
    all_goals simp only [go_sem, ↓reduceIte, Nat.reduceEqDiff, a6, a7, a34]
  · have e1 : decide ((i : Int) < (S.length : Int)) = false := decide_eq_false (by omega)
    simp only [go_sem, envP, ↓reduceIte, Nat.reduceEqDiff, Nat.reduceAdd, Nat.reduceLT, a34, a35, e1]
    exact .inr ⟨by simp, trivial⟩

theorem law_ne {l : List Im} (hl : l ≠ []) (hn : l.length ≤ 100) : closedCall Tryz.prog (run env2) 3 [.vec .ro (V l)] = some (.bool true) := by
  refine closed_of (v := .bool true) (fn := Tryz.f3) (c := .seq _ (.seq (.seq _ _) (.seq _ (.seq (.seq _ LB3a) K3a)))) rfl rfl Tryz.func3 rfl (by rw [Tryz.ntmps3]; simp) (args' := [.vec .ro (V l)]) rfl (by simp [AV.noPtr, AV.noPtr.go, V_np]) ?_ rfl rfl
  have d1 : decide ((l.length : Int) > 100) = false := decide_eq_false (by omega)
  refine out_of ?_
  simp only [go_sem, envP, ↓reduceIte, Nat.reduceEqDiff, Nat.reduceAdd, Nat.reduceLT, d1]
  refine block_ret (id := 0) ?_
  rw [xc_loop']
  refine okR_imp (loop_meas (I3a l) (P3a l) (fun d α H h => round3a hn d α H h) l.length _ _ ⟨⟨0, .nil, by omega, ?_, ?_, .inl ⟨?_, rfl⟩⟩, ?_, ?_, ?_⟩) ?_
  case refine_7 =>
    rintro e α' H' ⟨rfl, b0, o, b3, hown⟩
    refine .inl ⟨.inr rfl, ?_⟩
    obtain ⟨id, rfl⟩ : ∃ id, o = .own id := by
      rcases hown with ⟨h, _⟩ | ⟨_, id, h, _⟩
      · exact absurd (List.length_eq_zero_iff.1 h) hl
      · exact ⟨id, h⟩
    obtain ⟨o', hr⟩ := ref_c id hn (l := l)
    have hs := sorted_c hl hn
    rw [refS_eq] at hr
    obtain ⟨S, hS⟩ : ∃ S, (srt (U l)).map ofP = S := ⟨_, rfl⟩
    have hSl : S.length ≤ 100 := by
      rw [← hS, List.length_map, srt_len]
      have := U_len l
      omega
    rw [hS] at hr hs
    have d2 : ((S.length : Int) != (S.length : Int)) = false := by simp
    have hK : K3a = .seq _ (.seq (.seq _ _) (.seq (.seq _ LB3b) K3b)) := rfl
    rw [hK]
    simp only [go_sem, envP, ↓reduceIte, Nat.reduceEqDiff, Nat.reduceAdd, Nat.reduceLT, b0, b3, hr, hs, d2]
    refine block_ret (id := 2) ?_
    rw [xc_loop']
    refine okR_imp (loop_meas (I3b S o') (fun e _ _ => e = .exit 2) (fun d α H h => round3b hSl d α H h) S.length _ _ ⟨⟨0, by omega, ?_⟩, ?_, ?_, ?_⟩) ?_
    case refine_5 =>
      rintro e α2 H2 rfl
      refine .inl ⟨.inr rfl, ?_⟩
      have hK : K3b = .seq _ _ := rfl
      rw [hK]
      simp only [go_sem, envP, ↓reduceIte, Nat.reduceEqDiff, Nat.reduceAdd, Nat.reduceLT, Tryz.results3]
    all_goals simp only [go_sem, ↓reduceIte, Nat.reduceEqDiff]
    all_goals rfl
  all_goals first
    | (simp only [go_sem, ↓reduceIte, Nat.reduceEqDiff]; done)
    | (simp only [go_sem, ↓reduceIte, Nat.reduceEqDiff, List.take_zero]; rfl)
    | rfl
end Go.Proofs.YtkpnccaoolbeeaaGreatDoor
