/- ImportsSort: the document's Sorted on the machine, whole. -/
import Derived.Test.YtkpnccaoolbeeaaGreatDoorQ5
namespace Go.Proofs.YtkpnccaoolbeeaaGreatDoor
set_option linter.unusedVariables false
set_option linter.unusedSimpArgs false
open Go Go.Ab

theorem U_take {l : List Im} {i : Nat} {x : Im} (h : l[i]? = some x) : U (l.take (i + 1)) = U (l.take i) ++ (if x.2.2 = true then [(x.1, x.2.1)] else []) := by
  have := used_take h
  unfold used at this
  unfold U
  rw [this, List.map_append]
  cases hx : x.2.2 <;> simp
theorem refS_snoc (l : List Pr) (x : Pr) : refS (l ++ [x]) = insR (refS l) x := by simp [refS, List.foldl_append]
theorem refS_len (l : List Pr) : (refS l).length = l.length := by rw [refS_eq, srt_len]
theorem U_len (l : List Im) : (U l).length ≤ l.length := by
  unfold U
  rw [List.length_map]
  exact List.length_filter_le _ _

noncomputable def T6 : Code := match B6 with | .seq _ k => k | _ => .skip
noncomputable def X6 : Code := match B6 with | .seq _ (.seq (.block _ x) _) => x | _ => .skip
noncomputable def Y6 : Code := match B6 with | .seq _ (.seq (.block _ (.seq _ y)) _) => y | _ => .skip
noncomputable def Z6 : Code := match B6 with | .seq _ (.seq (.block _ (.seq _ (.seq _ z))) _) => z | _ => .skip

structure I6 (l : List Im) (d : Nat) (α : Frm) (H : AHeap) : Prop where
  ex : ∃ (i : Nat) (o : Own), i + d = l.length ∧ α 4 = .int .i64 i ∧ α 3 = .vec o (V ((refS (U (l.take i))).map ofP)) ∧ OwnI o (refS (U (l.take i))).length H
  a0 : α 0 = .vec .ro (V l)

def P6 (l : List Im) (e : Ex) (α : Frm) (H : AHeap) : Prop := e = .exit 0 ∧ ∃ o, α 3 = .vec o (V ((refS (U l)).map ofP)) ∧ OwnI o (refS (U l)).length H

set_option maxRecDepth 100000 in
theorem round6 {l : List Im} (hn : l.length ≤ 100) (d : Nat) (α : Frm) (H : AHeap) (h : I6 l d α H) :
    okR (execC env2 (run env2) loopO B6 α H) fun e α' H' => (e = .normal ∧ ∃ d', d' < d ∧ I6 l d' α' H') ∨ (e ≠ .normal ∧ P6 l e α' H') := by
  obtain ⟨⟨i, o, hi, a4, a3, hown⟩, a0⟩ := h
  have hB : B6 = .seq (.seq _ _) T6 := rfl
  have hT : T6 = .seq (.block 1 X6) R6 := rfl
  rw [hB]
  by_cases c : i < l.length
  · have e1 : decide ((i : Int) < (l.length : Int)) = true := decide_eq_true (by omega)
    have w1 : IntKind.i64.wrap ((i : Int) + 1) = ((i + 1 : Nat) : Int) := by rw [IntWalk.i64_in _ (by omega)]; omega
    have hx : l[i]? = some l[i] := List.getElem?_eq_getElem c
    generalize l[i] = x at hx
    have xi := ix24 .ro hx
    have hU := U_take hx
    have hR : R6 = .region _ _ _ := rfl
    refine seq_then _ _ _ _ _ ?_
    simp only [go_sem, envP, ↓reduceIte, Nat.reduceEqDiff, Nat.reduceAdd, Nat.reduceLT, a0, a4, e1]
    refine ⟨trivial, ?_⟩
    rw [hT]
    refine seq_then _ _ _ _ _ (block_normal 1 _ _ _ _ ?_)
    have hX : X6 = .seq (.seq _ _) Y6 := rfl
    have hY : Y6 = .seq _ Z6 := rfl
    have hZ : Z6 = .seq LC6 D6 := rfl
    rw [hX]
    cases hu : x.2.2 with
    | false =>
      rw [hu] at hU
      simp only [Bool.false_eq_true, if_false, List.append_nil] at hU
      simp only [go_sem, envP, ↓reduceIte, Nat.reduceEqDiff, Nat.reduceAdd, Nat.reduceLT, a0, a4, xi, hu, Bool.not_false, hR, w1]
      refine ⟨.inr trivial, trivial, .inl ⟨trivial, d - 1, by omega, ⟨i + 1, o, by omega, ?_, ?_, by rw [hU]; exact hown⟩, ?_⟩⟩
      all_goals simp only [go_sem, ↓reduceIte, Nat.reduceEqDiff, a0, a3, a4, hU]
    | true =>
      rw [hu, if_pos rfl, ] at hU
      have hxp : x = ofP (x.1, x.2.1) := by
        obtain ⟨p, q, r⟩ := x
        simp only at hu
        subst hu
        rfl
      generalize hxq : (x.1, x.2.1) = xp at hU hxp
      subst hxp
      obtain ⟨out, hout⟩ : ∃ out, refS (U (l.take i)) = out := ⟨_, rfl⟩
      have hnew : refS (U (l.take (i + 1))) = insR out xp := by rw [hU, refS_snoc, hout]
      rw [hout] at a3 hown
      have hol : out.length ≤ 100 := by
        rw [← hout, refS_len]
        have h1 := U_len (l.take i)
        rw [List.length_take] at h1
        omega
      have hpl := pos_le out xp out.length
      obtain ⟨a, ha⟩ : ∃ a, pos out xp out.length = a := ⟨_, rfl⟩
      refine seq_then _ _ _ _ _ ?_
      simp only [go_sem, envP, ↓reduceIte, Nat.reduceEqDiff, Nat.reduceAdd, Nat.reduceLT, a0, a4, xi, hu, Bool.not_true]
      refine ⟨trivial, ?_⟩
      rw [hY]
      refine seq_then _ _ _ _ _ ?_
      simp only [go_sem, envP, ↓reduceIte, Nat.reduceEqDiff, Nat.reduceAdd, Nat.reduceLT, a3, List.length_map]
      refine ⟨trivial, ?_⟩
      rw [hZ]
      refine seq_then _ _ _ _ _ (block_normal 2 _ _ _ _ ?_)
      rw [xc_loop']
      refine okR_imp (loop_meas (J6 l i out xp o H) (JP l i out xp o H) (fun d α H' h => inner6 hx hol d α H' h) out.length _ _ ⟨Nat.le_refl _, rfl, ?_, ?_, ?_, ?_, rfl⟩) ?_
      case refine_5 =>
        rintro e α' H' ⟨rfl, b5, b0, b3, b4, rfl⟩
        refine ⟨.inr rfl, rfl, ?_⟩
        rw [ha] at b5 hpl
        have hD : D6 = .seq _ (.seq _ (.seq _ _)) := rfl
        have hol' : (out.map ofP).length = out.length := List.length_map ..
        have s1 := sl24a (o := o) (l := out.map ofP) (a := a) (by omega)
        have s2 := sl24b (o := o) (l := out.map ofP) (a := a) (by omega)
        obtain ⟨o1, H1, f1, g1⟩ := app24 (o := .nil) (es := []) (H := H') ((out.map ofP).take a) (cutOwn o (some (.int .i64 (a : Int)))) (.inl ⟨rfl, rfl⟩) (by simp only [List.length_nil, List.length_take]; omega)
        simp only [show V [] = [] from rfl, List.nil_append] at f1 g1
        obtain ⟨o2, H2, f2, g2⟩ := app24 (o := o1) (es := (out.map ofP).take a) (H := H1) [ofP xp] .full g1 (by simp only [List.length_take, List.length_cons, List.length_nil]; omega)
        obtain ⟨o3, H3, f3, g3⟩ := app24 (o := o2) (es := (out.map ofP).take a ++ [ofP xp]) (H := H2) ((out.map ofP).drop a) (cutOwn o none) g2 (by simp only [List.length_append, List.length_take, List.length_drop, List.length_cons, List.length_nil]; omega)
        have hins : (out.map ofP).take a ++ [ofP xp] ++ (out.map ofP).drop a = (insR out xp).map ofP := by
          unfold insR
          rw [ha]
          simp [List.map_take, List.map_drop]
        rw [hins] at f3 g3
        rw [hD]
        simp only [go_sem, envP, ↓reduceIte, Nat.reduceEqDiff, Nat.reduceAdd, Nat.reduceLT, b0, b3, b4, b5, xi, s1, s2, f1, f2, f3, hR, w1]
        refine ⟨.inl trivial, trivial, .inl ⟨trivial, d - 1, by omega, ⟨i + 1, o3, by omega, ?_, ?_, ?_⟩, ?_⟩⟩
        case refine_3 =>
          rw [hnew]
          rw [List.length_map] at g3
          exact g3
        all_goals simp only [go_sem, ↓reduceIte, Nat.reduceEqDiff, b0, b3, b4, hnew]
      all_goals simp only [go_sem, ↓reduceIte, Nat.reduceEqDiff, a0, a3, a4, List.length_map]
  · have e1 : decide ((i : Int) < (l.length : Int)) = false := decide_eq_false (by omega)
    have : i = l.length := by omega
    subst this
    rw [List.take_length] at a3 hown
    simp only [go_sem, envP, ↓reduceIte, Nat.reduceEqDiff, Nat.reduceAdd, Nat.reduceLT, a0, a4, e1]
    refine .inr ⟨by simp, rfl, o, ?_, hown⟩
    simp only [go_sem, ↓reduceIte, Nat.reduceEqDiff, a3]

theorem ref_c {l : List Im} (id : Nat) (hn : l.length ≤ 100) : ∃ o, closedCall Tryz.prog (run env2) 6 [.vec (.own id) (V l)] = some (.vec o (V ((refS (U l)).map ofP))) := by
  obtain ⟨r, hr, o, H', rfl⟩ := open_out (E := env2) (f := 6) (fn := Tryz.f6) (c := .seq _ (.seq _ (.seq (.seq _ LB6) K6))) rfl rfl Tryz.func6 rfl (args := [.vec .ro (V l)]) (by rw [Tryz.ntmps6]; simp) (H := .empty)
    (Q := fun r => ∃ (o : Own) (H' : AHeap), r = (.vec o (V ((refS (U l)).map ofP)), H')) (by
      simp only [go_sem, envP, ↓reduceIte, Nat.reduceEqDiff, Nat.reduceAdd, Nat.reduceLT]
      refine block_ret (id := 0) ?_
      rw [xc_loop']
      refine okR_imp (loop_meas (I6 l) (P6 l) (fun d α H h => round6 hn d α H h) l.length _ _ ⟨⟨0, .nil, by omega, ?_, ?_, .inl ⟨?_, rfl⟩⟩, ?_⟩) ?_
      case refine_5 =>
        rintro e α' H' ⟨rfl, o, h3, _⟩
        refine .inl ⟨.inr rfl, ?_⟩
        have hK : K6 = .seq _ _ := rfl
        rw [hK]
        simp only [go_sem, envP, ↓reduceIte, Nat.reduceEqDiff, Nat.reduceAdd, Nat.reduceLT, Tryz.results6, h3]
        exact ⟨_, rfl, o, H', rfl⟩
      all_goals first
        | (simp only [go_sem, ↓reduceIte, Nat.reduceEqDiff]; done)
        | (simp only [go_sem, ↓reduceIte, Nat.reduceEqDiff, List.take_zero]; rfl)
        | rfl)
  have he : ([AV.vec (.own id) (V l)].map AV.erase) = [.vec .ro (V l)] := rfl
  have hp : AV.noPtr.go [AV.vec Own.ro (V l)] = true := by
    show ((true && AV.noPtr.go (V l)) && true) = true
    rw [V_np]
    rfl
  have hv : (AV.vec o.bare (V ((refS (U l)).map ofP))).noPtr = true := by
    cases o <;> (show (true && AV.noPtr.go (V ((refS (U l)).map ofP))) = true; rw [V_np]; rfl)
  refine ⟨o.bare, ?_⟩
  unfold closedCall
  rw [he, if_pos hp, hr]
  simp only [er_vec, hv, if_true]
end Go.Proofs.YtkpnccaoolbeeaaGreatDoor
