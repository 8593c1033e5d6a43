/- ImportsSort: the document's Sorted on the machine. -/
import Derived.Test.YtkpnccaoolbeeaaGreatDoorQ4
namespace Go.Proofs.YtkpnccaoolbeeaaGreatDoor
set_option linter.unusedVariables false
set_option linter.unusedSimpArgs false
open Go Go.Ab

theorem V_take (l : List Im) (n : Nat) : (V l).take n = V (l.take n) := by simp [V, List.map_take]
theorem V_drop (l : List Im) (n : Nat) : (V l).drop n = V (l.drop n) := by simp [V, List.map_drop]
theorem V_app (l m : List Im) : V l ++ V m = V (l ++ m) := by simp [V]
theorem stride24 : ∀ l : List Im, strideQ Tryz.prog 24 (V l) = true
  | [] => by simp [strideQ, elem24, sz27, V]
  | x :: l => by simp [strideQ, elem24, sz27, V, AV.width, encI]
theorem sl24a {o : Own} {l : List Im} {a : Nat} (h : a ≤ l.length) : sliceA Tryz.prog 24 none (some (.int .i64 (a : Int))) (.vec o (V l)) = some (.vec (cutOwn o (some (.int .i64 (a : Int)))) (V (l.take a))) := by
  have h' : (a : Int) ≤ (l.length : Int) := by omega
  simp [sliceA, stride24, sliceLH, sliceBnd, V_len, h', V_take]
theorem sl24b {o : Own} {l : List Im} {a : Nat} (h : a ≤ l.length) : sliceA Tryz.prog 24 (some (.int .i64 (a : Int))) none (.vec o (V l)) = some (.vec (cutOwn o none) (V (l.drop a))) := by
  have h' : (a : Int) ≤ (l.length : Int) := by omega
  have h2 : (V l).take l.length = V l := by rw [List.take_of_length_le (by rw [V_len]; exact Nat.le_refl _)]
  simp [sliceA, stride24, sliceLH, sliceBnd, V_len, h', h2, V_drop]

def OwnI (o : Own) (k : Nat) (H : AHeap) : Prop := (k = 0 ∧ o = .nil) ∨ (1 ≤ k ∧ ∃ id, o = .own id ∧ id < H.next ∧ getL H.objs id = some (.tip k 27))

theorem app24 {o : Own} {es : List Im} {H : AHeap} (fs : List Im) (o2 : Own) (h : OwnI o es.length H) (hb : es.length + fs.length ≤ 1000) :
    ∃ o' H', appendOp env2.mutT Tryz.prog [24, 24] [.vec o (V es), .vec o2 (V fs)] H = some (.vec o' (V (es ++ fs)), H') ∧ OwnI o' (es ++ fs).length H' := by
  obtain ⟨m, L⟩ := H
  have h2 : (es.length + fs.length) * 40 ≤ 140737488355328 := by omega
  have h3 : es.length + fs.length ≤ 9223372036854775807 := by omega
  have hm : env2.mutT 24 = false := rfl
  rcases h with ⟨h4, rfl⟩ | ⟨h4, id, rfl, h5, h6⟩
  · have hR : es = [] := List.length_eq_zero_iff.1 h4
    subst hR
    by_cases h0 : fs = []
    · subst h0
      refine ⟨.nil, ⟨m, L⟩, ?_, .inl ⟨rfl, rfl⟩⟩
      have hst := stride24 []
      simp only [V, List.map_nil] at hst
      simp [appendOp, appendA, elem24, sz27, by27, zero27, persist, hm, appendVec, V, hst]
    · have hf0 : fs.length ≠ 0 := by simpa using h0
      refine ⟨.own m, ⟨m + 1, (m, .tip fs.length 27) :: L⟩, ?_, .inr ⟨by simp only [List.nil_append]; omega, m, rfl, by simp, by simp [getL]⟩⟩
      have hst := stride24 []
      have hst2 := stride24 fs
      have hvn : V [] = [] := rfl
      rw [hvn] at hst ⊢
      simp only [List.length_nil, Nat.zero_add] at h2 h3
      simp [appendOp, appendA, elem24, sz27, by27, zero27, persist, hm, appendVec, hst, hst2, V_len, h0, h2, h3, AHeap.push]
  · simp only at h5 h6
    refine ⟨.own id, ⟨m, setL L id (.tip (es.length + fs.length) 27)⟩, ?_, .inr ⟨by simp only [List.length_append]; omega, id, rfl, h5, ?_⟩⟩
    · simp [appendOp, appendA, elem24, sz27, by27, zero27, persist, hm, appendVec, stride24, V_len, h2, h3, AHeap.get, h5, h6, AHeap.set, V_app]
    · simp only [getL_setL, if_true, h6, Option.map_some, List.length_append]

theorem bs24 (x : Im) (H : AHeap) : buildSliceA Tryz.prog 24 1 [(0, .agg (encI x))] H = some (.vec .full (V [x]), H) := by
  simp [buildSliceA, elem24, sz27, zero27, inOrder, allWidth, allOneL, allOne, AV.erase, AV.bare, AV.width, AV.cells, AV.one, V, encI]

theorem bl_gtr (a b : List UInt8) : (!(bl a b || a == b)) = bl b a := by
  cases h : bl b a with
  | true =>
    have h1 := bl_asymm h
    have h2 : (a == b) = false := by
      cases e : a == b with
      | false => rfl
      | true => rw [eq_of_beq e, bl_irrefl] at h; cases h
    rw [h1, h2]; rfl
  | false =>
    cases h1 : bl a b with
    | true => rfl
    | false =>
      have := bl_tri h1 h
      subst this
      simp
theorem str_gtr (a b : List UInt8) : strBin .gtr a b = some (.bool (bl b a)) := by
  rw [← bl_gtr]; rfl
theorem str_eql (a b : List UInt8) : strBin .eql a b = some (.bool (a == b)) := rfl
attribute [go_sem] str_gtr str_eql bs24

noncomputable def B6 : Code := match Tryz.f6.body with | some (.seq _ (.seq _ (.seq (.seq _ (.block _ (.loop c))) _))) => c | _ => .skip
noncomputable def LB6 : Code := .block 0 (.loop B6)
noncomputable def K6 : Code := match Tryz.f6.body with | some (.seq _ (.seq _ (.seq _ k))) => k | _ => .skip
noncomputable def C6 : Code := match B6 with | .seq _ (.seq (.block _ (.seq _ (.seq _ (.seq (.block _ (.loop c)) _)))) _) => c | _ => .skip
noncomputable def LC6 : Code := .block 2 (.loop C6)
noncomputable def D6 : Code := match B6 with | .seq _ (.seq (.block _ (.seq _ (.seq _ (.seq _ k)))) _) => k | _ => .skip
noncomputable def R6 : Code := match B6 with | .seq _ (.seq _ k) => k | _ => .skip

structure J6 (l : List Im) (i : Nat) (out : List Pr) (x : Pr) (o : Own) (H0 : AHeap) (d : Nat) (α : Frm) (H : AHeap) : Prop where
  le : d ≤ out.length
  po : pos out x out.length = pos out x d
  a5 : α 5 = .int .i64 d
  a0 : α 0 = .vec .ro (V l)
  a3 : α 3 = .vec o (V (out.map ofP))
  a4 : α 4 = .int .i64 i
  h : H = H0

def JP (l : List Im) (i : Nat) (out : List Pr) (x : Pr) (o : Own) (H0 : AHeap) (e : Ex) (α : Frm) (H : AHeap) : Prop :=
  e = .exit 2 ∧ α 5 = .int .i64 (pos out x out.length : Nat) ∧ α 0 = .vec .ro (V l) ∧ α 3 = .vec o (V (out.map ofP)) ∧ α 4 = .int .i64 i ∧ H = H0

set_option maxRecDepth 100000 in
set_option maxHeartbeats 4000000 in
theorem inner6 {l : List Im} {i : Nat} {out : List Pr} {x : Pr} {o : Own} {H0 : AHeap} (hx : l[i]? = some (ofP x)) (ho : out.length ≤ 100) (d : Nat) (α : Frm) (H : AHeap) (h : J6 l i out x o H0 d α H) :
    okR (execC env2 (run env2) loopO C6 α H) fun e α' H' => (e = .normal ∧ ∃ d', d' < d ∧ J6 l i out x o H0 d' α' H') ∨ (e ≠ .normal ∧ JP l i out x o H0 e α' H') := by
  obtain ⟨hle, hpo, a5, a0, a3, a4, rfl⟩ := h
  have hC : C6 = .seq (.seq _ _) _ := rfl
  rw [hC]
  have xi := ix24 .ro hx
  cases d with
  | zero =>
    have e1 : decide (((0 : Nat) : Int) > 0) = false := by simp
    simp only [go_sem, envP, ↓reduceIte, Nat.reduceEqDiff, Nat.reduceAdd, Nat.reduceLT, a0, a3, a4, a5, e1]
    refine .inr ⟨by simp, rfl, ?_, ?_, ?_, ?_, rfl⟩
    all_goals simp only [go_sem, ↓reduceIte, Nat.reduceEqDiff, a0, a3, a4, a5, hpo, pos]
  | succ n =>
    have e1 : decide (((n + 1 : Nat) : Int) > 0) = true := decide_eq_true (by omega)
    have w1 : IntKind.i64.wrap (((n + 1 : Nat) : Int) - 1) = (n : Int) := by rw [IntWalk.i64_in _ (by omega)]; omega
    have hy : out[n]? = some out[n] := List.getElem?_eq_getElem (by omega)
    generalize out[n] = y at hy
    have hyo : (out.map ofP)[n]? = some (ofP y) := by simp [hy]
    have xo := ix24 o hyo
    have hpos : pos out x (n + 1) = if ltP x y = true then pos out x n else n + 1 := by simp only [pos, hy]
    have f1 : (encI (ofP y))[0]? = some (.str y.1) := rfl
    have f2 : (encI (ofP x))[0]? = some (.str x.1) := rfl
    have f3 : (ofP y).2.1 = y.2 := rfl
    have f4 : (ofP x).2.1 = x.2 := rfl
    have f5 : (ofP y).1 = y.1 := rfl
    have f6 : (ofP x).1 = x.1 := rfl
    cases q1 : bl x.1 y.1 with
    | true =>
      have hlt : ltP x y = true := by simp [ltP, q1]
      simp only [go_sem, envP, ↓reduceIte, Nat.reduceEqDiff, Nat.reduceAdd, Nat.reduceLT, a0, a3, a4, a5, e1, w1, xi, xo, f1, f2, f3, f4, f5, f6, q1]
      refine .inl ⟨trivial, n, by omega, ⟨by omega, ?_, ?_, ?_, ?_, ?_, rfl⟩⟩
      · rw [hpo, hpos, if_pos hlt]
      all_goals simp only [go_sem, ↓reduceIte, Nat.reduceEqDiff, a0, a3, a4, a5, w1]
    | false =>
      cases q2 : y.1 == x.1 with
      | false =>
        have hlt : ltP x y = false := by
          have : (x.1 == y.1) = false := by rw [beq_eq_false_iff_ne] at *; exact fun e => q2 e.symm
          simp [ltP, q1, this]
        simp only [go_sem, envP, ↓reduceIte, Nat.reduceEqDiff, Nat.reduceAdd, Nat.reduceLT, a0, a3, a4, a5, e1, w1, xi, xo, f1, f2, f3, f4, f5, f6, q1, q2]
        refine .inr ⟨by simp, rfl, ?_, ?_, ?_, ?_, rfl⟩
        · rw [hpo, hpos, hlt]
          simp only [go_sem, ↓reduceIte, Nat.reduceEqDiff, a5, Bool.false_eq_true]
        all_goals simp only [go_sem, ↓reduceIte, Nat.reduceEqDiff, a0, a3, a4, a5]
      | true =>
        have he : (x.1 == y.1) = true := by rw [beq_iff_eq] at *; exact q2.symm
        cases q3 : bl x.2 y.2 with
        | true =>
          have hlt : ltP x y = true := by simp [ltP, he, q3]
          simp only [go_sem, envP, ↓reduceIte, Nat.reduceEqDiff, Nat.reduceAdd, Nat.reduceLT, a0, a3, a4, a5, e1, w1, xi, xo, f1, f2, f3, f4, f5, f6, q1, q2, q3]
          refine .inl ⟨trivial, n, by omega, ⟨by omega, ?_, ?_, ?_, ?_, ?_, rfl⟩⟩
          · rw [hpo, hpos, if_pos hlt]
          all_goals simp only [go_sem, ↓reduceIte, Nat.reduceEqDiff, a0, a3, a4, a5, w1]
        | false =>
          have hlt : ltP x y = false := by simp [ltP, q1, q3]
          simp only [go_sem, envP, ↓reduceIte, Nat.reduceEqDiff, Nat.reduceAdd, Nat.reduceLT, a0, a3, a4, a5, e1, w1, xi, xo, f1, f2, f3, f4, f5, f6, q1, q2, q3]
          refine .inr ⟨by simp, rfl, ?_, ?_, ?_, ?_, rfl⟩
          · rw [hpo, hpos, hlt]
            simp only [go_sem, ↓reduceIte, Nat.reduceEqDiff, a5, Bool.false_eq_true]
          all_goals simp only [go_sem, ↓reduceIte, Nat.reduceEqDiff, a0, a3, a4, a5]
end Go.Proofs.YtkpnccaoolbeeaaGreatDoor
