/- The text out of a string: span.Of. -/
import Derived.Test.YtkhhkfgehmogoaaS7
import Derived.Test.YtkhhkfgehmogoaaAb20
namespace Go.Proofs.Ytkhhkfgehmogoaa
set_option linter.unusedVariables false
set_option linter.unusedSimpArgs false
open Go Go.Ab

theorem getL_setL (l : List (Nat × AObj)) (k id : Nat) (y : AObj) : getL (setL l k y) id = if k = id then (getL l id).map (fun _ => y) else getL l id := by
  induction l with
  | nil => simp [setL, getL]
  | cons p r ih =>
    obtain ⟨a, x⟩ := p
    by_cases h : a = k <;> by_cases h2 : k = id <;> by_cases h3 : a = id <;> simp_all [setL, getL]
theorem getL_cons (k : Nat) (x : AObj) (r : List (Nat × AObj)) (id : Nat) : getL ((k, x) :: r) id = if k = id then some x else getL r id := (rfl)
theorem cellsQ_ne {l : List (Nat × AObj)} {k id : Nat} {y : AObj} (h : k ≠ id) : cellsQ (setL l k y) id = cellsQ l id := by simp [cellsQ, getL_setL, h]
theorem cellsQ_eq {l : List (Nat × AObj)} {k : Nat} {cs ds : List AV} (h : cellsQ l k = some ds) : cellsQ (setL l k (.cells cs)) k = some cs := by
  unfold cellsQ at *
  cases hg : getL l k with
  | none => simp [hg] at h
  | some o => simp [getL_setL, hg]

def stP (s : List UInt8) : Nat → List Int
  | 0 => [0]
  | i + 1 => if s[i]? = some 10 then stP s i ++ [(i : Int) + 1] else stP s i
theorem stP_len (s : List UInt8) : ∀ i, (stP s i).length ≤ i + 1
  | 0 => by simp [stP]
  | i + 1 => by
    have := stP_len s i
    simp only [stP]
    split <;> simp <;> omega

theorem bs30 (a : Int) (n : Nat) (l : List (Nat × AObj)) : buildSliceA Try.prog 30 1 [(0, .int .i64 a)] ⟨n, l⟩ = some (.vec (.own n) [.int .i64 a], ⟨n + 1, (n, .tip 1 3) :: l⟩) := by
  simp [buildSliceA, elem30, sz3, zero3, inOrder, allWidth, allOneL, allOne, AV.erase, AV.bare, AV.width, AV.cells, AV.one, AHeap.push]
theorem appOp (P : Program) (t1 t2 : TypeId) (x y : AV) (H : AHeap) : appendOp P [t1, t2] [x, y] H = appendA P t1 t2 x y H := (rfl)
theorem stride30 (L : List Int) : strideQ Try.prog 30 (ints L) = true := by
  cases L <;> simp [strideQ, elem30, sz3, ints, AV.width]
theorem app30 (L : List Int) (a : Int) (o : Own) (m : Nat) (l : List (Nat × AObj)) (hm : 1 < m) (hg : getL l 1 = some (.tip L.length 3)) (hb : L.length < 2 ^ 40) :
    appendA Try.prog 30 30 (.vec (.own 1) (ints L)) (.vec o [.int .i64 a]) ⟨m, l⟩ = some (.vec (.own 1) (ints (L ++ [a])), ⟨m, setL l 1 (.tip (L.length + 1) 3)⟩) := by
  have h1 : strideQ Try.prog 30 [.int .i64 a] = true := by simp [strideQ, elem30, sz3, AV.width]
  have h2 : (L.length + 1) * 8 ≤ 140737488355328 := by omega
  have h3 : L.length + 1 ≤ 9223372036854775807 := by omega
  simp [appendA, elem30, sz3, by3, zero3, stride30, h1, ints_len, h2, h3, AHeap.get, hm, hg, AHeap.set]
  simp [ints]
theorem ix9 {s : List UInt8} {i : Nat} {b : UInt8} (h : s[i]? = some b) : indexA Try.prog 9 (.str s) (.int .i64 i) = some (.int .u8 b.toNat) := by
  simp [indexA, str9, h]
attribute [go_sem] bs30 appOp

noncomputable def B14 : Code := match Try.f14.body with | some (.seq _ (.seq _ (.seq (.seq _ (.block _ (.loop c))) _))) => c | _ => .skip
noncomputable def LB14 : Code := .block 0 (.loop B14)
noncomputable def K14 : Code := match Try.f14.body with | some (.seq _ (.seq _ (.seq _ k))) => k | _ => .skip

structure I14 (s : List UInt8) (i : Nat) (α : Frm) (H : AHeap) : Prop where
  m : 2 < H.next
  h0 : cellsQ H.objs 0 = some [.str [], .vec .nil []]
  h1 : getL H.objs 1 = some (.tip (stP s i).length 3)
  h2 : cellsQ H.objs 2 = some [.str s, .vec (.own 1) (ints (stP s i))]
  a0 : α 0 = .str s
  a2 : α 2 = .ptr 0 0
  a3 : α 3 = .ptr 2 0
  a9 : α 9 = .int .i64 s.length
  a10 : α 10 = .int .i64 i

theorem round14 (s : List UInt8) (hs : s.length < 2 ^ 39) (i : Nat) (α : Frm) (H : AHeap) (hi : i < s.length) (h : I14 s i α H) :
    okR (execC env (run env) loopO B14 α H) fun e α' H' => e = .normal ∧ I14 s (i + 1) α' H' := by
  obtain ⟨hm, h0, h1, h2, a0, a2, a3, a9, a10⟩ := h
  obtain ⟨m, l⟩ := H
  simp only at hm h0 h1 h2
  have hB : B14 = .seq _ (.seq _ (.seq _ _)) := rfl
  rw [hB]
  obtain ⟨b, hb⟩ : ∃ b, s[i]? = some b := ⟨s[i], List.getElem?_eq_getElem hi⟩
  have e1 : decide ((i : Int) < (s.length : Int)) = true := decide_eq_true (by omega)
  have w1 : IntKind.i64.wrap ((i : Int) + 1) = (i : Int) + 1 := IntWalk.i64_in _ (by omega)
  have hc : ((i + 1 : Nat) : Int) = (i : Int) + 1 := by omega
  have x1 := ix9 hb
  have m0 : (m = 0) = False := eq_false (by omega)
  have m1 : (m = 1) = False := eq_false (by omega)
  have m2 : (m = 2) = False := eq_false (by omega)
  have m3 : (2 < m) = True := eq_true hm
  have m4 : (2 < m + 1) = True := eq_true (by omega)
  by_cases hn : b = 10
  · subst hn
    have d1 : (((10 : UInt8).toNat : Int) == 10) = true := by decide
    have hl := stP_len s i
    have hap := app30 (stP s i) ((i : Int) + 1) (.own m) (m + 1) ((m, .tip 1 3) :: l) (by omega) (by rw [getL_cons, if_neg (by omega)]; exact h1) (by omega)
    have hst : stP s (i + 1) = stP s i ++ [(i : Int) + 1] := by simp only [stP]; rw [if_pos hb]
    simp only [go_sem, envP, ↓reduceIte, Nat.reduceEqDiff, Nat.reduceAdd, Nat.reduceLT, a0, a2, a3, a9, a10, e1, w1, x1, d1, hap, h2, m0, m1, m2, m3, m4, cellsQ_ne, ne_eq, not_false_eq_true, true_and]
    refine ⟨by simp; omega, ?_, ?_, ?_, ?_, ?_, ?_, ?_, ?_⟩
    · simp only
      simp [cellsQ_tip, m0, cellsQ_ne, h0]
    · simp only
      simp [getL_cons, m1, getL_setL, h1, hst]
    · simp only
      rw [hst]
      simp only [cellsQ_tip, m2, if_false]
      exact cellsQ_eq (ds := [.str s, .vec (.own 1) (ints (stP s i))]) (by rw [cellsQ_ne (by omega)]; exact h2)
    all_goals simp only [go_sem, ↓reduceIte, Nat.reduceEqDiff, a0, a2, a3, a9, a10, hc]
  · have d1 : ((b.toNat : Int) == 10) = false := by
      have : b.toNat ≠ 10 := fun h => hn (by rw [← UInt8.toNat_inj]; exact h)
      simp; omega
    have hst : stP s (i + 1) = stP s i := by simp only [stP]; rw [if_neg (by rw [hb]; simpa using hn)]
    simp only [go_sem, envP, ↓reduceIte, Nat.reduceEqDiff, Nat.reduceAdd, Nat.reduceLT, a0, a2, a3, a9, a10, e1, w1, x1, d1, true_and]
    refine ⟨hm, h0, by rw [hst]; exact h1, by rw [hst]; exact h2, ?_, ?_, ?_, ?_, ?_⟩
    all_goals simp only [go_sem, ↓reduceIte, Nat.reduceEqDiff, a0, a2, a3, a9, a10, hc]

theorem end14 (s : List UInt8) (α : Frm) (H : AHeap) (h : I14 s s.length α H) :
    okR (execC env (run env) loopO B14 α H) fun e α' H' => e ≠ .normal ∧ (e = .normal ∨ e = .exit 0) ∧ I14 s s.length α' H' := by
  obtain ⟨hm, h0, h1, h2, a0, a2, a3, a9, a10⟩ := h
  have hB : B14 = .seq _ (.seq _ (.seq _ _)) := rfl
  rw [hB]
  have e1 : decide ((s.length : Int) < (s.length : Int)) = false := by simp
  simp only [go_sem, envP, ↓reduceIte, Nat.reduceEqDiff, a9, a10, e1]
  refine ⟨by simp, by simp, ⟨hm, h0, h1, h2, ?_, ?_, ?_, ?_, ?_⟩⟩ <;>
    simp only [go_sem, ↓reduceIte, Nat.reduceEqDiff, a0, a2, a3, a9, a10]

theorem loop14 (s : List UInt8) (hs : s.length < 2 ^ 39) (α : Frm) (H : AHeap) (h : I14 s 0 α H) : okR (execC env (run env) loopO LB14 α H) fun e α' H' => e = .normal ∧ I14 s s.length α' H' := by
  refine block_normal 0 _ _ _ _ ?_
  rw [xc_loop']
  refine okR_imp (loop_up (I14 s) s.length (fun e α' H' => (e = .normal ∨ e = .exit 0) ∧ I14 s s.length α' H') (fun i α H hi h => round14 s hs i α H hi h) (fun α H h => end14 s α H h) s.length 0 α H (by omega) h) ?_
  intro e α H h
  exact ⟨h.1, rfl, h.2⟩

theorem tail14 (s : List UInt8) (α : Frm) (H : AHeap) (h : I14 s s.length α H) : okR (execC env (run env) loopO K14 α H) fun e α' H' => outOf (finish Try.prog Try.f14.results.toList (e, α', H')) = some (.agg [.str s, .vec (.own 1) (ints (stP s s.length))]) := by
  obtain ⟨hm, h0, h1, h2, a0, a2, a3, a9, a10⟩ := h
  obtain ⟨m, l⟩ := H
  simp only at hm h0 h1 h2
  have hK : K14 = .seq _ _ := rfl
  rw [hK]
  have m3 : (2 < m) = True := eq_true hm
  have m4 : (0 < m) = True := eq_true (by omega)
  have q := cellsQ_eq (cs := [.str s, .vec (.own 1) (ints (stP s s.length))]) h0
  simp only [go_sem, envP, Try.results14, ↓reduceIte, Nat.reduceEqDiff, Nat.reduceAdd, Nat.reduceLT, a2, a3, h2, h0, m3, m4, q]

theorem of_c (s : List UInt8) (hs : s.length < 2 ^ 39) : closedCall (run env) 14 [.str s] = some (.agg [.str s, .vec .ro (ints (stP s s.length))]) := by
  refine closed_of (v := .agg [.str s, .vec (.own 1) (ints (stP s s.length))]) (fn := Try.f14) (c := .seq _ (.seq _ (.seq (.seq _ LB14) K14))) rfl Try.func14 rfl (by rw [Try.ntmps14]; simp) (args' := [.str s]) rfl rfl ?_ rfl (by simp [AV.noPtr, AV.noPtr.go, ints_np])
  refine out_of ?_
  simp only [go_sem, envP, ↓reduceIte, Nat.reduceEqDiff, Nat.reduceAdd, Nat.reduceLT]
  refine okR_then (okR_imp (loop14 s hs _ _ ⟨by simp, ?_, ?_, ?_, ?_, ?_, ?_, ?_, ?_⟩) fun e α H h => ⟨h.1, tail14 s α H h.2⟩)
  all_goals simp [go_sem, stP, getL_cons, ints]
end Go.Proofs.Ytkhhkfgehmogoaa
