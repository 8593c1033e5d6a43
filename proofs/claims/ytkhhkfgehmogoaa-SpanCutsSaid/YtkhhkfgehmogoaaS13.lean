/- SpanBack on the machine. -/
import Derived.Test.YtkhhkfgehmogoaaS12
namespace Go.Proofs.Ytkhhkfgehmogoaa
set_option linter.unusedVariables false
set_option linter.unusedSimpArgs false
open Go Go.Ab

theorem stP_nl (s : List UInt8) : ∀ i, ∀ x ∈ stP s i, x = 0 ∨ s[(x - 1).toNat]? = some 10
  | 0 => by intro x hx; simp [stP] at hx; exact Or.inl hx
  | i + 1 => by
    have ih := stP_nl s i
    intro x hx
    simp only [stP] at hx
    split at hx
    · rename_i h
      rw [List.mem_append] at hx
      rcases hx with hx | hx
      · exact ih x hx
      · simp at hx
        right
        rw [hx, show ((i : Int) + 1 - 1).toNat = i by omega]
        exact h
    · exact ih x hx

theorem take_nl {s : List UInt8} {x : Nat} (h1 : 1 ≤ x) (h : s[x - 1]? = some 10) : s.take (x - 1) ++ [10] = s.take x := by
  obtain ⟨y, rfl⟩ : ∃ y, x = y + 1 := ⟨x - 1, by omega⟩
  simp only [Nat.add_sub_cancel] at h ⊢
  rw [List.take_add_one, h]
  rfl
theorem take_line (s : List UInt8) {x e : Nat} (h : x ≤ e) : s.take x ++ (s.take e).drop x = s.take e := by
  have := List.take_append_drop x (s.take e)
  rw [List.take_take, Nat.min_eq_left h] at this
  exact this

noncomputable def B5 : Code := match Try.f5.body with | some (.seq _ (.seq _ (.seq _ (.seq _ (.seq _ (.seq (.seq _ (.block _ (.loop c))) _)))))) => c | _ => .skip
noncomputable def LB5 : Code := .block 0 (.loop B5)
noncomputable def K5 : Code := match Try.f5.body with | some (.seq _ (.seq _ (.seq _ (.seq _ (.seq _ (.seq _ k)))))) => k | _ => .skip

structure I5 (s : List UInt8) (j : Nat) (α : Frm) (H : AHeap) : Prop where
  h : H = ⟨1, [(0, .cells [.str s, .vec .ro (ints (stP s s.length))])]⟩
  a0 : α 0 = .str s
  a5 : α 5 = .ptr 0 0
  a11 : α 11 = .str (s.take (nextOf s (stP s s.length) j - 1).toNat)
  a45 : α 45 = .int .i64 (stP s s.length).length
  a46 : α 46 = .int .i64 j

theorem strAdd (x y : List UInt8) (h : x.length + y.length ≤ 9223372036854775807) : strBin .add x y = some (.str (x ++ y)) := by simp [strBin, h]

theorem round5 (s : List UInt8) (hs : s.length < 2 ^ 39) (j : Nat) (α : Frm) (H : AHeap) (hj : j < (stP s s.length).length) (h : I5 s j α H) :
    okR (execC env (run env) loopO B5 α H) fun e α' H' => e = .normal ∧ I5 s (j + 1) α' H' := by
  obtain ⟨hh, a0, a5, a11, a45, a46⟩ := h
  subst hh
  have r := row_of s hs j hj
  have hlen := stP_len s s.length
  have hnl := stP_nl s s.length
  have hI := stP_inc s s.length
  generalize hL : stP s s.length = L at *
  obtain ⟨x, hx⟩ : ∃ x, nextOf s L j = x := ⟨_, rfl⟩
  obtain ⟨e, he⟩ : ∃ e, nextOf s L (j + 1) - 1 = e := ⟨_, rfl⟩
  have hxL : x = L[j] := by rw [← hx, nextOf_get hj]
  rw [hx, he] at r
  rw [hx] at a11
  have hr := r.h
  have hB : B5 = .seq _ (.seq _ (.seq _ _)) := rfl
  rw [hB]
  have hl1 := line_in r
  have e1 : decide ((j : Int) < (L.length : Int)) = true := decide_eq_true (by omega)
  have w1 : IntKind.i64.wrap ((j : Int) + 1) = (j : Int) + 1 := IntWalk.i64_in _ (by omega)
  have hc : ((j + 1 : Nat) : Int) = (j : Int) + 1 := by omega
  have hln : (List.drop x.toNat (List.take e.toNat s)).length ≤ s.length := by simp only [List.length_drop, List.length_take]; omega
  have hlx : (List.take x.toNat s).length ≤ s.length := by simp only [List.length_take]; omega
  have hlx1 : (List.take (x - 1).toNat s).length ≤ s.length := by simp only [List.length_take]; omega
  have tl := take_line s (x := x.toNat) (e := e.toNat) (by omega)
  by_cases hj0 : j = 0
  · subst hj0
    have hx0 : x = 0 := by
      have h0 : L[0]? = some L[0] := List.getElem?_eq_getElem hj
      have := hI.z
      rw [h0] at this
      rw [hxL]; exact Option.some.inj this
    subst hx0
    have d1 : decide (((0 : Nat) : Int) > 0) = false := by decide
    have s1 : strBin .add (List.take ((0 : Int) - 1).toNat s) (List.drop (0 : Int).toNat (List.take e.toNat s)) = some (.str (s.take e.toNat)) := by
      rw [strAdd _ _ (by omega)]
      rfl
    simp only [go_sem, envP, ↓reduceIte, Nat.reduceEqDiff, Nat.reduceAdd, Nat.reduceLT, a0, a5, a11, a45, a46, e1, d1, w1, hl1, s1, bne_self_eq_false, true_and]
    refine ⟨by rw [hL], ?_, ?_, ?_, ?_, ?_⟩ <;>
      simp only [go_sem, ↓reduceIte, Nat.reduceEqDiff, a0, a5, a11, a45, a46, hc, hL, he]
  · have d1 : decide ((j : Int) > 0) = true := decide_eq_true (by omega)
    have hxp : 1 ≤ x := by
      have h0 : L[0]? = some L[0] := List.getElem?_eq_getElem (by omega)
      have hz := hI.z
      rw [h0] at hz
      have hz' := Option.some.inj hz
      have := List.pairwise_iff_getElem.1 hI.up 0 j (by omega) hj (by omega)
      omega
    have hnx : s[x.toNat - 1]? = some 10 := by
      rcases hnl x (by rw [hxL]; exact List.getElem_mem hj) with h | h
      · omega
      · rwa [show (x - 1).toNat = x.toNat - 1 by omega] at h
    have s1 : strBin .add (List.take (x - 1).toNat s) [10] = some (.str (s.take x.toNat)) := by
      rw [strAdd _ _ (by simp only [List.length_cons, List.length_nil]; omega), show (x - 1).toNat = x.toNat - 1 by omega, take_nl (by omega) hnx]
    have s2 : strBin .add (s.take x.toNat) (List.drop x.toNat (List.take e.toNat s)) = some (.str (s.take e.toNat)) := by
      rw [strAdd _ _ (by omega), tl]
    simp only [go_sem, envP, ↓reduceIte, Nat.reduceEqDiff, Nat.reduceAdd, Nat.reduceLT, a0, a5, a11, a45, a46, e1, d1, w1, hl1, s1, s2, bne_self_eq_false, true_and]
    refine ⟨by rw [hL], ?_, ?_, ?_, ?_, ?_⟩ <;>
      simp only [go_sem, ↓reduceIte, Nat.reduceEqDiff, a0, a5, a11, a45, a46, hc, hL, he]

theorem end5 (s : List UInt8) (α : Frm) (H : AHeap) (h : I5 s (stP s s.length).length α H) :
    okR (execC env (run env) loopO B5 α H) fun e α' H' => e ≠ .normal ∧ (e = .normal ∨ e = .exit 0) ∧ I5 s (stP s s.length).length α' H' := by
  obtain ⟨hh, a0, a5, a11, a45, a46⟩ := h
  subst hh
  have hB : B5 = .seq _ (.seq _ (.seq _ _)) := rfl
  rw [hB]
  have e1 : decide (((stP s s.length).length : Int) < ((stP s s.length).length : Int)) = false := by simp
  simp only [go_sem, envP, ↓reduceIte, Nat.reduceEqDiff, a45, a46, e1]
  refine ⟨by simp, by simp, ⟨rfl, ?_, ?_, ?_, ?_, ?_⟩⟩ <;>
    simp only [go_sem, ↓reduceIte, Nat.reduceEqDiff, a0, a5, a11, a45, a46]

theorem loop5 (s : List UInt8) (hs : s.length < 2 ^ 39) (α : Frm) (H : AHeap) (h : I5 s 0 α H) : okR (execC env (run env) loopO LB5 α H) fun e α' H' => e = .normal ∧ I5 s (stP s s.length).length α' H' := by
  refine block_normal 0 _ _ _ _ ?_
  rw [xc_loop']
  refine okR_imp (loop_up (I5 s) (stP s s.length).length (fun e α' H' => (e = .normal ∨ e = .exit 0) ∧ I5 s (stP s s.length).length α' H') (fun i α H hi h => round5 s hs i α H hi h) (fun α H h => end5 s α H h) (stP s s.length).length 0 α H (by omega) h) ?_
  intro e α H h
  exact ⟨h.1, rfl, h.2⟩

theorem tail5 (s : List UInt8) (hs : s.length < 2 ^ 39) (α : Frm) (H : AHeap) (h : I5 s (stP s s.length).length α H) : okR (execC env (run env) loopO K5 α H) fun e α' H' => outOf (finish Try.prog Try.f5.results.toList (e, α', H')) = some (.bool true) := by
  obtain ⟨hh, a0, a5, a11, a45, a46⟩ := h
  subst hh
  rw [nextOf_end (Nat.le_refl _), show ((s.length : Int) + 1 - 1).toNat = s.length by omega, List.take_length] at a11
  have hK : K5 = .seq _ _ := rfl
  rw [hK]
  have s1 : strBin .eql s s = some (.bool true) := by simp [strBin]
  simp only [go_sem, envP, Try.results5, ↓reduceIte, Nat.reduceEqDiff, Nat.reduceAdd, Nat.reduceLT, a0, a11, s1]

theorem fst5 (s : List UInt8) (at_ : Int) : closedCall (run env) 5 [.str s, .int .i64 at_] = some (.bool true) := by
  refine closed_of (v := .bool true) (fn := Try.f5) (c := .seq _ (.seq _ (.seq _ (.seq _ (.seq _ (.seq (.seq _ LB5) K5)))))) rfl Try.func5 rfl (by rw [Try.ntmps5]; simp) (args' := [.str s, .int .i64 at_]) rfl rfl ?_ rfl rfl
  refine out_of ?_
  by_cases hs : (s.length : Int) > 3000
  · have d1 : decide ((s.length : Int) > 3000) = true := decide_eq_true hs
    simp only [go_sem, envP, Try.results5, ↓reduceIte, Nat.reduceEqDiff, Nat.reduceAdd, Nat.reduceLT, d1]
  · have d1 : decide ((s.length : Int) > 3000) = false := decide_eq_false hs
    have hs' : s.length < 2 ^ 39 := by omega
    have ho := of_c s hs'
    have hl := lines_st s
    have z6 : ((6 : Int) == 0) = false := by decide
    have n0 : nextOf s (stP s s.length) 0 = 0 := by simp [nextOf, (stP_inc s s.length).z]
    by_cases hat : 0 ≤ at_ ∧ at_ ≤ s.length
    · obtain ⟨k, hk, hk1, hk2, hp⟩ := place_c s hs' at_ hat
      have r := row_of s hs' k hk
      have ha := at_in r (c := at_ - nextOf s (stP s s.length) k) (by omega)
      rw [show nextOf s (stP s s.length) k + (at_ - nextOf s (stP s s.length) k) = at_ by omega] at ha
      simp only [go_sem, envP, ↓reduceIte, Nat.reduceEqDiff, Nat.reduceAdd, Nat.reduceLT, d1, ho, hl, hp, ha, beq_self_eq_true, bne_self_eq_false]
      refine okR_then (okR_imp (loop5 s hs' _ _ ⟨rfl, ?_, ?_, ?_, ?_, ?_⟩) fun e α H h => ⟨h.1, tail5 s hs' α H h.2⟩)
      all_goals simp [go_sem, n0]
    · have hp := place_out s (stP s s.length) at_ (by omega)
      simp only [go_sem, envP, ↓reduceIte, Nat.reduceEqDiff, Nat.reduceAdd, Nat.reduceLT, d1, ho, hl, hp, z6]
      refine okR_then (okR_imp (loop5 s hs' _ _ ⟨rfl, ?_, ?_, ?_, ?_, ?_⟩) fun e α H h => ⟨h.1, tail5 s hs' α H h.2⟩)
      all_goals simp [go_sem, n0]
end Go.Proofs.Ytkhhkfgehmogoaa
