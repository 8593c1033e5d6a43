/- ImportsSort: DeleteFunc on the machine. -/
import Derived.Test.YtkpnccaoolbeeaaGreatDoorQ2
namespace Go.Proofs.YtkpnccaoolbeeaaGreatDoor
set_option linter.unusedVariables false
set_option linter.unusedSimpArgs false
open Go Go.Ab

theorem al26 (m : Nat) (L : List (Nat × AObj)) : allocA Tryz.prog 26 ⟨m, L⟩ = some (.ptr m 0, ⟨m + 1, (m, .cells (some 26) [.str [], .str [], .bool false]) :: L⟩) := by simp [allocA, zero26, AHeap.push]
theorem st26n (m : Nat) (L : List (Nat × AObj)) (x : Im) : storeA Tryz.prog 26 (.ptr m 0) (.agg (encI x)) ⟨m + 1, (m, .cells (some 26) [.str [], .str [], .bool false]) :: L⟩ = some (undefA, ⟨m + 1, (m, .cells (some 26) (encI x)) :: L⟩) := by
  rw [store_ptr]
  simp [cellsQ_cons, bnd, sz26, AV.width, AV.cells, encI, allOne, AV.one, getL_cons, reObj, setL_cons, overlay]
theorem getL_setL (l : List (Nat × AObj)) (k id : Nat) (y : AObj) : getL (setL l k y) id = if k = id then (getL l id).map (fun _ => y) else getL l id := by
  induction l with
  | nil => simp [setL, getL]
  | cons p r ih =>
    obtain ⟨a, x⟩ := p
    by_cases h : a = k <;> by_cases h2 : k = id <;> by_cases h3 : a = id <;> simp_all [setL, getL]
theorem st26k {m k n : Nat} {L : List (Nat × AObj)} {cur : List Im} (c : AObj) (hk : k < m) (hg : getL L k = some (.row n 26 3 (flat cur))) {i : Nat} (hi : i < cur.length) (x : Im) :
    storeA Tryz.prog 26 (.ptr k (i * 3)) (.agg (encI x)) ⟨m + 1, (m, c) :: L⟩ = some (undefA, ⟨m + 1, (m, c) :: setL L k (.row n 26 3 (flat (cur.set i x)))⟩) := by
  have h1 : getL ((m, c) :: L) k = some (.row n 26 3 (flat cur)) := by rw [getL_cons, if_neg (by omega)]; exact hg
  have h2 : cellsQ ((m, c) :: L) k = some (flat cur) := by simp [cellsQ, h1]
  have h3 : i * 3 + 3 ≤ (flat cur).length := by rw [flat_len]; omega
  have h4 : m ≠ k := by omega
  rw [store_ptr, if_pos (by omega), h2]
  simp only [bnd, h1, reObj, sz26, AV.cells, flat_set x hi]
  have h5 : (encI x).length = 3 := rfl
  have h6 : allOne (encI x) = true := rfl
  simp [AV.width, h5, h6, h3, setL_cons, h4]
attribute [go_sem] al26 st26n

def used (l : List Im) : List Im := l.filter (·.2.2)
theorem used_take {l : List Im} {j : Nat} {x : Im} (h : l[j]? = some x) : used (l.take (j + 1)) = used (l.take j) ++ (if x.2.2 = true then [x] else []) := by
  obtain ⟨hj, rfl⟩ := List.getElem?_eq_some_iff.1 h
  rw [List.take_add_one, h]
  simp only [used, List.filter_append, Option.toList_some, List.filter_cons, List.filter_nil]
theorem used_all {l : List Im} (h : ∀ x ∈ l, x.2.2 = true) : used l = l := List.filter_eq_self.2 h

noncomputable def B9 : Code := match Tryz.f9.body with | some (.seq _ (.seq _ (.seq _ (.seq (.seq _ (.block _ (.loop c))) _)))) => c | _ => .skip
noncomputable def LB9 : Code := .block 0 (.loop B9)
noncomputable def K9 : Code := match Tryz.f9.body with | some (.seq _ (.seq _ (.seq _ (.seq _ k)))) => k | _ => .skip

structure I9 (l : List Im) (k : Nat) (d : Nat) (α : Frm) (H : AHeap) : Prop where
  ex : ∃ (i j m : Nat) (cur : List Im) (L : List (Nat × AObj)), H = ⟨m, L⟩ ∧ j + d = l.length ∧ i < j ∧ cur.length = l.length ∧ k < m ∧ getL L k = some (.row l.length 26 3 (flat cur)) ∧
    cur.take i = used (l.take j) ∧ (∀ t, j ≤ t → cur[t]? = l[t]?) ∧ α 5 = .int .i64 i ∧ α 6 = .int .i64 j
  a0 : α 0 = .sl k 3 0 l.length
  a1 : α 1 = .fn (.func 11) [] []

def Post9 (l : List Im) (k : Nat) (e : Ex) (α : Frm) (H : AHeap) : Prop :=
  e = .exit 0 ∧ ∃ (i m : Nat) (cur : List Im) (L : List (Nat × AObj)), H = ⟨m, L⟩ ∧ i < l.length ∧ cur.length = l.length ∧ k < m ∧ getL L k = some (.row l.length 26 3 (flat cur)) ∧ cur.take i = used l ∧ α 5 = .int .i64 i ∧ α 0 = .sl k 3 0 l.length

theorem round9 {l : List Im} {k : Nat} (hn : l.length ≤ 100) (d : Nat) (α : Frm) (H : AHeap) (h : I9 l k d α H) :
    okR (execC env2 (run env2) loopO B9 α H) fun e α' H' => (e = .normal ∧ ∃ d', d' < d ∧ I9 l k d' α' H') ∨ (e ≠ .normal ∧ Post9 l k e α' H') := by
  obtain ⟨⟨i, j, m, cur, L, rfl, hj, hij, hcl, hk, hg, htk, htl, a5, a6⟩, a0, a1⟩ := h
  have hB : B9 = .seq (.seq _ _) _ := rfl
  rw [hB]
  by_cases c : j < l.length
  · have e1 : decide ((j : Int) < (l.length : Int)) = true := decide_eq_true (by omega)
    have w1 : IntKind.i64.wrap ((i : Int) + 1) = ((i + 1 : Nat) : Int) := by rw [IntWalk.i64_in _ (by omega)]; omega
    have w2 : IntKind.i64.wrap ((j : Int) + 1) = ((j + 1 : Nat) : Int) := by rw [IntWalk.i64_in _ (by omega)]; omega
    have hx : l[j]? = some l[j] := List.getElem?_eq_getElem c
    have hxc : cur[j]? = some l[j] := by rw [htl j (Nat.le_refl _)]; exact hx
    generalize l[j] = x at hx hxc
    have x1 := ixS k l.length c
    have x1i := ixS k l.length (i := i) (by omega)
    have x2 := ldF hxc
    have x3 := unused_c x
    have hc0 : cellsQ L k = some (flat cur) := by simp [cellsQ, hg]
    have hkm : (k < m) = True := eq_true hk
    have hmm : (m < m + 1) = True := eq_true (by omega)
    have hut := used_take hx
    cases hu : x.2.2 with
    | false =>
      rw [hu] at x3
      simp only [go_sem, envP, ↓reduceIte, Nat.reduceEqDiff, Nat.reduceAdd, Nat.reduceLT, a0, a1, a5, a6, e1, w2, x1, x2, x3, hkm, hmm, hc0, Bool.not_false, Bool.not_true]
      refine .inl ⟨trivial, d - 1, by omega, ⟨i, j + 1, m + 1, cur, _, rfl, by omega, by omega, hcl, by omega, ?_, ?_, fun t ht => htl t (by omega), ?_, ?_⟩, ?_, ?_⟩
      · rw [getL_cons, if_neg (by omega)]; exact hg
      · rw [hut, hu]; simpa using htk
      all_goals simp only [go_sem, ↓reduceIte, Nat.reduceEqDiff, a0, a1, a5, a6]
    | true =>
      rw [hu] at x3
      have hil : i < cur.length := by omega
      have hst := st26k (.cells (some 26) (encI x)) hk hg hil x
      simp only [go_sem, envP, ↓reduceIte, Nat.reduceEqDiff, Nat.reduceAdd, Nat.reduceLT, a0, a1, a5, a6, e1, w1, w2, x1, x1i, x2, x3, hkm, hmm, hc0, hst, Bool.not_false, Bool.not_true]
      refine .inl ⟨trivial, d - 1, by omega, ⟨i + 1, j + 1, m + 1, cur.set i x, _, rfl, by omega, by omega, by simpa using hcl, by omega, ?_, ?_, fun t ht => ?_, ?_, ?_⟩, ?_, ?_⟩
      · rw [getL_cons, if_neg (by omega), getL_setL, if_pos rfl, hg]; rfl
      · rw [hut, hu, if_pos rfl, ← htk, List.take_add_one, List.take_set_of_le (Nat.le_refl _), List.getElem?_set_self hil]
        rfl
      · rw [List.getElem?_set_ne (by omega)]
        exact htl t (by omega)
      all_goals simp only [go_sem, ↓reduceIte, Nat.reduceEqDiff, a0, a1, a5, a6]
  · have e1 : decide ((j : Int) < (l.length : Int)) = false := decide_eq_false (by omega)
    simp only [go_sem, envP, ↓reduceIte, Nat.reduceEqDiff, Nat.reduceAdd, Nat.reduceLT, a0, a1, a5, a6, e1]
    have : j = l.length := by omega
    subst this
    refine .inr ⟨by simp, rfl, i, m, cur, L, rfl, hij, hcl, hk, hg, ?_, a5, a0⟩
    rw [htk, List.take_length]

def zeroI : Im := ([], [], false)
theorem clear_c {m k n i : Nat} {L : List (Nat × AObj)} {cur : List Im} (hcl : cur.length = n) (hk : k < m) (hg : getL L k = some (.row n 26 3 (flat cur))) (hi : i < n) :
    clearOp Tryz.prog #[22] [.sl k 3 i (n - i)] ⟨m, L⟩ = some (undefA, ⟨m, setL L k (.row n 26 3 (flat (cur.take i) ++ (List.replicate (n - i) [AV.str [], .str [], .bool false]).flatten))⟩) := by
  have h1 : i + (n - i) ≤ n := by omega
  have h2 : n - i ≠ 0 := by omega
  have h3 : flat cur = flat (cur.take i) ++ flat (cur.drop i) := by rw [← flat_append, List.take_append_drop]
  have h4 : (flat (cur.take i)).length = i * 3 := by rw [flat_len, List.length_take]; congr 1; omega
  have h5 : (List.replicate (n - i) [AV.str [], .str [], .bool false]).flatten.length = (n - i) * 3 := by simp
  have h6 : overlay (flat cur) (i * 3) (List.replicate (n - i) [AV.str [], .str [], .bool false]).flatten = flat (cur.take i) ++ (List.replicate (n - i) [AV.str [], .str [], .bool false]).flatten := by
    unfold overlay
    rw [h5, List.drop_of_length_le (by rw [flat_len]; omega), List.append_nil, h3, ← h4, List.take_left]
  have h7 : allOne [AV.str [], .str [], .bool false] = true := rfl
  simp only [clearOp, List.getElem?_toArray, List.getElem?_cons_zero, elem22, zero26, AHeap.get, hk, if_true, hg, AHeap.set]
  simp only [h1, h2, h6, h7, List.length_cons, List.length_nil, ne_eq, not_false_eq_true, and_self, if_true]
theorem so_clear {E : Env} {call : CallO} {ρ : Operand → AV} {H : AHeap} (l : List Operand) (tys : Array TypeId) : stepOp E call (.call ⟨.builtin .clear, l.toArray, tys⟩) ρ H = clearOp E.P tys (l.map ρ) H := by simp [stepOp, stepCall]
attribute [go_sem ↓] so_clear
theorem slice22 (k n i : Nat) (hi : i < n) : sliceA Tryz.prog 22 (some (.int .i64 (i : Int))) none (.sl k 3 0 n) = some (.sl k 3 i (n - i)) := by
  have h : (i : Int) ≤ (n : Int) := by omega
  by_cases h0 : i = 0
  · subst h0; simp [sliceA, elem22, sz26, sliceLH, sliceBnd]
  · simp [sliceA, elem22, sz26, sliceLH, sliceBnd, h, h0, hi]
theorem slice22e (k n i : Nat) (hi : i < n) : sliceA Tryz.prog 22 none (some (.int .i64 (i : Int))) (.sl k 3 0 n) = some (.sl k 3 0 i) := by
  have h : (i : Int) ≤ (n : Int) := by omega
  simp [sliceA, elem22, sz26, sliceLH, sliceBnd, h]

/-- What DeleteFunc leaves: the used ones ahead in the row. -/
def Left9 (l : List Im) (k : Nat) (r : AV × AHeap) : Prop :=
  ∃ (n m : Nat) (cs : List AV) (L : List (Nat × AObj)), r = (.sl k 3 0 n, ⟨m, L⟩) ∧ k < m ∧ n = (used l).length ∧ getL L k = some (.row l.length 26 3 cs) ∧ n ≤ l.length ∧ cs.take (n * 3) = flat (used l)

theorem delete_c {l : List Im} {k m : Nat} {L : List (Nat × AObj)} (hk : k < m) (hg : getL L k = some (.row l.length 26 3 (flat l))) (hn : l.length ≤ 100) :
    ∃ r, run env2 9 [.sl k 3 0 l.length, .fn (.func 11) [] []] ⟨m, L⟩ = some r ∧ Left9 l k r := by
  have hc0 : cellsQ L k = some (flat l) := by simp [cellsQ, hg]
  obtain ⟨z, hz, hcase⟩ := index_c hk hc0 hn
  refine open_out (E := env2) (f := 9) (fn := Tryz.f9) (c := .seq _ (.seq _ (.seq (.seq _ _) (.seq (.seq _ LB9) K9)))) rfl rfl Tryz.func9 rfl (by rw [Tryz.ntmps9]; simp) ?_
  rcases hcase with ⟨rfl, hall⟩ | ⟨i, rfl, hi, hbef, hat⟩
  · have d1 : ((-1 : Int) == -1) = true := by decide
    simp only [go_sem, envP, ↓reduceIte, Nat.reduceEqDiff, Nat.reduceAdd, Nat.reduceLT, hz, d1, Tryz.results9]
    have hu := used_all hall
    exact ⟨_, rfl, l.length, m, flat l, L, rfl, hk, by rw [hu], hg, Nat.le_refl _, by rw [hu, List.take_of_length_le (by rw [flat_len]; exact Nat.le_refl _)]⟩
  · have d1 : ((i : Int) == -1) = false := by rw [beq_eq_false_iff_ne]; omega
    have w1 : IntKind.i64.wrap ((i : Int) + 1) = ((i + 1 : Nat) : Int) := by rw [IntWalk.i64_in _ (by omega)]; omega
    have hxi : l[i]? = some l[i] := List.getElem?_eq_getElem hi
    have h0 : used (l.take (i + 1)) = l.take i := by
      rw [used_take hxi, hat _ hxi]
      simp only [Bool.false_eq_true, if_false, List.append_nil]
      refine used_all fun x hx => ?_
      obtain ⟨j, hj⟩ := List.getElem?_of_mem hx
      have hji : j < i := by have := (List.getElem?_eq_some_iff.1 hj).1; rw [List.length_take] at this; omega
      rw [List.getElem?_take_of_lt hji] at hj
      exact hbef j x hji hj
    simp only [go_sem, envP, ↓reduceIte, Nat.reduceEqDiff, Nat.reduceAdd, Nat.reduceLT, hz, d1, w1]
    refine block_ret (id := 0) ?_
    rw [xc_loop']
    refine okR_imp (loop_meas (I9 l k) (Post9 l k) (fun d α H h => round9 hn d α H h) (l.length - (i + 1)) _ _ ⟨⟨i, i + 1, m, l, L, rfl, by omega, by omega, rfl, hk, hg, h0.symm, fun _ _ => rfl, ?_, ?_⟩, ?_, ?_⟩) ?_
    case refine_5 =>
      rintro e α' H' ⟨rfl, i', m', cur, L', rfl, hi', hcl, hk', hg', htk, a5, a0⟩
      refine .inl ⟨.inr rfl, ?_⟩
      have hK : K9 = .seq _ _ := rfl
      rw [hK]
      have s1 := slice22 k l.length i' hi'
      have s2 := slice22e k l.length i' hi'
      have s3 := clear_c hcl hk' hg' hi'
      simp only [go_sem, envP, ↓reduceIte, Nat.reduceEqDiff, Nat.reduceAdd, Nat.reduceLT, a0, a5, s1, s2, s3, Tryz.results9]
      have hlen : i' = (used l).length := by rw [← htk, List.length_take]; omega
      have h4 : (flat (cur.take i')).length = i' * 3 := by rw [flat_len, List.length_take, Nat.min_eq_left (by omega)]
      exact ⟨_, rfl, i', m', flat (cur.take i') ++ (List.replicate (l.length - i') [AV.str [], .str [], .bool false]).flatten, _, rfl, hk', hlen, (getL_setL _ _ _ _).trans (by rw [if_pos rfl, hg', Option.map_some]), by omega, by rw [← h4, List.take_left, htk]⟩
    all_goals simp only [go_sem, ↓reduceIte, Nat.reduceEqDiff]
end Go.Proofs.YtkpnccaoolbeeaaGreatDoor
