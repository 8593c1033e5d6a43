/- The reference's Split. -/
import Derived.Test.YtkhhkfgehmogoaaS15
namespace Go.Proofs.Ytkhhkfgehmogoaa
set_option linter.unusedVariables false
set_option linter.unusedSimpArgs false
open Go Go.Ab

def strs (R : List (List UInt8)) : List AV := R.map .str
theorem strs_len (R : List (List UInt8)) : (strs R).length = R.length := by simp [strs]
theorem strs_np (R : List (List UInt8)) : AV.noPtr.go (strs R) = true := by
  unfold strs
  induction R with
  | nil => rfl
  | cons x r ih => simpa [AV.noPtr.go, AV.noPtr] using ih
theorem elem48 : elemQ Try.prog 48 = some 9 := by kernel_rfl
theorem by9 : byQ Try.prog 9 = some 16 := by kernel_rfl
theorem zero9 : zeroQ Try.prog 9 = some [.str []] := by kernel_rfl
theorem bs48 (a : List UInt8) (n : Nat) (l : List (Nat × AObj)) : buildSliceA Try.prog 48 1 [(0, .str a)] ⟨n, l⟩ = some (.vec (.own n) [.str a], ⟨n + 1, (n, .tip 1 9) :: l⟩) := by
  simp [buildSliceA, elem48, sz9, zero9, inOrder, allWidth, allOneL, allOne, AV.erase, AV.bare, AV.width, AV.cells, AV.one, AHeap.push]
theorem stride48 (R : List (List UInt8)) : strideQ Try.prog 48 (strs R) = true := by
  cases R <;> simp [strideQ, elem48, sz9, strs, AV.width]
theorem len48 (o : Own) (es : List AV) : lenA Try.prog #[48] [.vec o es] = some (.int .i64 es.length) := by simp [lenA, elem48]
theorem ix48 {R : List (List UInt8)} {i : Int} {x : List UInt8} (o : Own) (h0 : 0 ≤ i) (h : R[i.toNat]? = some x) : indexAddrA Try.prog 48 (.vec o (strs R)) (.int .i64 i) = some (.rptr [.str x]) := by
  have : (strs R)[i.toNat]? = some (.str x) := by simp [strs, h]
  simp [indexAddrA, h0, this, elem48, sz9, AV.width, AV.cells]
theorem call24 (call : CallO) (args : List AV) (H : AHeap) : callA env call (.fn (.func 24) [] []) args H = bnd (closedCall call 24 args) fun v => some (v, H) := callA_closed rfl args
theorem call25 (call : CallO) (args : List AV) (H : AHeap) : callA env call (.fn (.func 25) [] []) args H = bnd (closedCall call 25 args) fun v => some (v, H) := callA_closed rfl args
theorem call18 (call : CallO) (args : List AV) (H : AHeap) : callA env call (.fn (.func 18) [] []) args H = bnd (closedCall call 18 args) fun v => some (v, H) := callA_closed rfl args
attribute [go_sem] bs48 len48 call24 call25 call18 strs_len

def OwnI (o : Own) (k : Nat) (H : AHeap) : Prop := (k = 0 ∧ o = .nil) ∨ (1 ≤ k ∧ ∃ id, o = .own id ∧ id < H.next ∧ getL H.objs id = some (.tip k 9))

theorem app48 {o : Own} {R : List (List UInt8)} {m : Nat} {l : List (Nat × AObj)} (x : List UInt8) (o2 : Own) (h : OwnI o R.length ⟨m, l⟩) (hb : R.length < 2 ^ 40) :
    ∃ o' H', appendA Try.prog 48 48 (.vec o (strs R)) (.vec o2 [.str x]) ⟨m + 1, (m, .tip 1 9) :: l⟩ = some (.vec o' (strs (R ++ [x])), H') ∧ OwnI o' (R.length + 1) H' := by
  have h1 : strideQ Try.prog 48 [.str x] = true := by simp [strideQ, elem48, sz9, AV.width]
  have h2 : (R.length + 1) * 16 ≤ 140737488355328 := by omega
  have h3 : R.length + 1 ≤ 9223372036854775807 := by omega
  rcases h with ⟨h4, rfl⟩ | ⟨h4, id, rfl, h5, h6⟩
  · have hR : R = [] := List.length_eq_zero_iff.1 h4
    subst hR
    refine ⟨.own (m + 1), AHeap.push ⟨m + 1, (m, .tip 1 9) :: l⟩ (.tip 1 9), ?_, Or.inr ⟨by simp, m + 1, rfl, ?_, ?_⟩⟩
    · have hst := stride48 []
      simp only [strs, List.map_nil] at hst
      simp [appendA, elem48, sz9, by9, zero9, h1, strs, hst]
    · simp [AHeap.push]
    · simp [AHeap.push, getL]
  · simp only at h5 h6
    refine ⟨.own id, ⟨m + 1, setL ((m, .tip 1 9) :: l) id (.tip (R.length + 1) 9)⟩, ?_, Or.inr ⟨by omega, id, rfl, ?_, ?_⟩⟩
    · have hg : getL ((m, .tip 1 9) :: l) id = some (.tip R.length 9) := by rw [getL_cons, if_neg (by omega)]; exact h6
      simp [appendA, elem48, sz9, by9, zero9, stride48, h1, strs_len, h2, h3, AHeap.get, show id < m + 1 by omega, hg, AHeap.set]
      simp [strs]
    · simp only; omega
    · simp only [getL_setL, if_true]
      rw [getL_cons, if_neg (by omega), h6]; rfl

def rowL (s : List UInt8) (j : Nat) : List UInt8 := (s.take (nextOf s (stP s s.length) (j + 1) - 1).toNat).drop (nextOf s (stP s s.length) j).toNat
def rowsL (s : List UInt8) (m : Nat) : List (List UInt8) := (List.range m).map (rowL s)
theorem rowsL_len (s : List UInt8) (m : Nat) : (rowsL s m).length = m := by simp [rowsL]
theorem rowsL_succ (s : List UInt8) (m : Nat) : rowsL s (m + 1) = rowsL s m ++ [rowL s m] := by simp [rowsL, List.range_succ]
theorem rowsL_get {s : List UInt8} {m j : Nat} (h : j < m) : (rowsL s m)[j]? = some (rowL s j) := by simp [rowsL, h]

noncomputable def B24 : Code := match Try.f24.body with | some (.seq _ (.seq _ (.seq _ (.seq (.seq _ (.block _ (.loop c))) _)))) => c | _ => .skip
noncomputable def LB24 : Code := .block 0 (.loop B24)
noncomputable def K24 : Code := match Try.f24.body with | some (.seq _ (.seq _ (.seq _ (.seq _ k)))) => k | _ => .skip

structure I24 (s : List UInt8) (i : Nat) (α : Frm) (H : AHeap) : Prop where
  ex : ∃ k o, At s i k ∧ OwnI o k H ∧ α 3 = .vec o (strs (rowsL s k)) ∧ α 4 = .str ((s.take i).drop (nextOf s (stP s s.length) k).toNat)
  a0 : α 0 = .str s
  a5 : α 5 = .int .i64 i

theorem drop_more {s : List UInt8} {st i : Nat} {b : UInt8} (h : st ≤ i) (hb : s[i]? = some b) (hi : i < s.length) : (s.take i).drop st ++ (s.take (i + 1)).drop i = (s.take (i + 1)).drop st := by
  have hl : (s.take i).length = i := by simp; omega
  have e : s.take (i + 1) = s.take i ++ [b] := by rw [List.take_add_one, hb]; rfl
  have e1 : List.drop st (s.take i ++ [b]) = (s.take i).drop st ++ [b] := List.drop_append_of_le_length (by omega)
  have e2 : List.drop i (s.take i ++ [b]) = [b] := List.drop_left' hl
  rw [e, e1, e2]

theorem round24 (s : List UInt8) (hs : s.length < 2 ^ 39) (i : Nat) (α : Frm) (H : AHeap) (hi : i < s.length) (h : I24 s i α H) :
    okR (execC env (run env) loopO B24 α H) fun e α' H' => e = .normal ∧ I24 s (i + 1) α' H' := by
  obtain ⟨⟨k, o, hk, ho, a3, a4⟩, a0, a5⟩ := h
  obtain ⟨m, l⟩ := H
  have hB : B24 = .seq _ (.seq _ _) := rfl
  rw [hB]
  have hlen := stP_len s s.length
  have hkk := hk.kl
  have hlo := hk.lo
  have hnn := next_nn s k
  obtain ⟨b, hb⟩ : ∃ b, s[i]? = some b := ⟨s[i], List.getElem?_eq_getElem hi⟩
  have e1 : decide ((i : Int) < (s.length : Int)) = true := decide_eq_true (by omega)
  have w1 : IntKind.i64.wrap ((i : Int) + 1) = (i : Int) + 1 := IntWalk.i64_in _ (by omega)
  have hc : ((i + 1 : Nat) : Int) = (i : Int) + 1 := by omega
  have x1 := ix9 hb
  by_cases hn : b = 10
  · subst hn
    obtain ⟨h1, h2⟩ := at_nl hk hi hb
    have d1 : (((10 : UInt8).toNat : Int) == 10) = true := by decide
    obtain ⟨o', H', hap, ho'⟩ := app48 ((s.take i).drop (nextOf s (stP s s.length) k).toNat) (.own m) (R := rowsL s k) (by rw [rowsL_len]; exact ho) (by rw [rowsL_len]; omega)
    have hr : rowsL s k ++ [(s.take i).drop (nextOf s (stP s s.length) k).toNat] = rowsL s (k + 1) := by
      rw [rowsL_succ, rowL, h1, show ((i : Int) + 1 - 1).toNat = i by omega]
    rw [hr] at hap
    rw [rowsL_len] at ho'
    simp only [go_sem, envP, ↓reduceIte, Nat.reduceEqDiff, Nat.reduceAdd, Nat.reduceLT, a0, a3, a4, a5, e1, w1, x1, d1, hap, true_and]
    refine ⟨⟨k + 1, o', h2, ho', ?_, ?_⟩, ?_, ?_⟩
    case refine_2 =>
      simp only [go_sem, ↓reduceIte, Nat.reduceEqDiff]
      rw [h1, show ((i : Int) + 1).toNat = i + 1 by omega, List.drop_eq_nil_of_le (by simp; omega)]
    all_goals simp only [go_sem, ↓reduceIte, Nat.reduceEqDiff, a0, a3, a4, a5, hc]
  · have d1 : ((b.toNat : Int) == 10) = false := by
      have : b.toNat ≠ 10 := fun h => hn (by rw [← UInt8.toNat_inj]; exact h)
      simp; omega
    have h2 := at_no hk hi (by rw [hb]; simpa using hn)
    have s1 := sl9 s (i : Int) ((i : Int) + 1) (by omega)
    rw [show ((i : Int) + 1).toNat = i + 1 by omega, Int.toNat_natCast] at s1
    have s2 : strBin .add ((s.take i).drop (nextOf s (stP s s.length) k).toNat) ((s.take (i + 1)).drop i) = some (.str ((s.take (i + 1)).drop (nextOf s (stP s s.length) k).toNat)) := by
      rw [strAdd _ _ (by simp only [List.length_drop, List.length_take]; omega), drop_more (by omega) hb hi]
    simp only [go_sem, envP, ↓reduceIte, Nat.reduceEqDiff, Nat.reduceAdd, Nat.reduceLT, a0, a3, a4, a5, e1, w1, x1, d1, s1, s2, true_and]
    refine ⟨⟨k, o, h2, ho, ?_, ?_⟩, ?_, ?_⟩
    all_goals simp only [go_sem, ↓reduceIte, Nat.reduceEqDiff, a0, a3, a4, a5, hc]

theorem end24 (s : List UInt8) (α : Frm) (H : AHeap) (h : I24 s s.length α H) :
    okR (execC env (run env) loopO B24 α H) fun e α' H' => e ≠ .normal ∧ (e = .normal ∨ e = .exit 0) ∧ I24 s s.length α' H' := by
  obtain ⟨⟨k, o, hk, ho, a3, a4⟩, a0, a5⟩ := h
  have hB : B24 = .seq _ (.seq _ _) := rfl
  rw [hB]
  have e1 : decide ((s.length : Int) < (s.length : Int)) = false := by simp
  simp only [go_sem, envP, ↓reduceIte, Nat.reduceEqDiff, a0, a5, e1]
  refine ⟨by simp, by simp, ⟨⟨k, o, hk, ho, ?_, ?_⟩, ?_, ?_⟩⟩ <;>
    simp only [go_sem, ↓reduceIte, Nat.reduceEqDiff, a0, a3, a4, a5]

theorem closed_ex {E : Env} {f : FuncId} {fn : Func} {c : Code} {args args' : List AV} {v' : AV} (hG : E.G f = true) (h1 : E.P.funcs[f]? = some fn) (h2 : fn.body = some c) (hn : args.length ≤ fn.ntmps) (he : args.map AV.erase = args')
    (hp : AV.noPtr.go args' = true) (hr : okR (execC E (run E) loopO c (frm0 args') .empty) fun e α' H' => ∃ v, outOf (finish E.P fn.results.toList (e, α', H')) = some v ∧ v.erase = v') (hv2 : v'.noPtr = true) :
    closedCall (run E) f args = some v' := by
  obtain ⟨e, α', H', h3, v, h4, h5⟩ := okR_get hr
  exact closed_of hG h1 h2 hn he hp (out_of (by rw [h3]; exact h4)) h5 hv2

theorem split_c (s : List UInt8) (hs : s.length < 2 ^ 39) : closedCall (run env) 24 [.str s] = some (.vec .ro (strs (rowsL s (stP s s.length).length))) := by
  refine closed_ex (fn := Try.f24) (c := .seq _ (.seq _ (.seq _ (.seq (.seq _ LB24) K24)))) rfl Try.func24 rfl (by rw [Try.ntmps24]; simp) (args' := [.str s]) rfl rfl ?_ (by simp [AV.noPtr, strs_np])
  have n0 : nextOf s (stP s s.length) 0 = 0 := by simp [nextOf, (stP_inc s s.length).z]
  simp only [go_sem, envP, ↓reduceIte, Nat.reduceEqDiff, Nat.reduceAdd, Nat.reduceLT]
  refine okR_then (block_normal 0 _ _ _ _ ?_)
  rw [xc_loop']
  refine okR_imp (loop_up (I24 s) s.length (fun e α' H' => (e = .normal ∨ e = .exit 0) ∧ I24 s s.length α' H') (fun i α H hi h => round24 s hs i α H hi h) (fun α H h => end24 s α H h) s.length 0 _ _ (by omega) ⟨⟨0, .nil, at_zero s, Or.inl ⟨rfl, rfl⟩, ?_, ?_⟩, ?_, ?_⟩) ?_
  case refine_5 =>
    intro e α H ⟨h1, ⟨k, o, hk, ho, a3, a4⟩, a0, a5⟩
    refine ⟨h1, rfl, ?_⟩
    obtain ⟨m, l⟩ := H
    have hlen := stP_len s s.length
    have hkl := hk.kl
    have hk1 : k + 1 = (stP s s.length).length := by
      rcases Nat.lt_or_ge (k + 1) (stP s s.length).length with c | c
      · have hhi := hk.hi
        rw [nextOf_get c] at hhi
        have := ((stP_inc s s.length).mem _ (List.getElem_mem c)).2
        omega
      · omega
    obtain ⟨o', H', hap, ho'⟩ := app48 ((s.take s.length).drop (nextOf s (stP s s.length) k).toNat) (.own m) (R := rowsL s k) (by rw [rowsL_len]; exact ho) (by rw [rowsL_len]; omega)
    have hr : rowsL s k ++ [(s.take s.length).drop (nextOf s (stP s s.length) k).toNat] = rowsL s (stP s s.length).length := by
      rw [← hk1, rowsL_succ, rowL, nextOf_end (j := k + 1) (by omega), show ((s.length : Int) + 1 - 1).toNat = s.length by omega]
    rw [hr] at hap
    have hK : K24 = .seq _ _ := rfl
    rw [hK]
    simp only [go_sem, envP, Try.results24, ↓reduceIte, Nat.reduceEqDiff, Nat.reduceAdd, Nat.reduceLT, a3, a4, hap]
    exact ⟨_, rfl, rfl⟩
  all_goals simp [go_sem, n0, rowsL, strs]
end Go.Proofs.Ytkhhkfgehmogoaa
