/- The machine: tools for walks (loops, blocks, results), and calls whose results are known by a table. -/
import Derived.Test.YtiagmokcjljliaaGreatDoorAm5
namespace Go.Ab
set_option linter.unusedVariables false
open Go

/-! Runs with a count and without -/
theorem run_of {E : Env} (n : Nat) {P : Program} {f : FuncId} {args : List AV} {v : AV} (h : closedCall P (execF E n) f args = some v) : closedCall P (run E) f args = some v :=
  closed_mono (fun f args H r hr => run_iff.2 ⟨n, hr⟩) h

/-! Loops, blocks, results -/
theorem open_out {E : Env} {f : FuncId} {fn : Func} {c : Code} (hG : E.G f = true) (hdf : E.df f = false) (h1 : E.P.funcs[f]? = some fn) (h2 : fn.body = some c) {args : List AV} (hn : args.length ≤ fn.ntmps) {H : AHeap} {Q : AV × AHeap → Prop}
    (h : okR (execC E (run E) loopO c (frm0 args) H) fun e α' H' => ∃ r, finish E.P fn.results.toList (e, α', H') = some r ∧ Q r) : ∃ r, run E f args H = some r ∧ Q r := by
  rw [run_body hG hdf h1 h2 hn]
  obtain ⟨e, α', H', h3, r, h4, h5⟩ := okR_get h
  rw [h3]
  exact ⟨r, h4, h5⟩
theorem open_eq {E : Env} {f : FuncId} {fn : Func} {c : Code} (hG : E.G f = true) (hdf : E.df f = false) (h1 : E.P.funcs[f]? = some fn) (h2 : fn.body = some c) {args : List AV} (hn : args.length ≤ fn.ntmps) {H : AHeap} {r : AV × AHeap}
    (h : okR (execC E (run E) loopO c (frm0 args) H) fun e α' H' => finish E.P fn.results.toList (e, α', H') = some r) : run E f args H = some r := by
  rw [run_body hG hdf h1 h2 hn]
  obtain ⟨e, α', H', h3, h4⟩ := okR_get h
  rw [h3]
  exact h4
theorem closed_ex {E : Env} {f : FuncId} {fn : Func} {c : Code} {args args' : List AV} {v' : AV} (hG : E.G f = true) (hdf : E.df f = false) (h1 : E.P.funcs[f]? = some fn) (h2 : fn.body = some c) (hn : args.length ≤ fn.ntmps) (he : args.map AV.erase = args')
    (hp : AV.noPtr.go args' = true) (hr : okR (execC E (run E) loopO c (frm0 args') .empty) fun e α' H' => ∃ v, outOf (finish E.P fn.results.toList (e, α', H')) = some v ∧ v.erase = v') (hv2 : v'.noPtr = true) :
    closedCall E.P (run E) f args = some v' := by
  obtain ⟨e, α', H', h3, v, h4, h5⟩ := okR_get hr
  exact closed_of hG hdf h1 h2 hn he hp (out_of (by rw [h3]; exact h4)) h5 hv2

theorem closed_same {E : Env} {f : FuncId} {fn : Func} {c : Code} {args args' : List AV} {v : AV} (hG : E.G f = true) (hdf : E.df f = false) (h1 : E.P.funcs[f]? = some fn) (h2 : fn.body = some c) (hn : args.length ≤ fn.ntmps) (he : args.map AV.erase = args')
    (hp : AV.noPtr.go args' = true) (hr : outOf (bnd (execC E (run E) loopO c (frm0 args') .empty) (finish E.P fn.results.toList)) = some v) (hv : v.erase = v) (hv2 : v.noPtr = true) : closedCall E.P (run E) f args = some v := closed_of hG hdf h1 h2 hn he hp hr hv hv2
theorem loop_meas {g : Frm → AHeap → Option Res} (I : Nat → Frm → AHeap → Prop) (P : Ex → Frm → AHeap → Prop)
    (hr : ∀ d α H, I d α H → okR (g α H) fun e α' H' => (e = .normal ∧ ∃ d', d' < d ∧ I d' α' H') ∨ (e ≠ .normal ∧ P e α' H')) (d : Nat) : ∀ α H, I d α H → okR (loopO g α H) P := by
  induction d using Nat.strongRecOn with
  | _ d ih =>
    intro α H h
    obtain ⟨e, α', H', h1, h2⟩ := okR_get (hr d α H h)
    rcases h2 with ⟨h2, d', h3, h4⟩ | ⟨h2, h3⟩
    · subst h2
      rw [loopO_eq, h1]
      exact ih d' h3 α' H' h4
    · rw [loopO_eq, h1]
      cases e with
      | normal => exact (h2 rfl).elim
      | exit j => exact h3
      | ret => exact h3
/-- A block that may be left by the return. -/
theorem block_ret {E : Env} {call : CallO} {loop : (Frm → AHeap → Option Res) → Frm → AHeap → Option Res} {id : Nat} {c : Code} {k : Frm → AHeap → Option Res} {α : Frm} {H : AHeap} {P : Ex → Frm → AHeap → Prop}
    (h : okR (execC E call loop c α H) fun e α' H' => ((e = .normal ∨ e = .exit id) ∧ okR (k α' H') P) ∨ (e = .ret ∧ P .ret α' H')) : okR (bnd (execC E call loop (.block id c) α H) fun r => andThen r k) P := by
  obtain ⟨e, α', H', h1, h2⟩ := okR_get h
  rw [xc_block, h1]
  rcases h2 with ⟨h2 | h2, h3⟩ | ⟨h2, h3⟩
  · subst h2; exact h3
  · subst h2
    simp only [bnd, unblock, if_true]
    exact h3
  · subst h2
    exact h3
theorem block_end {E : Env} {call : CallO} {loop : (Frm → AHeap → Option Res) → Frm → AHeap → Option Res} {id : Nat} {c : Code} {α : Frm} {H : AHeap} {P : Ex → Frm → AHeap → Prop}
    (h : okR (execC E call loop c α H) fun e α' H' => ((e = .normal ∨ e = .exit id) ∧ P .normal α' H') ∨ (e = .ret ∧ P .ret α' H')) : okR (execC E call loop (.block id c) α H) P := by
  obtain ⟨e, α', H', h1, h2⟩ := okR_get h
  rw [xc_block, h1]
  rcases h2 with ⟨h2 | h2, h3⟩ | ⟨h2, h3⟩
  · subst h2; exact h3
  · subst h2
    simp only [bnd, unblock, if_true]
    exact h3
  · subst h2
    exact h3

theorem setL_setL (l : List (Nat × AObj)) (k : Nat) (x y : AObj) : setL (setL l k x) k y = setL l k y := by
  induction l with
  | nil => simp [setL]
  | cons p r ih =>
    obtain ⟨a, z⟩ := p
    by_cases h : a = k <;> simp_all [setL]
/-! What is the same value, by looking -/
def eqo : Ab.Own → Ab.Own → Bool
  | .ro, .ro => true
  | .nil, .nil => true
  | .full, .full => true
  | _, _ => false
theorem eqo_eq : ∀ {a b : Ab.Own}, eqo a b = true → a = b
  | .ro, .ro, _ => rfl
  | .nil, .nil, _ => rfl
  | .full, .full, _ => rfl
def eqn : Value → Value → Bool
  | .nilIface, .nilIface => true
  | .nilFunc, .nilFunc => true
  | .pointer none, .pointer none => true
  | .map none, .map none => true
  | _, _ => false
theorem eqn_eq {a b : Value} (h : eqn a b = true) : a = b := by
  unfold eqn at h
  split at h <;> first | rfl | cases h
mutual
def eqv (a : AV) : AV → Bool :=
  match a with
  | .int k n => fun b => match b with
    | .int k' n' => decide (k = k') && decide (n = n')
    | _ => false
  | .bool x => fun b => match b with
    | .bool y => x == y
    | _ => false
  | .str x => fun b => match b with
    | .str y => decide (x = y)
    | _ => false
  | .agg x => fun b => match b with
    | .agg y => eqvs x y
    | _ => false
  | .tup x => fun b => match b with
    | .tup y => eqvs x y
    | _ => false
  | .vec o x => fun b => match b with
    | .vec o' y => eqo o o' && eqvs x y
    | _ => false
  | .val x => fun b => match b with
    | .val y => eqn x y
    | _ => false
  | _ => fun _ => false
def eqvs (a : List AV) : List AV → Bool :=
  match a with
  | [] => fun b => b.isEmpty
  | x :: a => fun b => match b with
    | y :: b => eqv x y && eqvs a b
    | [] => false
end
mutual
theorem eqv_eq (a b : AV) (h : eqv a b = true) : a = b := by
  match a, b with
  | .int k n, .int k' n' =>
    simp only [eqv, Bool.and_eq_true, decide_eq_true_eq] at h
    rw [h.1, h.2]
  | .bool x, .bool y =>
    simp only [eqv, beq_iff_eq] at h
    rw [h]
  | .str x, .str y =>
    simp only [eqv, decide_eq_true_eq] at h
    rw [h]
  | .agg x, .agg y =>
    simp only [eqv] at h
    rw [eqvs_eq x y h]
  | .tup x, .tup y =>
    simp only [eqv] at h
    rw [eqvs_eq x y h]
  | .vec o x, .vec o' y =>
    simp only [eqv, Bool.and_eq_true] at h
    rw [eqo_eq h.1, eqvs_eq x y h.2]
  | .val x, .val y =>
    simp only [eqv] at h
    rw [eqn_eq h]
  | .junk, _ => simp [eqv] at h
  | .any, _ => simp [eqv] at h
  | .ptr _ _, _ => simp [eqv] at h
  | .rptr _, _ => simp [eqv] at h
  | .fn _ _ _, _ => simp [eqv] at h
  | .iface _ _, _ => simp [eqv] at h
  | .sl _ _ _ _, _ => simp [eqv] at h
  | .map _, _ => simp [eqv] at h
theorem eqvs_eq (a b : List AV) (h : eqvs a b = true) : a = b := by
  match a, b with
  | [], [] => rfl
  | x :: a, y :: b =>
    simp only [eqvs, Bool.and_eq_true] at h
    rw [eqv_eq x y h.1, eqvs_eq a b h.2]
end
def isV (v : AV) : Option AV → Bool
  | some u => eqv u v
  | none => false
theorem isV_of {v : AV} {o : Option AV} (h : isV v o = true) : o = some v := by
  cases o with
  | none => cases h
  | some u => exact congrArg some (eqv_eq u v h)
def isR (v : AV) : Option (AV × AHeap) → Bool
  | some u => eqv u.1 v
  | none => false
theorem isR_of {v : AV} {o : Option (AV × AHeap)} (h : isR v o = true) : ∃ H, o = some (v, H) := by
  cases o with
  | none => cases h
  | some u =>
    obtain ⟨a, H⟩ := u
    exact ⟨H, congrArg (fun z => some (z, H)) (eqv_eq a v h)⟩
def b8 (l : List Nat) : List UInt8 := l.map UInt8.ofNat

/-! Closed calls whose results are known -/
abbrev Memo := List (FuncId × List AV × AV)
def memoGo (f : FuncId) (args : List AV) : Memo → Option AV
  | [] => none
  | (g, a, v) :: r => if (g == f && eqvs a args) = true then some v else memoGo f args r
def memoX (t : Memo) : CallO := fun f args H => match memoGo f args t with
  | some v => some (v, H)
  | none => none
/-- A line of the table, as it was seen. -/
def Seen (P : Program) (x : FuncId × List AV × AV) : Prop := callable P x.1 ∧ ∃ (E : Env) (n : Nat), EnvOk E ∧ E.P = P ∧ closedCall P (execF E n) x.1 x.2.1 = some x.2.2
theorem memoGo_mem {f : FuncId} {args : List AV} {v : AV} : ∀ {t : Memo}, memoGo f args t = some v → (f, args, v) ∈ t
  | [], h => by cases h
  | (g, a, u) :: r, h => by
    rw [memoGo] at h
    split at h
    · rename_i hq
      simp only [Bool.and_eq_true, beq_iff_eq] at hq
      simp only [Option.some.injEq] at h
      rw [← hq.1, ← eqvs_eq _ _ hq.2, ← h]
      exact List.mem_cons_self
    · exact List.mem_cons_of_mem _ (memoGo_mem h)
theorem memoX_ok {P : Program} {t : Memo} (ht : ∀ x ∈ t, Seen P x) : CallOk P (memoX t) := by
  intro f args H v H' hx
  unfold memoX at hx
  split at hx
  · rename_i u hu
    simp only [Option.some.injEq, Prod.mk.injEq] at hx
    obtain ⟨rfl, rfl⟩ := hx
    obtain ⟨h1, E, n, hE, rfl, hc⟩ := ht _ (memoGo_mem hu)
    refine ⟨h1, ?_⟩
    intro B W0 σ w us hs hr
    exact (closed_sound hs (execF_sound hE n) hr hc).2
  · cases hx

/-! What may be run -/
def okF (E : Env) (f : FuncId) : Bool :=
  match E.P.funcs[f]? with
  | some fn => match fn.body with
    | some c => !(fn.name == "runtime.NumGoroutine") && okC E fn.ntmps c
    | none => false
  | none => false
theorem okF_good {E : Env} {f : FuncId} (h : okF E f = true) : ∃ fn c, E.P.funcs[f]? = some fn ∧ fn.body = some c ∧ (fn.name == "runtime.NumGoroutine") = false ∧ okC E fn.ntmps c = true := by
  unfold okF at h
  cases h1 : E.P.funcs[f]? with
  | none => simp [h1] at h
  | some fn =>
    cases h2 : fn.body with
    | none => simp [h1, h2] at h
    | some c =>
      simp only [h1, h2, Bool.and_eq_true, Bool.not_eq_true'] at h
      exact ⟨fn, c, rfl, h2, h.1, h.2⟩
/-- A closed call, where nothing is run but she. -/
theorem closed_ext {E : Env} {f : FuncId} (hG : E.G f = false) {args : List AV} {v : AV} {H : AHeap} (hp : AV.noPtr.go (args.map AV.erase) = true) (he : E.ext f (args.map AV.erase) .empty = some (v, H)) (hv : v.erase.noPtr = true) : closedCall E.P (run E) f args = some v.erase := by
  unfold closedCall
  rw [if_pos hp, run_ext hG, he]
  simp only
  rw [if_pos hv]
/-- From a closed run to a contract. -/
theorem calls_of_closed {E : Env} (hE : EnvOk E) {f : FuncId} {args : List AV} {v : AV} (h : closedCall E.P (run E) f args = some v) (H : AHeap) : CallsA E.P f args H v H := by
  intro B W0 σ w us hs hr
  exact (closed_sound hs (run_sound hE) hr h).2
end Go.Ab
