/- The machine: what is the same memory, by looking; and calls whose results are known by a table, with the memory they begin in. -/
import Derived.Test.YtiagmokcjljliaaGreatDoorWk
namespace Go.Ab
set_option linter.unusedVariables false
open Go

def eqo' : Ab.Own → Ab.Own → Bool
  | .ro, .ro => true
  | .nil, .nil => true
  | .full, .full => true
  | .own k, .own j => k == j
  | _, _ => false
theorem eqo'_eq : ∀ {a b : Ab.Own}, eqo' a b = true → a = b
  | .ro, .ro, _ => rfl
  | .nil, .nil, _ => rfl
  | .full, .full, _ => rfl
  | .own k, .own j, h => by
    simp only [eqo', beq_iff_eq] at h
    rw [h]
def eqf : Fn → Fn → Bool
  | .func a, .func b => a == b
  | _, _ => false
theorem eqf_eq {a b : Fn} (h : eqf a b = true) : a = b := by
  unfold eqf at h
  split at h
  · rw [beq_iff_eq.1 h]
  · cases h
mutual
def eqw (a : AV) : AV → Bool :=
  match a with
  | .int k n => fun b => match b with
    | .int k' n' => decide (k = k') && decide (n = n')
    | _ => false
  | .bool x => fun b => match b with
    | .bool y => x == y
    | _ => false
  | .str x => fun b => match b with
    | .str y => decide (x = y)
    | _ => false
  | .agg x => fun b => match b with
    | .agg y => eqws x y
    | _ => false
  | .tup x => fun b => match b with
    | .tup y => eqws x y
    | _ => false
  | .vec o x => fun b => match b with
    | .vec o' y => eqo' o o' && eqws x y
    | _ => false
  | .val x => fun b => match b with
    | .val y => eqn x y
    | _ => false
  | .ptr i o => fun b => match b with
    | .ptr i' o' => i == i' && o == o'
    | _ => false
  | .rptr x => fun b => match b with
    | .rptr y => eqws x y
    | _ => false
  | .fn f x y => fun b => match b with
    | .fn f' x' y' => eqf f f' && (eqws x x' && eqws y y')
    | _ => false
  | .iface t x => fun b => match b with
    | .iface t' y => t == t' && eqw x y
    | _ => false
  | .sl i s o l => fun b => match b with
    | .sl i' s' o' l' => i == i' && (s == s' && (o == o' && l == l'))
    | _ => false
  | .map i => fun b => match b with
    | .map i' => i == i'
    | _ => false
  | .junk => fun b => match b with
    | .junk => true
    | _ => false
  | .any => fun b => match b with
    | .any => true
    | _ => false
def eqws (a : List AV) : List AV → Bool :=
  match a with
  | [] => fun b => b.isEmpty
  | x :: a => fun b => match b with
    | y :: b => eqw x y && eqws a b
    | [] => false
end
mutual
theorem eqw_eq (a b : AV) (h : eqw a b = true) : a = b := by
  cases a with
  | int k n =>
    cases b <;> simp only [eqw, Bool.and_eq_true, decide_eq_true_eq, Bool.false_eq_true] at h
    rw [h.1, h.2]
  | bool x =>
    cases b <;> simp only [eqw, beq_iff_eq, Bool.false_eq_true] at h
    rw [h]
  | str x =>
    cases b <;> simp only [eqw, decide_eq_true_eq, Bool.false_eq_true] at h
    rw [h]
  | agg x =>
    cases b with
    | agg y =>
      simp only [eqw] at h
      rw [eqws_eq x y h]
    | _ => simp only [eqw, Bool.false_eq_true] at h
  | tup x =>
    cases b with
    | tup y =>
      simp only [eqw] at h
      rw [eqws_eq x y h]
    | _ => simp only [eqw, Bool.false_eq_true] at h
  | vec o x =>
    cases b with
    | vec o' y =>
      simp only [eqw, Bool.and_eq_true] at h
      rw [eqo'_eq h.1, eqws_eq x y h.2]
    | _ => simp only [eqw, Bool.false_eq_true] at h
  | val x =>
    cases b with
    | val y =>
      simp only [eqw] at h
      rw [eqn_eq h]
    | _ => simp only [eqw, Bool.false_eq_true] at h
  | ptr i o =>
    cases b <;> simp only [eqw, Bool.and_eq_true, beq_iff_eq, Bool.false_eq_true] at h
    rw [h.1, h.2]
  | rptr x =>
    cases b with
    | rptr y =>
      simp only [eqw] at h
      rw [eqws_eq x y h]
    | _ => simp only [eqw, Bool.false_eq_true] at h
  | fn f x y =>
    cases b with
    | fn f' x' y' =>
      simp only [eqw, Bool.and_eq_true] at h
      rw [eqf_eq h.1, eqws_eq x x' h.2.1, eqws_eq y y' h.2.2]
    | _ => simp only [eqw, Bool.false_eq_true] at h
  | iface t x =>
    cases b with
    | iface t' y =>
      simp only [eqw, Bool.and_eq_true, beq_iff_eq] at h
      rw [h.1, eqw_eq x y h.2]
    | _ => simp only [eqw, Bool.false_eq_true] at h
  | sl i s o l =>
    cases b <;> simp only [eqw, Bool.and_eq_true, beq_iff_eq, Bool.false_eq_true] at h
    rw [h.1, h.2.1, h.2.2.1, h.2.2.2]
  | map i =>
    cases b <;> simp only [eqw, beq_iff_eq, Bool.false_eq_true] at h
    rw [h]
  | junk => cases b <;> first | rfl | simp only [eqw, Bool.false_eq_true] at h
  | any => cases b <;> first | rfl | simp only [eqw, Bool.false_eq_true] at h
theorem eqws_eq (a b : List AV) (h : eqws a b = true) : a = b := by
  match a, b with
  | [], [] => rfl
  | x :: a, y :: b =>
    simp only [eqws, Bool.and_eq_true] at h
    rw [eqw_eq x y h.1, eqws_eq a b h.2]
end
def eqms : List (AV × AV × Nat) → List (AV × AV × Nat) → Bool
  | [], [] => true
  | (a, b, n) :: r, (a', b', n') :: r' => eqw a a' && (eqw b b' && (n == n' && eqms r r'))
  | _, _ => false
theorem eqms_eq : ∀ {a b : List (AV × AV × Nat)}, eqms a b = true → a = b
  | [], [], _ => rfl
  | (a, b, n) :: r, (a', b', n') :: r', h => by
    simp only [eqms, Bool.and_eq_true, beq_iff_eq] at h
    rw [eqw_eq _ _ h.1, eqw_eq _ _ h.2.1, h.2.2.1, eqms_eq h.2.2.2]
  | [], _ :: _, h => by cases h
  | _ :: _, [], h => by cases h
def eqx (a : AObj) : AObj → Bool :=
  match a with
  | .cells t c => fun b => match b with
    | .cells t' c' => decide (t = t') && eqws c c'
    | _ => false
  | .tip n t => fun b => match b with
    | .tip n' t' => n == n' && t == t'
    | _ => false
  | .row n t s c => fun b => match b with
    | .row n' t' s' c' => n == n' && (t == t' && (s == s' && eqws c c'))
    | _ => false
  | .map e k => fun b => match b with
    | .map e' k' => eqms e e' && k == k'
    | _ => false
theorem eqx_eq {a b : AObj} (h : eqx a b = true) : a = b := by
  cases a with
  | cells t c =>
    cases b with
    | cells t' c' =>
      simp only [eqx, Bool.and_eq_true, decide_eq_true_eq] at h
      rw [h.1, eqws_eq _ _ h.2]
    | _ => simp only [eqx, Bool.false_eq_true] at h
  | tip n t =>
    cases b <;> simp only [eqx, Bool.and_eq_true, beq_iff_eq, Bool.false_eq_true] at h
    rw [h.1, h.2]
  | row n t s c =>
    cases b with
    | row n' t' s' c' =>
      simp only [eqx, Bool.and_eq_true, beq_iff_eq] at h
      rw [h.1, h.2.1, h.2.2.1, eqws_eq _ _ h.2.2.2]
    | _ => simp only [eqx, Bool.false_eq_true] at h
  | map e k =>
    cases b with
    | map e' k' =>
      simp only [eqx, Bool.and_eq_true, beq_iff_eq] at h
      rw [eqms_eq h.1, h.2]
    | _ => simp only [eqx, Bool.false_eq_true] at h
def eqL : List (Nat × AObj) → List (Nat × AObj) → Bool
  | [], [] => true
  | (n, x) :: r, (n', x') :: r' => n == n' && (eqx x x' && eqL r r')
  | _, _ => false
theorem eqL_eq : ∀ {a b : List (Nat × AObj)}, eqL a b = true → a = b
  | [], [], _ => rfl
  | (n, x) :: r, (n', x') :: r', h => by
    simp only [eqL, Bool.and_eq_true, beq_iff_eq] at h
    rw [h.1, eqx_eq h.2.1, eqL_eq h.2.2]
  | [], _ :: _, h => by cases h
  | _ :: _, [], h => by cases h
def eqH (a b : AHeap) : Bool := a.next == b.next && eqL a.objs b.objs
theorem eqH_eq {a b : AHeap} (h : eqH a b = true) : a = b := by
  obtain ⟨m, L⟩ := a
  obtain ⟨n, R⟩ := b
  simp only [eqH, Bool.and_eq_true, beq_iff_eq] at h
  rw [h.1, eqL_eq h.2]
def isRH (v : AV) (H : AHeap) : Option (AV × AHeap) → Bool
  | some u => eqw u.1 v && eqH u.2 H
  | none => false
theorem isRH_of {v : AV} {H : AHeap} {o : Option (AV × AHeap)} (h : isRH v H o = true) : o = some (v, H) := by
  cases o with
  | none => cases h
  | some u =>
    obtain ⟨a, G⟩ := u
    simp only [isRH, Bool.and_eq_true] at h
    rw [eqw_eq _ _ h.1, eqH_eq h.2]

/-- What changed in memory: the first list names old objects in their order, with what they are now. -/
def patchL : List (Nat × Option AObj) → List (Nat × AObj) → List (Nat × AObj)
  | us, [] => []
  | us, (j, x) :: r => match us with
    | [] => (j, x) :: r
    | (k, u) :: us' => if k = j then (match u with | some y => (j, y) :: patchL us' r | none => patchL us' r) else (j, x) :: patchL us r
def AHeap.patch (H : AHeap) (n : Nat) (new : List (Nat × AObj)) (us : List (Nat × Option AObj)) : AHeap := ⟨n, new ++ patchL us H.objs⟩

abbrev MemoH := List (FuncId × List AV × AHeap × AV × AHeap)
def memoHGo (f : FuncId) (args : List AV) (H : AHeap) : MemoH → Option (AV × AHeap)
  | [] => none
  | (g, a, G, v, G') :: r => if (g == f && (eqws a args && eqH G H)) = true then some (v, G') else memoHGo f args H r
def memoHX (t : MemoH) : CallO := fun f args H => memoHGo f args H t
def SeenH (P : Program) (x : FuncId × List AV × AHeap × AV × AHeap) : Prop := ∃ (E : Env) (n : Nat), EnvOk E ∧ E.P = P ∧ execF E n x.1 x.2.1 x.2.2.1 = some (x.2.2.2.1, x.2.2.2.2)
theorem memoHGo_mem {f : FuncId} {args : List AV} {H : AHeap} {r : AV × AHeap} : ∀ {t : MemoH}, memoHGo f args H t = some r → (f, args, H, r.1, r.2) ∈ t
  | [], h => by cases h
  | (g, a, G, v, G') :: s, h => by
    rw [memoHGo] at h
    split at h
    · rename_i hq
      simp only [Bool.and_eq_true, beq_iff_eq] at hq
      simp only [Option.some.injEq] at h
      subst h
      rw [← hq.1, ← eqws_eq _ _ hq.2.1, ← eqH_eq hq.2.2]
      exact List.mem_cons_self
    · exact List.mem_cons_of_mem _ (memoHGo_mem h)
theorem memoHX_ok {P : Program} {t : MemoH} (ht : ∀ x ∈ t, SeenH P x) : CallOk P (memoHX t) := by
  intro f args H v H' hx
  obtain ⟨E, n, hE, rfl, hc⟩ := ht _ (memoHGo_mem hx)
  exact execF_sound hE n f args H v H' hc
end Go.Ab
