/- RunAlike: the second machine, in which awake is taken by contract; what lists of texts give. -/
import Derived.Test.YtpdhkcakoekdgaaGreatDoorR1
import Derived.Test.YtpdhkcakoekdgaaGreatDoorAc20
import Derived.IntWalk
namespace Go.Proofs.YtpdhkcakoekdgaaGreatDoor
set_option linter.unusedVariables false
set_option linter.unusedSimpArgs false
open Go Go.Ab

def isZ5 : Option AV → Bool
  | some (.agg [.int .i64 0, .int .i64 0, .str [], .vec .nil [], .vec .nil []]) => true
  | _ => false
def z5 : List AV := [.int .i64 0, .int .i64 0, .str [], .vec .nil [], .vec .nil []]
theorem isZ5_of {o : Option AV} (h : isZ5 o = true) : o = some (.agg z5) := by
  unfold isZ5 at h
  split at h
  · rfl
  · cases h

/-! law.From, at the zero value -/
noncomputable def env1 : Env := { P := Tryz.prog, G := fun f => [17].contains f, cl := fun f => [17].contains f, mutT := fun _ => false, dyn := fun _ => true, df := fun _ => false, ext := fun _ _ _ => none }
theorem all_ok1 : [17].all (okF env1) = true := by kernel_rfl
theorem env1Ok : EnvOk env1 where
  mixed := mixed
  good := fun f hf => okF_good (List.all_eq_true.1 all_ok1 f (List.contains_iff_mem.1 hf))
  ext := fun f args H v H' h => by cases h
theorem from17_1 : closedCall Tryz.prog (execF env1 20) 17 [.agg z5] = some (.agg z5) := isZ5_of (by kernel_rfl)

def good2 : List FuncId := [3, 6, 7, 8, 14, 15, 16, 33]
def closed2 : List FuncId := [5, 6, 7, 8, 14, 15, 16, 17, 33]
def fromX : CallO := fun f args H => if f = 17 then match args with | [v] => if isZ5 (some v) = true then some (v, H) else none | _ => none else none
theorem fromX_ok : CallOk Tryz.prog fromX := by
  intro f args H v H' h
  unfold fromX at h
  split at h
  · rename_i hf
    subst hf
    split at h
    · rename_i v0
      split at h
      · rename_i hz
        have := isZ5_of hz
        simp only [Option.some.injEq] at this
        subst this
        simp only [Option.some.injEq, Prod.mk.injEq] at h
        obtain ⟨rfl, rfl⟩ := h
        refine ⟨⟨_, Tryz.func17, by kernel_rfl, by kernel_rfl⟩, ?_⟩
        intro B W0 σ w us hs hr
        exact (closed_sound hs (execF_sound env1Ok 20) hr from17_1).2
      · cases h
    · cases h
  · cases h
def awakeX : CallO := fun f args H => if f = 5 ∧ args.length = 0 then some (.bool true, H) else none
theorem awakeX_ok : CallOk Tryz.prog awakeX := by
  intro f args H v H' h
  unfold awakeX at h
  split at h
  · rename_i hq
    obtain ⟨rfl, hl⟩ := hq
    have : args = [] := List.length_eq_zero_iff.1 hl
    subst this
    simp only [Option.some.injEq, Prod.mk.injEq] at h
    obtain ⟨rfl, rfl⟩ := h
    refine ⟨⟨_, Tryz.func5, by kernel_rfl, by kernel_rfl⟩, ?_⟩
    intro B W0 σ w us hs hr
    exact (closed_sound hs (execF_sound envTOk 200) hr awake_T).2
  · cases h
noncomputable def env2 : Env := { P := Tryz.prog, G := fun f => good2.contains f, cl := fun f => closed2.contains f, mutT := fun _ => false, dyn := fun i => i == 3, df := fun _ => false, ext := orX awakeX fromX }
theorem all_ok2 : good2.all (okF env2) = true := by kernel_rfl
theorem env2Ok : EnvOk env2 where
  mixed := mixed
  good := fun f hf => okF_good (List.all_eq_true.1 all_ok2 f (List.contains_iff_mem.1 hf))
  ext := orX_ok awakeX_ok fromX_ok

theorem run_of2 (n : Nat) {f : FuncId} {args : List AV} {v : AV} (h : closedCall Tryz.prog (execF env2 n) f args = some v) : closedCall Tryz.prog (run env2) f args = some v :=
  closed_mono (fun f args H r hr => run_iff.2 ⟨n, hr⟩) h

theorem envP : env2.P = Tryz.prog := (rfl)
theorem awake2 : closedCall Tryz.prog (run env2) 5 [] = some (.bool true) := run_of2 1 (isB_of (by kernel_rfl))
theorem same14 : closedCall Tryz.prog (run env2) 14 [.agg z5, .agg z5] = some (.bool true) := run_of2 20 (isB_of (by kernel_rfl))
theorem same16 : closedCall Tryz.prog (run env2) 16 [.agg z5, .agg z5] = some (.bool true) := run_of2 20 (isB_of (by kernel_rfl))
theorem from17 : closedCall Tryz.prog (run env2) 17 [.agg z5] = some (.agg z5) := run_of2 20 (isZ5_of (by kernel_rfl))

/-! Lists of texts -/
def S (l : List (List UInt8)) : List AV := l.map .str
theorem S_len (l : List (List UInt8)) : (S l).length = l.length := by simp [S]
theorem S_at {l : List (List UInt8)} {i : Nat} {x : List UInt8} (h : l[i]? = some x) : (S l)[i]? = some (.str x) := by simp [S, h]
theorem S_noPtr : ∀ l : List (List UInt8), AV.noPtr.go (S l) = true
  | [] => rfl
  | x :: l => by
    show (AV.noPtr (.str x) && AV.noPtr.go (S l)) = true
    rw [S_noPtr l]
    rfl
theorem S_same : ∀ l : List (List UInt8), sameL (S l) (S l) = true
  | [] => sa_nil
  | x :: l => by
    show sameL (.str x :: S l) (.str x :: S l) = true
    rw [sa_cons, sa_str, S_same l]
    rfl
theorem sa_S (l : List (List UInt8)) : sameAV (.vec .ro (S l)) (.vec .ro (S l)) = true := by
  simp only [sameAV, S_same]
  rfl
theorem elem23 : elemQ Tryz.prog 23 = some 9 := by kernel_rfl
theorem sz9 : szQ Tryz.prog 9 = some 1 := by kernel_rfl
theorem len23 (o : Ab.Own) (l : List (List UInt8)) : lenA Tryz.prog #[23] [.vec o (S l)] = some (.int .i64 l.length) := by simp [lenA, elem23, S_len]
theorem ix23 {l : List (List UInt8)} {i : Nat} {x : List UInt8} (o : Ab.Own) (h : l[i]? = some x) : indexAddrA Tryz.prog 23 (.vec o (S l)) (.int .i64 (i : Int)) = some (.rptr [.str x]) := by
  have := S_at h
  simp [indexAddrA, elem23, sz9, AV.width, AV.cells, this]
theorem agg9 : aggQ Tryz.prog 9 = some false := by kernel_rfl
theorem ld9 (cs : List AV) (off : Nat) : ldA Tryz.prog 9 cs off = cs[off]? := ld_one agg9 cs off
theorem str_neq (a b : List UInt8) : strBin .neq a b = some (.bool (!(a == b))) := by simp [strBin, bne]
theorem dyn0 : env2.dyn 0 = false := (rfl)
theorem dyn1 : env2.dyn 1 = false := (rfl)
theorem dyn2 : env2.dyn 2 = false := (rfl)
theorem dyn3 : env2.dyn 3 = true := (rfl)
theorem dyn5 : env2.dyn 5 = false := (rfl)
theorem dyn6 : env2.dyn 6 = false := (rfl)
attribute [go_sem] ld9 str_neq dyn0 dyn1 dyn2 dyn3 dyn5 dyn6 sa_S len23

theorem loop_meas {g : Frm → AHeap → Option Res} (I : Nat → Frm → AHeap → Prop) (P : Ex → Frm → AHeap → Prop)
    (hr : ∀ d α H, I d α H → okR (g α H) fun e α' H' => (e = .normal ∧ ∃ d', d' < d ∧ I d' α' H') ∨ (e ≠ .normal ∧ P e α' H')) (d : Nat) : ∀ α H, I d α H → okR (loopO g α H) P := by
  induction d using Nat.strongRecOn with
  | _ d ih =>
    intro α H h
    obtain ⟨e, α', H', h1, h2⟩ := okR_get (hr d α H h)
    rcases h2 with ⟨h2, d', h3, h4⟩ | ⟨h2, h3⟩
    · subst h2
      rw [loopO_eq, h1]
      exact ih d' h3 α' H' h4
    · rw [loopO_eq, h1]
      cases e with
      | normal => exact (h2 rfl).elim
      | exit j => exact h3
      | ret => exact h3

/-- A block that may be left by the return. -/
theorem block_ret {E : Env} {call : CallO} {loop : (Frm → AHeap → Option Res) → Frm → AHeap → Option Res} {id : Nat} {c : Code} {k : Frm → AHeap → Option Res} {α : Frm} {H : AHeap} {P : Ex → Frm → AHeap → Prop}
    (h : okR (execC E call loop c α H) fun e α' H' => ((e = .normal ∨ e = .exit id) ∧ okR (k α' H') P) ∨ (e = .ret ∧ P .ret α' H')) : okR (bnd (execC E call loop (.block id c) α H) fun r => andThen r k) P := by
  obtain ⟨e, α', H', h1, h2⟩ := okR_get h
  rw [xc_block, h1]
  rcases h2 with ⟨h2 | h2, h3⟩ | ⟨h2, h3⟩
  · subst h2; exact h3
  · subst h2
    simp only [bnd, unblock, if_true]
    exact h3
  · subst h2
    exact h3

/-! slices.Equal -/
noncomputable def B15 : Code := match Tryz.f15.body with | some (.seq _ (.seq _ (.seq (.seq _ (.block _ (.loop c))) _))) => c | _ => .skip
noncomputable def LB15 : Code := .block 0 (.loop B15)
noncomputable def K15 : Code := match Tryz.f15.body with | some (.seq _ (.seq _ (.seq _ k))) => k | _ => .skip

structure I15 (a b : List (List UInt8)) (d : Nat) (α : Frm) (H : AHeap) : Prop where
  ex : ∃ i : Nat, i + d = a.length ∧ α 13 = .int .i64 i ∧ ∀ j, j < i → a[j]? = b[j]?
  a0 : α 0 = .vec .ro (S a)
  a1 : α 1 = .vec .ro (S b)
  a12 : α 12 = .int .i64 a.length

theorem round15 (a b : List (List UInt8)) (hab : a.length = b.length) (hn : a.length ≤ 9223372036854775807) (d : Nat) (α : Frm) (H : AHeap) (h : I15 a b d α H) :
    okR (execC env2 (run env2) loopO B15 α H) fun e α' H' => (e = .normal ∧ ∃ d', d' < d ∧ I15 a b d' α' H') ∨ (e ≠ .normal ∧ ((e = .exit 0 ∧ a = b) ∨ (e = .ret ∧ α' 4 = .bool false ∧ a ≠ b))) := by
  obtain ⟨⟨i, h1, a13, hq⟩, a0, a1, a12⟩ := h
  have hB : B15 = .seq _ _ := rfl
  rw [hB]
  by_cases c : i < a.length
  · have e1 : decide ((i : Int) < (a.length : Int)) = true := decide_eq_true (by omega)
    have w1 : IntKind.i64.wrap ((i : Int) + 1) = ((i + 1 : Nat) : Int) := by rw [IntWalk.i64_in _ (by omega)]; omega
    have hx : a[i]? = some a[i] := List.getElem?_eq_getElem c
    have hy : b[i]? = some b[i] := List.getElem?_eq_getElem (by omega)
    have x1 := ix23 .ro hx
    have x2 := ix23 .ro hy
    by_cases c2 : a[i] = b[i]
    · have d1 : (a[i] == b[i]) = true := by simp [c2]
      simp only [go_sem, envP, ↓reduceIte, Nat.reduceEqDiff, Nat.reduceAdd, Nat.reduceLT, a0, a1, a12, a13, e1, w1, x1, x2, d1, Bool.not_true]
      refine .inl ⟨trivial, d - 1, by omega, ⟨i + 1, by omega, ?_, fun j hj => ?_⟩, ?_, ?_, ?_⟩
      case refine_2 =>
        rcases Nat.lt_or_ge j i with h | h
        · exact hq j h
        · have : j = i := by omega
          subst this
          rw [hx, hy, c2]
      all_goals simp only [go_sem, ↓reduceIte, Nat.reduceEqDiff, a0, a1, a12, a13]
    · have d1 : (a[i] == b[i]) = false := by simp [c2]
      simp only [go_sem, envP, ↓reduceIte, Nat.reduceEqDiff, Nat.reduceAdd, Nat.reduceLT, a0, a1, a12, a13, e1, w1, x1, x2, d1, Bool.not_false]
      refine .inr ⟨by simp, .inr ⟨trivial, trivial, fun h => c2 ?_⟩⟩
      subst h
      rfl
  · have e1 : decide ((i : Int) < (a.length : Int)) = false := decide_eq_false (by omega)
    simp only [go_sem, envP, ↓reduceIte, Nat.reduceEqDiff, Nat.reduceAdd, Nat.reduceLT, a0, a1, a12, a13, e1]
    refine .inr ⟨by simp, .inl ⟨trivial, List.ext_getElem? fun j => ?_⟩⟩
    rcases Nat.lt_or_ge j i with h | h
    · exact hq j h
    · rw [List.getElem?_eq_none (by omega), List.getElem?_eq_none (by omega)]

theorem equal_c (a b : List (List UInt8)) (hn : a.length ≤ 9223372036854775807) : closedCall Tryz.prog (run env2) 15 [.vec .ro (S a), .vec .ro (S b)] = some (.bool (decide (a = b))) := by
  refine closed_of (v := .bool (decide (a = b))) (fn := Tryz.f15) (c := .seq _ (.seq (.seq _ _) (.seq (.seq _ LB15) K15))) rfl rfl Tryz.func15 rfl (by rw [Tryz.ntmps15]; simp) (args' := [.vec .ro (S a), .vec .ro (S b)]) rfl (by simp [AV.noPtr, AV.noPtr.go, S_noPtr]) ?_ rfl rfl
  by_cases c : a.length = b.length
  · have d1 : ((a.length : Int) != (b.length : Int)) = false := by simp [c]
    refine out_of ?_
    simp only [go_sem, envP, ↓reduceIte, Nat.reduceEqDiff, Nat.reduceAdd, Nat.reduceLT, d1]
    refine block_ret (id := 0) ?_
    rw [xc_loop']
    refine okR_imp (loop_meas (I15 a b) _ (fun d α H h => round15 a b c hn d α H h) a.length _ _ ⟨⟨0, by omega, ?_, fun j hj => absurd hj (by omega)⟩, ?_, ?_, ?_⟩) ?_
    case refine_5 =>
      rintro e α' H' (⟨rfl, h⟩ | ⟨rfl, h4, h⟩)
      · refine .inl ⟨.inr rfl, ?_⟩
        have hK : K15 = .seq _ _ := rfl
        rw [hK]
        simp only [go_sem, envP, ↓reduceIte, Nat.reduceEqDiff, Nat.reduceAdd, Nat.reduceLT, Tryz.results15, decide_eq_true h]
      · refine .inr ⟨rfl, ?_⟩
        simp only [go_sem, envP, ↓reduceIte, Nat.reduceEqDiff, Nat.reduceAdd, Nat.reduceLT, Tryz.results15, decide_eq_false h, h4]
    all_goals simp only [go_sem, ↓reduceIte, Nat.reduceEqDiff]
    rfl
  · have d1 : ((a.length : Int) != (b.length : Int)) = true := by simp; omega
    have hne : a ≠ b := fun h => c (by rw [h])
    simp only [go_sem, envP, ↓reduceIte, Nat.reduceEqDiff, Nat.reduceAdd, Nat.reduceLT, d1, Tryz.results15, decide_eq_false hne]
end Go.Proofs.YtpdhkcakoekdgaaGreatDoor
