/- ScriptWords: Run of one line that is refused at its first token. -/
import Derived.Test.YtiagmokcjljliaaGreatDoorC3
namespace Go.Proofs.YtiagmokcjljliaaGreatDoor
set_option linter.unusedVariables false
set_option linter.unusedSimpArgs false
set_option maxRecDepth 100000
open Go Go.Ab

/-- What is said of an errno. -/
def errI (z : Int) : List UInt8 :=
  if z = 5 then b8 [101, 114, 114, 111, 114, 32, 53] else
  if z = 20 then b8 [101, 114, 114, 111, 114, 32, 50, 48] else
  if z = 21 then b8 [101, 114, 114, 111, 114, 32, 50, 49] else
  if z = 22 then b8 [101, 114, 114, 111, 114, 32, 50, 50] else
  if z = 23 then b8 [101, 114, 114, 111, 114, 32, 50, 51] else
  if z = 26 then b8 [101, 114, 114, 111, 114, 32, 50, 54] else
  b8 [101, 114, 114, 111, 114, 32, 54, 50]
def errL : List Int := [5, 20, 21, 22, 23, 26, 62]
theorem err_mem {z : Int} (h : errL.contains z = true) : z = 5 ∨ z = 20 ∨ z = 21 ∨ z = 22 ∨ z = 23 ∨ z = 26 ∨ z = 62 := by
  have := List.contains_iff_mem.1 h
  simpa [errL] using this
theorem calls_C {f : FuncId} {args : List AV} {v : AV} (h : closedCall Tryz.prog (execF envC 200) f args = some v) (H : AHeap) : CallsA Tryz.prog f args H v H := calls_of_closed envCOk (run_of 200 h) H
/-- said, as a contract -/
def toldX : CallO := fun f args H => match args with
  | [.int .i64 z] => if (f == 22 && errL.contains z) = true then some (.vec .full [.str (errI z)], H) else none
  | _ => none
theorem toldX_ok : CallOk Tryz.prog toldX := by
  intro f args H v H' h
  unfold toldX at h
  split at h
  · rename_i z
    split at h
    · rename_i hf
      simp only [Option.some.injEq, Prod.mk.injEq] at h
      obtain ⟨rfl, rfl⟩ := h
      simp only [Bool.and_eq_true, beq_iff_eq] at hf
      obtain ⟨rfl, hz⟩ := hf
      refine ⟨callB 22 _ Tryz.func22 (by kernel_rfl) (by kernel_rfl), ?_⟩
      rcases err_mem hz with rfl | rfl | rfl | rfl | rfl | rfl | rfl
      · exact calls_C told5 H
      · exact calls_C told20 H
      · exact calls_C told21 H
      · exact calls_C told22 H
      · exact calls_C told23 H
      · exact calls_C told26 H
      · exact calls_C told62 H
    · cases h
  · cases h
/-- Said, as a contract -/
def sayX : CallO := fun f args H => match args with
  | [.int .i64 z] => if (f == 8 && errL.contains z) = true then some (.str (errI z), H) else none
  | _ => none
theorem sayX_ok : CallOk Tryz.prog sayX := by
  intro f args H v H' h
  unfold sayX at h
  split at h
  · rename_i z
    split at h
    · rename_i hf
      simp only [Option.some.injEq, Prod.mk.injEq] at h
      obtain ⟨rfl, rfl⟩ := h
      simp only [Bool.and_eq_true, beq_iff_eq] at hf
      obtain ⟨rfl, hz⟩ := hf
      refine ⟨callB 8 _ Tryz.func8 (by kernel_rfl) (by kernel_rfl), ?_⟩
      rcases err_mem hz with rfl | rfl | rfl | rfl | rfl | rfl | rfl
      · exact calls_C said5 H
      · exact calls_C said20 H
      · exact calls_C said21 H
      · exact calls_C said22 H
      · exact calls_C said23 H
      · exact calls_C said26 H
      · exact calls_C said62 H
    · cases h
  · cases h
theorem same_e {z : Int} (hz : errL.contains z = true) (H : AHeap) : CallsA Tryz.prog 6 [.vec .ro [.str (errI z)], .vec .full [.str (errI z)]] H (.bool true) H := by
  rcases err_mem hz with rfl | rfl | rfl | rfl | rfl | rfl | rfl
  · exact calls_C same5 H
  · exact calls_C same20 H
  · exact calls_C same21 H
  · exact calls_C same22 H
  · exact calls_C same23 H
  · exact calls_C same26 H
  · exact calls_C same62 H
/-- same, as a contract. -/
def sameErrX : CallO := fun f args H => match args with
  | [.vec .ro [.str x], .vec .full [.str y]] => if (f == 6 && (decide (x = y) && errL.any fun z => decide (x = errI z))) = true then some (.bool true, H) else none
  | _ => none
theorem sameErrX_ok : CallOk Tryz.prog sameErrX := by
  intro f args H v H' h
  unfold sameErrX at h
  split at h
  · rename_i x y
    split at h
    · rename_i hf
      simp only [Option.some.injEq, Prod.mk.injEq] at h
      obtain ⟨rfl, rfl⟩ := h
      simp only [Bool.and_eq_true, beq_iff_eq, decide_eq_true_eq, List.any_eq_true] at hf
      obtain ⟨rfl, rfl, z, hz, rfl⟩ := hf
      exact ⟨callB 6 _ Tryz.func6 (by kernel_rfl) (by kernel_rfl), same_e (List.contains_iff_mem.2 hz) H⟩
    · cases h
  · cases h

/-- New, run. -/
noncomputable def newX : CallO := fun f args H => if f = 12 then execF envC 200 12 args H else none
theorem newX_ok : CallOk Tryz.prog newX := by
  intro f args H v H' h
  unfold newX at h
  split at h
  · rename_i hf
    subst hf
    exact execF_sound envCOk 200 12 args H v H' h
  · cases h
def newB : Option (AV × AHeap) → Bool
  | some (.tup [.ptr _ o, .int .i64 z], _) => o == 0 && z == 0
  | _ => false
theorem newB_of {r : Option (AV × AHeap)} (h : newB r = true) : ∃ k H, r = some (.tup [.ptr k 0, .int .i64 0], H) := by
  unfold newB at h
  split at h
  · simp only [Bool.and_eq_true, beq_iff_eq] at h
    obtain ⟨rfl, rfl⟩ := h
    exact ⟨_, _, rfl⟩
  · cases h
theorem newOk : ∃ k H, newX 12 [.int .i64 50] .empty = some (.tup [.ptr k 0, .int .i64 0], H) := newB_of (by kernel_rfl)

/-! The environment -/
def goodW : List FuncId := [7, 13]
noncomputable def extW : CallO := orX lexX (orX toldX newX)
noncomputable def envW : Env := { P := Tryz.prog, G := fun f => goodW.contains f, cl := fun _ => false, mutT := fun _ => false, dyn := fun _ => true, df := fun _ => false, ext := extW }
theorem all_okW : goodW.all (okF envW) = true := by kernel_rfl
theorem envWOk : EnvOk envW where
  mixed := mixed
  good := fun f hf => okF_good (List.all_eq_true.1 all_okW f (List.contains_iff_mem.1 hf))
  ext := orX_ok lexX_ok (orX_ok toldX_ok newX_ok)
theorem envWP : envW.P = Tryz.prog := (rfl)
theorem mutW (t : TypeId) : envW.mutT t = false := (rfl)
theorem callW (f : FuncId) (call : CallO) (args : List AV) (H : AHeap) : callA envW call (.fn (.func f) [] []) args H = call f args H := callA_open (E := envW) rfl args
theorem run21W (l : List UInt8) (H : AHeap) : run envW 21 [.str l] H = some (lexV (lex l), H) := by
  rw [run_ext (E := envW) (by kernel_rfl)]
  rfl
theorem run22W {z : Int} (hz : errL.contains z = true) (H : AHeap) : run envW 22 [.int .i64 z] H = some (.vec .full [.str (errI z)], H) := by
  rw [run_ext (E := envW) (by kernel_rfl)]
  show orX lexX (orX toldX newX) 22 [.int .i64 z] H = _
  simp only [orX, lexX, toldX, hz, Bool.and_true, beq_self_eq_true, if_true]
theorem run12W : ∃ k H, run envW 12 [.int .i64 50] ⟨0, []⟩ = some (.tup [.ptr k 0, .int .i64 0], H) := by
  obtain ⟨k, H, h⟩ := newOk
  refine ⟨k, H, ?_⟩
  rw [run_ext (E := envW) (by kernel_rfl)]
  show orX lexX (orX toldX newX) 12 [.int .i64 50] .empty = _
  simp only [orX, lexX, toldX, show ((12 : Nat) == 22) = false from rfl, Bool.false_and, Bool.false_eq_true, if_false]
  exact h
attribute [go_sem] mutW callW

/-- What a line is refused with. -/
def wrong (l : List UInt8) : Option Nat := match lex l with
  | .error (e, _) => some e
  | .ok [] => none
  | .ok (t :: _) => if t.1 = 1 then none else some 62
theorem wrong_mem {l : List UInt8} {e : Nat} (h : wrong l = some e) : errL.contains (e : Int) = true := by
  unfold wrong at h
  split at h
  · rename_i e' a hl
    have := lex_err hl
    simp only [Option.some.injEq] at h
    subst h
    simp only [List.mem_cons, List.not_mem_nil, or_false] at this
    rcases this with rfl | rfl | rfl | rfl | rfl | rfl <;> rfl
  · cases h
  · split at h
    · cases h
    · simp only [Option.some.injEq] at h
      subst h
      rfl
theorem tok_ix (t : Tok) (r : List Tok) (o : Ab.Own) : indexAddrA Tryz.prog 22 (.vec o (V (t :: r))) (.int .i64 0) = some (.rptr [.int .i64 (t.1 : Int), .int .i64 (t.2.1 : Int), .str t.2.2.1, .str t.2.2.2]) := by
  have h0 := stride22 (t :: r)
  simp only [V, List.map_cons] at h0 ⊢
  simp [indexAddrA, elem22, sz31, tokA, AV.width, AV.cells, h0]

theorem fr31_0 (a b c d : AV) : fieldAddrA Tryz.prog 31 0 (.rptr [a, b, c, d]) = some (.rptr [a, b, c, d]) := by simp [fieldAddrA, fields31, sz3]
theorem fr31_3 (a b c d : AV) : fieldAddrA Tryz.prog 31 3 (.rptr [a, b, c, d]) = some (.rptr [d]) := by simp [fieldAddrA, fields31, sz9]
attribute [go_sem] fr31_0 fr31_3
noncomputable def T13 : Code := match Tryz.f13.body with | some (.seq _ (.seq _ (.seq _ (.seq _ (.seq _ t))))) => t | _ => .skip
theorem ofV_nilp : ofV (.pointer none) = .val (.pointer none) := (rfl)
theorem nil_ptr (k : Nat) : binA Tryz.prog .eql 37 (.ptr k 0) (.val (.pointer none)) = some (.bool false) := by rfl
theorem do13 {l : List UInt8} {e : Nat} (h : wrong l = some e) (k : Nat) (H : AHeap) : run envW 13 [.ptr k 0, .str l] H = some (.vec .full [.str (errI e)], H) := by
  have hm := wrong_mem h
  have x1 := run21W l H
  have x2 := run22W hm H
  refine open_eq (E := envW) (f := 13) (fn := Tryz.f13) (c := .seq _ (.seq (.seq _ _) (.seq _ (.seq (.seq _ _) (.seq (.seq _ _) T13))))) (by kernel_rfl) rfl Tryz.func13 rfl (by rw [Tryz.ntmps13]; simp) ?_
  unfold wrong at h
  split at h
  · rename_i e' a hl
    simp only [Option.some.injEq] at h
    subst h
    rw [hl] at x1
    have hne : ((e' : Int) != 0) = true := by
      rcases err_mem hm with h | h | h | h | h | h | h <;> rw [h] <;> rfl
    simp only [lexV] at x1
    simp only [go_sem, envWP, ↓reduceIte, Nat.reduceEqDiff, Nat.reduceAdd, Nat.reduceLT, x1, x2, extractA, hne, nil_ptr, ofV_nilp, Tryz.results13]
  · cases h
  · rename_i t r hl
    split at h
    · cases h
    · rename_i ht
      simp only [Option.some.injEq] at h
      subst h
      rw [hl] at x1
      have hty := first_type hl ht
      simp only [lexV] at x1
      have hne : ((t.1 : Int) != 1) = true := by
        have hb := beqN t.1 1
        rw [decide_eq_false ht] at hb
        exact congrArg not hb
      have z0 : ((0 : Int) != 0) = false := rfl
      have hn2 : strBin .neq t.2.2.2 [116, 121, 112, 101] = some (.bool true) := by simp [strBin, hty]
      have ix := tok_ix t r .ro
      have x2 : run envW 22 [.int .i64 62] H = some (.vec .full [.str (errI ((62 : Nat) : Int))], H) := run22W (z := 62) rfl H
      simp only [go_sem, envWP, ↓reduceIte, Nat.reduceEqDiff, Nat.reduceAdd, Nat.reduceLT, x1, x2, extractA, hne, z0, ix, hn2, nil_ptr, ofV_nilp, Tryz.results13]

/-! Run -/
noncomputable def B7 : Code := match Tryz.f7.body with | some (.seq _ (.seq _ (.seq _ (.seq (.seq _ (.block _ (.loop c))) _)))) => c | _ => .skip
noncomputable def K7 : Code := match Tryz.f7.body with | some (.seq _ (.seq _ (.seq _ (.seq _ k)))) => k | _ => .skip
theorem zero9 : zeroQ Tryz.prog 9 = some [.str []] := by kernel_rfl
theorem by9 : byQ Tryz.prog 9 = some 16 := by kernel_rfl
theorem stride27 (l : List (List UInt8)) : strideQ Tryz.prog 27 (S l) = true := by
  cases l <;> simp [strideQ, elem27, sz9, S, AV.width]
theorem app27 (s : List UInt8) (m : Nat) (L : List (Nat × AObj)) : appendA (fun _ => false) Tryz.prog 27 27 (.vec .nil []) (.vec .full [.str s]) ⟨m, L⟩ = some (.vec (.own m) [.str s], ⟨m + 1, (m, .tip 1 9) :: L⟩) := by
  have h0 := stride27 []
  have h1 := stride27 [s]
  simp only [S, List.map_nil, List.map_cons] at h0 h1
  simp [appendA, elem27, sz9, by9, zero9, persist, appendVec, h0, h1, AHeap.push]
structure I7 (l : List UInt8) (e : Nat) (k m : Nat) (L : List (Nat × AObj)) (d : Nat) (α : Frm) (H : AHeap) : Prop where
  a12 : α 12 = .vec .full [.str l]
  a13 : α 13 = .int .i64 1
  a3 : α 3 = .ptr k 0
  at' : (d = 1 ∧ H = ⟨m, L⟩ ∧ α 14 = .int .i64 0 ∧ α 5 = .vec .nil []) ∨ (d = 0 ∧ α 14 = .int .i64 1 ∧ ∃ j, α 5 = .vec (.own j) [.str (errI e)])
def P7 (e : Nat) (x : Ex) (α : Frm) (H : AHeap) : Prop := x = .exit 0 ∧ ∃ j, α 5 = .vec (.own j) [.str (errI e)]
theorem round7 {l : List UInt8} {e : Nat} (h : wrong l = some e) (k m : Nat) (L : List (Nat × AObj)) (d : Nat) (α : Frm) (H : AHeap) (hI : I7 l e k m L d α H) :
    okR (execC envW (run envW) loopO B7 α H) fun x α' H' => (x = .normal ∧ ∃ d', d' < d ∧ I7 l e k m L d' α' H') ∨ (x ≠ .normal ∧ P7 e x α' H') := by
  obtain ⟨a12, a13, a3, h5⟩ := hI
  have hB : B7 = .seq _ (.seq _ (.seq (.block _ (.seq _ _)) _)) := rfl
  rw [hB]
  clear hB
  have x2 := do13 h k ⟨m, L⟩
  rcases h5 with ⟨rfl, rfl, a14, a5⟩ | ⟨rfl, a14, j, a5⟩
  · have e1 : decide ((0 : Int) < 1) = true := rfl
    have w1 : IntKind.i64.wrap ((0 : Int) + 1) = 1 := rfl
    have ix : indexAddrA Tryz.prog 27 (.vec .full [.str l]) (.int .i64 0) = some (.rptr [.str l]) := ix27 (l := [l]) (i := 0) .full rfl
    have ap := app27 (errI e) m L
    have ao : ∀ x y H, appendOp envW.mutT Tryz.prog [27, 27] [x, y] H = appendA (fun _ => false) Tryz.prog 27 27 x y H := fun _ _ _ => rfl
    simp only [go_sem, envWP, ↓reduceIte, Nat.reduceEqDiff, Nat.reduceAdd, Nat.reduceLT, a12, a13, a14, a3, a5, e1, w1, ix, x2, ao, ap]
    refine .inl ⟨trivial, 0, by omega, ?_, ?_, ?_, .inr ⟨rfl, ?_, m, ?_⟩⟩
    all_goals simp only [go_sem, ↓reduceIte, Nat.reduceEqDiff, a12, a13, a3]
  · have e1 : decide ((1 : Int) < 1) = false := rfl
    simp only [go_sem, envWP, ↓reduceIte, Nat.reduceEqDiff, Nat.reduceAdd, Nat.reduceLT, a13, a14, e1]
    refine .inr ⟨by simp, rfl, j, ?_⟩
    simp only [go_sem, ↓reduceIte, Nat.reduceEqDiff, a5]
theorem len1 (l : List UInt8) : lenA Tryz.prog #[27] [.vec .full [.str l]] = some (.int .i64 1) := len27 .full [l]

attribute [go_sem] len1
theorem run7 {l : List UInt8} {e : Nat} (h : wrong l = some e) : closedCall Tryz.prog (run envW) 7 [.vec .full [.str l]] = some (.vec .ro [.str (errI e)]) := by
  obtain ⟨k, ⟨m, L⟩, x1⟩ := run12W
  refine closed_ex (E := envW) (fn := Tryz.f7) (c := .seq _ (.seq _ (.seq _ (.seq (.seq _ (.block 0 (.loop B7))) K7)))) (by kernel_rfl) rfl Tryz.func7 rfl (by rw [Tryz.ntmps7]; simp) (args' := [.vec .full [.str l]]) rfl rfl ?_ rfl
  simp only [go_sem, envWP, ↓reduceIte, Nat.reduceEqDiff, Nat.reduceAdd, Nat.reduceLT, x1, extractA]
  refine block_ret ?_
  rw [xc_loop']
  refine okR_imp (loop_meas (I7 l e k m L) (P7 e) (fun d α H hh => round7 h k m L d α H hh) 1 _ _ ⟨?_, ?_, ?_, .inl ⟨rfl, rfl, ?_, ?_⟩⟩) ?_
  case refine_6 =>
    rintro x α' H' ⟨rfl, j, a5⟩
    refine .inl ⟨.inr rfl, ?_⟩
    have hK : K7 = .seq _ .ret := rfl
    rw [hK]
    clear hK
    simp only [go_sem, envWP, ↓reduceIte, Nat.reduceEqDiff, Nat.reduceAdd, Nat.reduceLT, a5, Tryz.results7]
    exact ⟨_, rfl, rfl⟩
  all_goals (simp only [go_sem, ↓reduceIte, Nat.reduceEqDiff]; try rfl)
end Go.Proofs.YtiagmokcjljliaaGreatDoor
