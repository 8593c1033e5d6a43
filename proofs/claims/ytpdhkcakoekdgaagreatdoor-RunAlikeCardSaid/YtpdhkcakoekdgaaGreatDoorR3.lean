/- RunAlike: the functions between. -/
import Derived.Test.YtpdhkcakoekdgaaGreatDoorR2
namespace Go.Proofs.YtpdhkcakoekdgaaGreatDoor
set_option linter.unusedVariables false
set_option linter.unusedSimpArgs false
open Go Go.Ab

theorem fields28 : fieldsQ Tryz.prog 28 = some [(0, 22), (1, 26), (6, 23), (7, 3)] := by kernel_rfl
theorem fields36 : fieldsQ Tryz.prog 36 = some [(0, 3), (1, 34), (6, 23), (7, 3)] := by kernel_rfl
theorem sz22 : szQ Tryz.prog 22 = some 1 := by kernel_rfl
theorem sz3 : szQ Tryz.prog 3 = some 1 := by kernel_rfl
theorem sz23 : szQ Tryz.prog 23 = some 1 := by kernel_rfl
theorem sz26 : szQ Tryz.prog 26 = some 5 := by kernel_rfl
theorem sz34 : szQ Tryz.prog 34 = some 5 := by kernel_rfl
theorem sz28 : szQ Tryz.prog 28 = some 8 := by kernel_rfl
theorem sz36 : szQ Tryz.prog 36 = some 8 := by kernel_rfl
theorem agg22 : aggQ Tryz.prog 22 = some false := by kernel_rfl
theorem agg3 : aggQ Tryz.prog 3 = some false := by kernel_rfl
theorem agg23 : aggQ Tryz.prog 23 = some false := by kernel_rfl
theorem agg26 : aggQ Tryz.prog 26 = some true := by kernel_rfl
theorem agg34 : aggQ Tryz.prog 34 = some true := by kernel_rfl
theorem agg28 : aggQ Tryz.prog 28 = some true := by kernel_rfl
theorem agg36 : aggQ Tryz.prog 36 = some true := by kernel_rfl
theorem fa28_0 (id o : Nat) : fieldAddrA Tryz.prog 28 0 (.ptr id o) = some (.ptr id o) := fa_ptr fields28 0 id o rfl sz22
theorem fa28_1 (id o : Nat) : fieldAddrA Tryz.prog 28 1 (.ptr id o) = some (.ptr id (o + 1)) := fa_ptr fields28 1 id o rfl sz26
theorem fa28_2 (id o : Nat) : fieldAddrA Tryz.prog 28 2 (.ptr id o) = some (.ptr id (o + 6)) := fa_ptr fields28 2 id o rfl sz23
theorem fa28_3 (id o : Nat) : fieldAddrA Tryz.prog 28 3 (.ptr id o) = some (.ptr id (o + 7)) := fa_ptr fields28 3 id o rfl sz3
theorem fa36_0 (id o : Nat) : fieldAddrA Tryz.prog 36 0 (.ptr id o) = some (.ptr id o) := fa_ptr fields36 0 id o rfl sz3
theorem fa36_1 (id o : Nat) : fieldAddrA Tryz.prog 36 1 (.ptr id o) = some (.ptr id (o + 1)) := fa_ptr fields36 1 id o rfl sz34
theorem fa36_2 (id o : Nat) : fieldAddrA Tryz.prog 36 2 (.ptr id o) = some (.ptr id (o + 6)) := fa_ptr fields36 2 id o rfl sz23
theorem ld3 (cs : List AV) (off : Nat) : ldA Tryz.prog 3 cs off = cs[off]? := ld_one agg3 cs off
theorem ld22 (cs : List AV) (off : Nat) : ldA Tryz.prog 22 cs off = cs[off]? := ld_one agg22 cs off
theorem ld23 (cs : List AV) (off : Nat) : ldA Tryz.prog 23 cs off = cs[off]? := ld_one agg23 cs off
theorem ld26 (x0 x1 x2 x3 x4 x5 x6 x7 : AV) : ldA Tryz.prog 26 [x0, x1, x2, x3, x4, x5, x6, x7] 1 = some (.agg [x1, x2, x3, x4, x5]) := by simp [ld_agg agg26 sz26]
theorem ld34 (x0 x1 x2 x3 x4 x5 x6 x7 : AV) : ldA Tryz.prog 34 [x0, x1, x2, x3, x4, x5, x6, x7] 1 = some (.agg [x1, x2, x3, x4, x5]) := by simp [ld_agg agg34 sz34]
theorem ld28 (x0 x1 x2 x3 x4 x5 x6 x7 : AV) : ldA Tryz.prog 28 [x0, x1, x2, x3, x4, x5, x6, x7] 0 = some (.agg [x0, x1, x2, x3, x4, x5, x6, x7]) := by simp [ld_agg agg28 sz28]
theorem ld36 (x0 x1 x2 x3 x4 x5 x6 x7 : AV) : ldA Tryz.prog 36 [x0, x1, x2, x3, x4, x5, x6, x7] 0 = some (.agg [x0, x1, x2, x3, x4, x5, x6, x7]) := by simp [ld_agg agg36 sz36]

theorem ao_nil : allOne [] = true := (rfl)
theorem ao_cons (c : AV) (cs : List AV) : allOne (c :: cs) = (c.one && allOne cs) := (rfl)
theorem on_int (k : IntKind) (a : Int) : (AV.int k a).one = true := (rfl)
theorem on_any : AV.any.one = true := (rfl)
theorem on_str (l : List UInt8) : (AV.str l).one = true := (rfl)
theorem on_vec (o : Ab.Own) (l : List AV) : (AV.vec o l).one = true := (rfl)

def st8 (n : Nat) (l : List (Nat × AObj)) (id off : Nat) (ys : List AV) (q : Option (List AV)) (o : Option AObj) : Option (AV × AHeap) :=
  match q with
  | some cs => if off + ys.length ≤ cs.length then some (undefA, ⟨n, setL l id (reObj o (overlay cs off ys))⟩) else none
  | none => none
@[congr] theorem st8_congr {n : Nat} {l : List (Nat × AObj)} {id off : Nat} {ys : List AV} {q q' : Option (List AV)} {o o' : Option AObj} (h : q = q') (h2 : o = o') : st8 n l id off ys q o = st8 n l id off ys q' o' := by rw [h, h2]
theorem st8_8 (n : Nat) (l : List (Nat × AObj)) (id : Nat) (o : Option AObj) (y0 y1 y2 y3 y4 y5 y6 y7 x0 x1 x2 x3 x4 x5 x6 x7 : AV) : st8 n l id 0 [y0, y1, y2, y3, y4, y5, y6, y7] (some [x0, x1, x2, x3, x4, x5, x6, x7]) o = some (undefA, ⟨n, setL l id (reObj o [y0, y1, y2, y3, y4, y5, y6, y7])⟩) := (rfl)
theorem st8_5 (n : Nat) (l : List (Nat × AObj)) (id : Nat) (o : Option AObj) (y0 y1 y2 y3 y4 x0 x1 x2 x3 x4 x5 x6 x7 : AV) : st8 n l id 1 [y0, y1, y2, y3, y4] (some [x0, x1, x2, x3, x4, x5, x6, x7]) o = some (undefA, ⟨n, setL l id (reObj o [x0, y0, y1, y2, y3, y4, x6, x7])⟩) := (rfl)
theorem st_agg {t : TypeId} {n : Nat} {l : List (Nat × AObj)} {id off : Nat} {ys : List AV} (hsz : szQ Tryz.prog t = some ys.length) (h1 : allOne ys = true) : storeA Tryz.prog t (.ptr id off) (.agg ys) ⟨n, l⟩ = if id < n then st8 n l id off ys (cellsQ l id) (getL l id) else none := by
  rw [store_ptr]
  by_cases h : id < n
  · simp only [h, if_true]
    cases cellsQ l id with
    | none => rfl
    | some cs => simp [bnd, st8, hsz, AV.width, AV.cells, h1]
  · simp only [h, if_false]
theorem st28 (n : Nat) (l : List (Nat × AObj)) (id : Nat) (y0 y1 y2 y3 y4 y5 y6 y7 : AV) (h1 : allOne [y0, y1, y2, y3, y4, y5, y6, y7] = true) : storeA Tryz.prog 28 (.ptr id 0) (.agg [y0, y1, y2, y3, y4, y5, y6, y7]) ⟨n, l⟩ = if id < n then st8 n l id 0 [y0, y1, y2, y3, y4, y5, y6, y7] (cellsQ l id) (getL l id) else none := st_agg sz28 h1
theorem st36 (n : Nat) (l : List (Nat × AObj)) (id : Nat) (y0 y1 y2 y3 y4 y5 y6 y7 : AV) (h1 : allOne [y0, y1, y2, y3, y4, y5, y6, y7] = true) : storeA Tryz.prog 36 (.ptr id 0) (.agg [y0, y1, y2, y3, y4, y5, y6, y7]) ⟨n, l⟩ = if id < n then st8 n l id 0 [y0, y1, y2, y3, y4, y5, y6, y7] (cellsQ l id) (getL l id) else none := st_agg sz36 h1
theorem st26 (n : Nat) (l : List (Nat × AObj)) (id : Nat) (y0 y1 y2 y3 y4 : AV) (h1 : allOne [y0, y1, y2, y3, y4] = true) : storeA Tryz.prog 26 (.ptr id 1) (.agg [y0, y1, y2, y3, y4]) ⟨n, l⟩ = if id < n then st8 n l id 1 [y0, y1, y2, y3, y4] (cellsQ l id) (getL l id) else none := st_agg sz26 h1
theorem zero28 : zeroQ Tryz.prog 28 = some [.int .i64 0, .int .i64 0, .int .i64 0, .str [], .vec .nil [], .vec .nil [], .vec .nil [], .int .i64 0] := by kernel_rfl
theorem zero36 : zeroQ Tryz.prog 36 = some [.int .i64 0, .int .i64 0, .int .i64 0, .str [], .vec .nil [], .vec .nil [], .vec .nil [], .int .i64 0] := by kernel_rfl
theorem alloc28 (n : Nat) (l : List (Nat × AObj)) : allocA Tryz.prog 28 ⟨n, l⟩ = some (.ptr n 0, ⟨n + 1, (n, .cells (some 28) [.int .i64 0, .int .i64 0, .int .i64 0, .str [], .vec .nil [], .vec .nil [], .vec .nil [], .int .i64 0]) :: l⟩) := by simp [allocA, zero28, AHeap.push]
theorem alloc36 (n : Nat) (l : List (Nat × AObj)) : allocA Tryz.prog 36 ⟨n, l⟩ = some (.ptr n 0, ⟨n + 1, (n, .cells (some 36) [.int .i64 0, .int .i64 0, .int .i64 0, .str [], .vec .nil [], .vec .nil [], .vec .nil [], .int .i64 0]) :: l⟩) := by simp [allocA, zero36, AHeap.push]
theorem call5 (call : CallO) (args : List AV) (H : AHeap) : callA env2 call (.fn (.func 5) [] []) args H = bnd (closedCall Tryz.prog call 5 args) fun v => some (v, H) := callA_closed rfl args
theorem call6 (call : CallO) (args : List AV) (H : AHeap) : callA env2 call (.fn (.func 6) [] []) args H = bnd (closedCall Tryz.prog call 6 args) fun v => some (v, H) := callA_closed rfl args
theorem call7 (call : CallO) (args : List AV) (H : AHeap) : callA env2 call (.fn (.func 7) [] []) args H = bnd (closedCall Tryz.prog call 7 args) fun v => some (v, H) := callA_closed rfl args
theorem call8 (call : CallO) (args : List AV) (H : AHeap) : callA env2 call (.fn (.func 8) [] []) args H = bnd (closedCall Tryz.prog call 8 args) fun v => some (v, H) := callA_closed rfl args
theorem call14 (call : CallO) (args : List AV) (H : AHeap) : callA env2 call (.fn (.func 14) [] []) args H = bnd (closedCall Tryz.prog call 14 args) fun v => some (v, H) := callA_closed rfl args
theorem call15 (call : CallO) (args : List AV) (H : AHeap) : callA env2 call (.fn (.func 15) [] []) args H = bnd (closedCall Tryz.prog call 15 args) fun v => some (v, H) := callA_closed rfl args
theorem call16 (call : CallO) (args : List AV) (H : AHeap) : callA env2 call (.fn (.func 16) [] []) args H = bnd (closedCall Tryz.prog call 16 args) fun v => some (v, H) := callA_closed rfl args
theorem call17 (call : CallO) (args : List AV) (H : AHeap) : callA env2 call (.fn (.func 17) [] []) args H = bnd (closedCall Tryz.prog call 17 args) fun v => some (v, H) := callA_closed rfl args
theorem build36 (a : Int) (l : List (List UInt8)) : buildA Tryz.prog 36 [(0, .int .i64 a), (1, .agg z5), (2, .vec .ro (S l)), (3, .any)] = some (.agg [.int .i64 a, .int .i64 0, .int .i64 0, .str [], .vec .nil [], .vec .nil [], .vec .ro (S l), .any]) := by kernel_rfl
theorem build28 : buildA Tryz.prog 28 [] = some (.agg [.int .i64 0, .int .i64 0, .int .i64 0, .str [], .vec .nil [], .vec .nil [], .vec .nil [], .int .i64 0]) := by kernel_rfl
theorem ba_any : AV.any.bare = .any := (rfl)
theorem z5_eq : z5 = [.int .i64 0, .int .i64 0, .str [], .vec .nil [], .vec .nil []] := (rfl)
theorem same14' : closedCall Tryz.prog (run env2) 14 [.agg [.int .i64 0, .int .i64 0, .str [], .vec .nil [], .vec .nil []], .agg [.int .i64 0, .int .i64 0, .str [], .vec .nil [], .vec .nil []]] = some (.bool true) := same14
theorem same16' : closedCall Tryz.prog (run env2) 16 [.agg [.int .i64 0, .int .i64 0, .str [], .vec .nil [], .vec .nil []], .agg [.int .i64 0, .int .i64 0, .str [], .vec .nil [], .vec .nil []]] = some (.bool true) := same16
theorem from17' : closedCall Tryz.prog (run env2) 17 [.agg [.int .i64 0, .int .i64 0, .str [], .vec .nil [], .vec .nil []]] = some (.agg [.int .i64 0, .int .i64 0, .str [], .vec .nil [], .vec .nil []]) := from17
theorem build36' (a : Int) (l : List (List UInt8)) : buildA Tryz.prog 36 [(0, .int .i64 a), (1, .agg [.int .i64 0, .int .i64 0, .str [], .vec .nil [], .vec .nil []]), (2, .vec .ro (S l)), (3, .any)] = some (.agg [.int .i64 a, .int .i64 0, .int .i64 0, .str [], .vec .nil [], .vec .nil [], .vec .ro (S l), .any]) := build36 a l
attribute [go_sem] fa28_0 fa28_1 fa28_2 fa28_3 fa36_0 fa36_1 fa36_2 ld3 ld22 ld23 ld26 ld34 ld28 ld36 ao_nil ao_cons on_int on_any on_str on_vec st8_8 st8_5 st28 st36 st26 alloc28 alloc36 call5 call6 call7 call8 call14 call15 call16 call17 build36' build28 ba_any same14' same16' from17' awake2

theorem un_not (b : Bool) : unA .not (.bool b) = some (.bool (!b)) := by cases b <;> exact (rfl)
attribute [go_sem] un_not Bool.not_true Bool.not_false

theorem so_field {E : Env} {call : CallO} {ρ : Operand → AV} {H : AHeap} (t : TypeId) (x : Operand) (f : Nat) : stepOp E call (.field t x f) ρ H = bnd (fieldA E.P t f (ρ x)) fun v => some (v, H) := (rfl)
theorem fld28 (x0 x1 x2 x3 x4 x5 x6 x7 : AV) : fieldA Tryz.prog 28 1 (.agg [x0, x1, x2, x3, x4, x5, x6, x7]) = some (.agg [x1, x2, x3, x4, x5]) := by
  simp only [fieldA, fields28, List.getElem?_cons_succ, List.getElem?_cons_zero, ld26]
theorem bb_eql (a b : Bool) : binA Tryz.prog .eql 4 (.bool a) (.bool b) = some (.bool (a == b)) := by
  have h1 : aggQ Tryz.prog 4 = some false := by kernel_rfl
  have h2 : eqQ Tryz.prog 4 4 = some [.bool] := by kernel_rfl
  simp [binA, h1, h2, eqBin]
attribute [go_sem ↓] so_field
attribute [go_sem] fld28 bb_eql

/-- A result whose value is the zero value. -/
def R (a : Int) (l : List (List UInt8)) : List AV := [.int .i64 a, .int .i64 0, .int .i64 0, .str [], .vec .nil [], .vec .nil [], .vec .ro (S l), .any]
theorem R_np (a : Int) (l : List (List UInt8)) : AV.noPtr.go (R a l) = true := by
  simp [R, AV.noPtr, AV.noPtr.go, S_noPtr]

theorem from8 (a : Int) (l : List (List UInt8)) : closedCall Tryz.prog (run env2) 8 [.agg (R a l)] = some (.agg (R a l)) := by
  refine closed_of (v := .agg (R a l)) (fn := Tryz.f8) rfl rfl Tryz.func8 rfl (by rw [Tryz.ntmps8]; simp) (args' := [.agg (R a l)]) rfl (by simp [AV.noPtr, AV.noPtr.go, R_np]) ?_ rfl (by simp [AV.noPtr, R_np])
  unfold R
  simp only [go_sem, Tryz.results8, envP, ↓reduceIte, Nat.reduceEqDiff, Nat.reduceAdd, Nat.reduceLT]

theorem alike6 (a b : Int) (l m : List (List UInt8)) (hn : l.length ≤ 9223372036854775807) : closedCall Tryz.prog (run env2) 6 [.agg (R a l), .agg (R b m)] = some (.bool (decide (a = b) && decide (l = m))) := by
  refine closed_of (v := .bool (decide (a = b) && decide (l = m))) (fn := Tryz.f6) rfl rfl Tryz.func6 rfl (by rw [Tryz.ntmps6]; simp) (args' := [.agg (R a l), .agg (R b m)]) rfl (by simp [AV.noPtr, AV.noPtr.go, R_np]) ?_ rfl rfl
  unfold R
  have he := equal_c l m hn
  by_cases c : a = b
  · have d1 : (a == b) = true := by simp [c]
    simp only [go_sem, Tryz.results6, envP, ↓reduceIte, Nat.reduceEqDiff, Nat.reduceAdd, Nat.reduceLT, d1, decide_eq_true c, he, Bool.true_and]
  · have d1 : (a == b) = false := by simp [c]
    simp only [go_sem, Tryz.results6, envP, ↓reduceIte, Nat.reduceEqDiff, Nat.reduceAdd, Nat.reduceLT, d1, decide_eq_false c, Bool.false_and]

/-! ref.Alike -/
noncomputable def B7 : Code := match Tryz.f7.body with | some (.seq _ (.seq _ (.seq (.seq _ (.block _ (.loop c))) _))) => c | _ => .skip
noncomputable def LB7 : Code := .block 0 (.loop B7)
noncomputable def K7 : Code := match Tryz.f7.body with | some (.seq _ (.seq _ (.seq _ k))) => k | _ => .skip

structure I7 (a b : Int) (l m : List (List UInt8)) (d : Nat) (α : Frm) (H : AHeap) : Prop where
  ex : ∃ i : Nat, i + d = l.length ∧ α 5 = .int .i64 i ∧ ∀ j, j < i → l[j]? = m[j]?
  a2 : α 2 = .ptr 0 0
  a3 : α 3 = .ptr 1 0
  h : H = ⟨2, [(1, .cells none (R b m)), (0, .cells none (R a l))]⟩

set_option maxRecDepth 100000 in
theorem round7 (a b : Int) (l m : List (List UInt8)) (hab : l.length = m.length) (hn : l.length ≤ 9223372036854775807) (d : Nat) (α : Frm) (H : AHeap) (h : I7 a b l m d α H) :
    okR (execC env2 (run env2) loopO B7 α H) fun e α' H' => (e = .normal ∧ ∃ d', d' < d ∧ I7 a b l m d' α' H') ∨ (e ≠ .normal ∧ ((e = .exit 0 ∧ l = m) ∨ (e = .ret ∧ α' 4 = .bool false ∧ l ≠ m))) := by
  obtain ⟨⟨i, h1, a5, hq⟩, a2, a3, rfl⟩ := h
  have hB : B7 = .seq _ _ := rfl
  rw [hB]
  by_cases c : i < l.length
  · have e1 : decide ((i : Int) < (l.length : Int)) = true := decide_eq_true (by omega)
    have w1 : IntKind.i64.wrap ((i : Int) + 1) = ((i + 1 : Nat) : Int) := by rw [IntWalk.i64_in _ (by omega)]; omega
    have hx : l[i]? = some l[i] := List.getElem?_eq_getElem c
    have hy : m[i]? = some m[i] := List.getElem?_eq_getElem (by omega)
    have x1 := ix23 .ro hx
    have x2 := ix23 .ro hy
    by_cases c2 : l[i] = m[i]
    · have d1 : (l[i] == m[i]) = true := by simp [c2]
      simp only [R, go_sem, envP, ↓reduceIte, Nat.reduceEqDiff, Nat.reduceAdd, Nat.reduceLT, a2, a3, a5, e1, w1, x1, x2, d1, Bool.not_true]
      refine .inl ⟨trivial, d - 1, by omega, ⟨i + 1, by omega, ?_, fun j hj => ?_⟩, ?_, ?_, rfl⟩
      case refine_2 =>
        rcases Nat.lt_or_ge j i with h | h
        · exact hq j h
        · have : j = i := by omega
          subst this
          rw [hx, hy, c2]
      all_goals simp only [go_sem, ↓reduceIte, Nat.reduceEqDiff, a2, a3, a5]
    · have d1 : (l[i] == m[i]) = false := by simp [c2]
      simp only [R, go_sem, envP, ↓reduceIte, Nat.reduceEqDiff, Nat.reduceAdd, Nat.reduceLT, a2, a3, a5, e1, w1, x1, x2, d1, Bool.not_false]
      refine .inr ⟨by simp, .inr ⟨trivial, trivial, fun h => c2 ?_⟩⟩
      subst h
      rfl
  · have e1 : decide ((i : Int) < (l.length : Int)) = false := decide_eq_false (by omega)
    simp only [R, go_sem, envP, ↓reduceIte, Nat.reduceEqDiff, Nat.reduceAdd, Nat.reduceLT, a2, a3, a5, e1]
    refine .inr ⟨by simp, .inl ⟨trivial, List.ext_getElem? fun j => ?_⟩⟩
    rcases Nat.lt_or_ge j i with h | h
    · exact hq j h
    · rw [List.getElem?_eq_none (by omega), List.getElem?_eq_none (by omega)]

set_option maxRecDepth 100000 in
theorem alike7 (a b : Int) (l m : List (List UInt8)) (hn : l.length ≤ 9223372036854775807) : closedCall Tryz.prog (run env2) 7 [.agg (R a l), .agg (R b m)] = some (.bool (decide (a = b) && decide (l = m))) := by
  refine closed_of (v := .bool (decide (a = b) && decide (l = m))) (fn := Tryz.f7) (c := .seq _ (.seq (.seq _ _) (.seq (.seq _ LB7) K7))) rfl rfl Tryz.func7 rfl (by rw [Tryz.ntmps7]; simp) (args' := [.agg (R a l), .agg (R b m)]) rfl (by simp [AV.noPtr, AV.noPtr.go, R_np]) ?_ rfl rfl
  by_cases c1 : a = b
  · have d1 : (a != b) = false := by simp [c1]
    by_cases c : l.length = m.length
    · have d2 : ((l.length : Int) != (m.length : Int)) = false := by simp [c]
      refine out_of ?_
      simp only [R, go_sem, envP, ↓reduceIte, Nat.reduceEqDiff, Nat.reduceAdd, Nat.reduceLT, d1, d2, decide_eq_true c1, Bool.true_and]
      refine block_ret (id := 0) ?_
      rw [xc_loop']
      refine okR_imp (loop_meas (I7 a b l m) _ (fun d α H h => round7 a b l m c hn d α H h) l.length _ _ ⟨⟨0, by omega, ?_, fun j hj => absurd hj (by omega)⟩, ?_, ?_, rfl⟩) ?_
      case refine_4 =>
        rintro e α' H' (⟨rfl, h⟩ | ⟨rfl, h4, h⟩)
        · refine .inl ⟨.inr rfl, ?_⟩
          have hK : K7 = .seq _ _ := rfl
          rw [hK]
          simp only [go_sem, envP, ↓reduceIte, Nat.reduceEqDiff, Nat.reduceAdd, Nat.reduceLT, Tryz.results7, decide_eq_true h]
        · refine .inr ⟨rfl, ?_⟩
          simp only [go_sem, envP, ↓reduceIte, Nat.reduceEqDiff, Nat.reduceAdd, Nat.reduceLT, Tryz.results7, decide_eq_false h, h4]
      all_goals simp only [go_sem, ↓reduceIte, Nat.reduceEqDiff]
      rfl
    · have d2 : ((l.length : Int) != (m.length : Int)) = true := by simp; omega
      have hne : l ≠ m := fun h => c (by rw [h])
      simp only [R, go_sem, envP, ↓reduceIte, Nat.reduceEqDiff, Nat.reduceAdd, Nat.reduceLT, d1, d2, Tryz.results7, decide_eq_true c1, decide_eq_false hne, Bool.true_and]
  · have d1 : (a != b) = true := by simp [c1]
    simp only [R, go_sem, envP, ↓reduceIte, Nat.reduceEqDiff, Nat.reduceAdd, Nat.reduceLT, d1, Tryz.results7, decide_eq_false c1, Bool.false_and]

/-! The law -/
set_option maxRecDepth 100000 in
theorem runAlike_c (a b : Int) (l m : List (List UInt8)) (hl : l.length ≤ 9223372036854775807) (hm : m.length ≤ 9223372036854775807) :
    closedCall Tryz.prog (run env2) 3 [.agg [.int .i64 a, .any, .any, .any, .any, .any, .vec .ro (S l), .any], .agg [.int .i64 b, .any, .any, .any, .any, .any, .vec .ro (S m), .any]] = some (.bool true) := by
  refine closed_of (v := .bool true) (fn := Tryz.f3) rfl rfl Tryz.func3 rfl (by rw [Tryz.ntmps3]; simp) (args' := [.agg [.int .i64 a, .any, .any, .any, .any, .any, .vec .ro (S l), .any], .agg [.int .i64 b, .any, .any, .any, .any, .any, .vec .ro (S m), .any]]) rfl (by simp [AV.noPtr, AV.noPtr.go, S_noPtr]) ?_ rfl rfl
  have h6 := alike6 a b l m hl
  have h7 := alike7 a b l m hl
  have h66 := alike6 a a l l hl
  have h8 := from8 a l
  have h88 := from8 b m
  simp only [R, decide_true, Bool.and_self] at h6 h7 h66 h8 h88
  obtain ⟨q, hq⟩ : ∃ q, decide ((l.length : Int) > 100) = q := ⟨_, rfl⟩
  obtain ⟨q2, hq2⟩ : ∃ q, decide ((m.length : Int) > 100) = q := ⟨_, rfl⟩
  obtain ⟨r, hr⟩ : ∃ q, (decide (a = b) && decide (l = m)) = q := ⟨_, rfl⟩
  rw [hr] at h6 h7
  cases q
  · cases q2
    · have hrr : (r == r) = true := by simp
      simp only [go_sem, envP, ↓reduceIte, Nat.reduceEqDiff, Nat.reduceAdd, Nat.reduceLT, Tryz.results3, hq, hq2, h6, h7, h66, h8, h88, hrr]
    · simp only [go_sem, envP, ↓reduceIte, Nat.reduceEqDiff, Nat.reduceAdd, Nat.reduceLT, Tryz.results3, hq, hq2]
  · simp only [go_sem, envP, ↓reduceIte, Nat.reduceEqDiff, Nat.reduceAdd, Nat.reduceLT, Tryz.results3, hq, hq2]
end Go.Proofs.YtpdhkcakoekdgaaGreatDoor
