/- ImportsSort: the functions on slices of imports, on the machine. -/
import Derived.Test.YtkpnccaoolbeeaaGreatDoorPl
import Derived.Test.YtkpnccaoolbeeaaGreatDoorAc20
import Derived.Test.YtkpnccaoolbeeaaGreatDoorProg
import Derived.KernelRfl
import Derived.IntWalk
namespace Go.Proofs.YtkpnccaoolbeeaaGreatDoor
set_option linter.unusedVariables false
set_option linter.unusedSimpArgs false
open Go Go.Ab

def good2 : List FuncId := [3, 5, 6, 9, 10, 11, 26]
def closed2 : List FuncId := [3, 4, 5, 6, 11]
def awakeX : CallO := fun f args H => if f = 4 ∧ args.length = 0 then some (.bool true, H) else none
noncomputable def env2 : Env := { P := Tryz.prog, G := fun f => good2.contains f, cl := fun f => closed2.contains f, mutT := fun t => t == 22, dyn := fun _ => false, df := fun _ => false, ext := orX awakeX (sortX 12 13 srt) }
def okF (E : Env) (f : FuncId) : Bool :=
  match E.P.funcs[f]? with
  | some fn => match fn.body with
    | some c => !(fn.name == "runtime.NumGoroutine") && okC E fn.ntmps c
    | none => false
  | none => false
theorem all_ok2 : good2.all (okF env2) = true := by kernel_rfl
theorem envP : env2.P = Tryz.prog := (rfl)
theorem mutE (t : TypeId) : env2.mutT t = (t == 22) := (rfl)
theorem dynE (i : Nat) : env2.dyn i = false := (rfl)
attribute [go_sem] dynE

/-- An import: its module, its word, whether it is used. -/
abbrev Im := List UInt8 × List UInt8 × Bool
def encI (x : Im) : List AV := [.str x.1, .str x.2.1, .bool x.2.2]
def V (l : List Im) : List AV := l.map fun x => .agg (encI x)
theorem V_len (l : List Im) : (V l).length = l.length := by simp [V]
theorem V_at {l : List Im} {i : Nat} {x : Im} (h : l[i]? = some x) : (V l)[i]? = some (.agg (encI x)) := by simp [V, h]
theorem V_np : ∀ l : List Im, AV.noPtr.go (V l) = true
  | [] => rfl
  | x :: l => by
    show ((AV.agg (encI x)).noPtr && AV.noPtr.go (V l)) = true
    rw [V_np l]
    rfl
theorem V_wide : ∀ l : List Im, allWidth 3 (V l) = true
  | [] => rfl
  | x :: l => by
    show ((AV.agg (encI x)).width == some 3 && allWidth 3 (V l)) = true
    rw [V_wide l]
    rfl
def flat (l : List Im) : List AV := l.flatMap encI
theorem V_flat : ∀ l : List Im, (V l).flatMap AV.cells = flat l
  | [] => rfl
  | x :: l => by
    show AV.cells (.agg (encI x)) ++ (V l).flatMap AV.cells = encI x ++ flat l
    rw [V_flat l]
    rfl
theorem flat_len (l : List Im) : (flat l).length = l.length * 3 := by
  induction l with
  | nil => rfl
  | cons x l ih => simp only [flat, List.flatMap_cons, List.length_append, encI, List.length_cons, List.length_nil] at *; omega
theorem flat_cons (x : Im) (l : List Im) : flat (x :: l) = encI x ++ flat l := rfl
theorem flat_append (l m : List Im) : flat (l ++ m) = flat l ++ flat m := by simp [flat]
theorem flat_at : ∀ {l : List Im} {i : Nat} {x : Im}, l[i]? = some x → ((flat l).drop (i * 3)).take 3 = encI x
  | [], i, x, h => by simp at h
  | y :: l, 0, x, h => by
    simp only [List.getElem?_cons_zero, Option.some.injEq] at h
    subst h
    rfl
  | y :: l, i + 1, x, h => by
    rw [flat_cons, show (i + 1) * 3 = (encI y).length + i * 3 by simp [encI]; omega, List.drop_append, List.drop_of_length_le (by omega), Nat.add_sub_cancel_left, List.nil_append]
    exact flat_at (by simpa using h)
theorem flat_set : ∀ {l : List Im} {i : Nat} (x : Im), i < l.length → overlay (flat l) (i * 3) (encI x) = flat (l.set i x)
  | [], i, x, h => by simp at h
  | y :: l, 0, x, h => by simp [overlay, flat_cons, encI]
  | y :: l, i + 1, x, h => by
    have ih := flat_set (l := l) (i := i) x (by simpa using h)
    have hl : (encI y).length = 3 := rfl
    simp only [overlay, List.set_cons_succ, flat_cons, ← ih]
    rw [show (i + 1) * 3 = (encI y).length + i * 3 by rw [hl]; omega, List.take_append, List.take_of_length_le (by omega), Nat.add_sub_cancel_left, Nat.add_assoc, List.drop_append, List.drop_of_length_le (by omega), Nat.add_sub_cancel_left]
    simp

theorem elem22 : elemQ Tryz.prog 22 = some 26 := by kernel_rfl
theorem elem24 : elemQ Tryz.prog 24 = some 27 := by kernel_rfl
theorem sz26 : szQ Tryz.prog 26 = some 3 := by kernel_rfl
theorem sz27 : szQ Tryz.prog 27 = some 3 := by kernel_rfl
theorem by26 : byQ Tryz.prog 26 = some 40 := by kernel_rfl
theorem by27 : byQ Tryz.prog 27 = some 40 := by kernel_rfl
theorem agg26 : aggQ Tryz.prog 26 = some true := by kernel_rfl
theorem agg27 : aggQ Tryz.prog 27 = some true := by kernel_rfl
theorem agg9 : aggQ Tryz.prog 9 = some false := by kernel_rfl
theorem agg4 : aggQ Tryz.prog 4 = some false := by kernel_rfl
theorem zero26 : zeroQ Tryz.prog 26 = some [.str [], .str [], .bool false] := by kernel_rfl
theorem zero27 : zeroQ Tryz.prog 27 = some [.str [], .str [], .bool false] := by kernel_rfl
theorem fields26 : fieldsQ Tryz.prog 26 = some [(0, 9), (1, 9), (2, 4)] := by kernel_rfl
theorem fields27 : fieldsQ Tryz.prog 27 = some [(0, 9), (1, 9), (2, 4)] := by kernel_rfl
theorem sz9 : szQ Tryz.prog 9 = some 1 := by kernel_rfl
theorem sz4 : szQ Tryz.prog 4 = some 1 := by kernel_rfl
theorem len22v (o : Own) (es : List AV) : lenA Tryz.prog #[22] [.vec o es] = some (.int .i64 es.length) := by simp [lenA, elem22]
theorem len24v (o : Own) (es : List AV) : lenA Tryz.prog #[24] [.vec o es] = some (.int .i64 es.length) := by simp [lenA, elem24]
theorem len22s (a b c n : Nat) : lenA Tryz.prog #[22] [.sl a b c n] = some (.int .i64 n) := by simp [lenA, elem22]
theorem ix22 {l : List Im} {i : Nat} {x : Im} (o : Own) (h : l[i]? = some x) : indexAddrA Tryz.prog 22 (.vec o (V l)) (.int .i64 (i : Int)) = some (.rptr (encI x)) := by
  have := V_at h
  simp [indexAddrA, elem22, sz26, AV.width, AV.cells, this, encI]
theorem ix24 {l : List Im} {i : Nat} {x : Im} (o : Own) (h : l[i]? = some x) : indexAddrA Tryz.prog 24 (.vec o (V l)) (.int .i64 (i : Int)) = some (.rptr (encI x)) := by
  have := V_at h
  simp [indexAddrA, elem24, sz27, AV.width, AV.cells, this, encI]
theorem ixS (k n : Nat) {i : Nat} (h : i < n) : indexAddrA Tryz.prog 22 (.sl k 3 0 n) (.int .i64 (i : Int)) = some (.ptr k (i * 3)) := by
  simp [indexAddrA, elem22, sz26, h]
theorem ld26r (x : Im) : ldA Tryz.prog 26 (encI x) 0 = some (.agg (encI x)) := by simp [ldA, agg26, sz26, encI]
theorem ld27r (x : Im) : ldA Tryz.prog 27 (encI x) 0 = some (.agg (encI x)) := by simp [ldA, agg27, sz27, encI]
theorem ldF {l : List Im} {i : Nat} {x : Im} (h : l[i]? = some x) : ldA Tryz.prog 26 (flat l) (i * 3) = some (.agg (encI x)) := by
  have hi := (List.getElem?_eq_some_iff.1 h).1
  have hl : i * 3 + 3 ≤ (flat l).length := by rw [flat_len]; omega
  simp [ldA, agg26, sz26, flat_at h, hl]
theorem ld9 (cs : List AV) (off : Nat) : ldA Tryz.prog 9 cs off = cs[off]? := ld_one agg9 cs off
theorem ld4 (cs : List AV) (off : Nat) : ldA Tryz.prog 4 cs off = cs[off]? := ld_one agg4 cs off
theorem fa26_0 (x : Im) : fieldAddrA Tryz.prog 26 0 (.rptr (encI x)) = some (.rptr (encI x)) := by simp [fieldAddrA, fields26, sz9]
theorem fa27_0 (x : Im) : fieldAddrA Tryz.prog 27 0 (.rptr (encI x)) = some (.rptr (encI x)) := by simp [fieldAddrA, fields27, sz9]
theorem fa27_1 (x : Im) : fieldAddrA Tryz.prog 27 1 (.rptr (encI x)) = some (.rptr [.str x.2.1, .bool x.2.2]) := by simp [fieldAddrA, fields27, sz9, encI]
theorem fa27_2 (x : Im) : fieldAddrA Tryz.prog 27 2 (.rptr (encI x)) = some (.rptr [.bool x.2.2]) := by simp [fieldAddrA, fields27, sz4, encI]
theorem fa26p2 (n k : Nat) : fieldAddrA Tryz.prog 26 2 (.ptr n k) = some (.ptr n (k + 2)) := by simp [fieldAddrA, fields26, sz4]
theorem encI_0 (x : Im) : (encI x)[0]? = some (.str x.1) := rfl
theorem un_not (b : Bool) : unA .not (.bool b) = some (.bool (!b)) := by cases b <;> exact (rfl)
theorem call4 (call : CallO) (args : List AV) (H : AHeap) : callA env2 call (.fn (.func 4) [] []) args H = bnd (closedCall Tryz.prog call 4 args) fun v => some (v, H) := callA_closed rfl args
theorem call5 (call : CallO) (args : List AV) (H : AHeap) : callA env2 call (.fn (.func 5) [] []) args H = bnd (closedCall Tryz.prog call 5 args) fun v => some (v, H) := callA_closed rfl args
theorem call6 (call : CallO) (args : List AV) (H : AHeap) : callA env2 call (.fn (.func 6) [] []) args H = bnd (closedCall Tryz.prog call 6 args) fun v => some (v, H) := callA_closed rfl args
theorem call11 (call : CallO) (args : List AV) (H : AHeap) : callA env2 call (.fn (.func 11) [] []) args H = bnd (closedCall Tryz.prog call 11 args) fun v => some (v, H) := callA_closed rfl args
theorem call9 (call : CallO) (args : List AV) (H : AHeap) : callA env2 call (.fn (.func 9) [] []) args H = call 9 args H := callA_open rfl args
theorem call10 (call : CallO) (args : List AV) (H : AHeap) : callA env2 call (.fn (.func 10) [] []) args H = call 10 args H := callA_open rfl args
theorem call12 (call : CallO) (args : List AV) (H : AHeap) : callA env2 call (.fn (.func 12) [] []) args H = call 12 args H := callA_open rfl args
theorem call26 (call : CallO) (args : List AV) (H : AHeap) : callA env2 call (.fn (.func 26) [] []) args H = call 26 args H := callA_open rfl args
attribute [go_sem] len22v len24v len22s ld26r ld27r ld9 ld4 fa26_0 fa27_0 fa27_1 fa27_2 fa26p2 encI_0 un_not call4 call5 call6 call9 call10 call11 call12 call26 V_len

/-- The used ones. -/
def U (l : List Im) : List Pr := (l.filter (·.2.2)).map fun x => (x.1, x.2.1)
def ofP (x : Pr) : Im := (x.1, x.2, true)

/-! The closure: is it unused? -/
theorem unused_c (x : Im) : closedCall Tryz.prog (run env2) 11 [.agg (encI x)] = some (.bool (!x.2.2)) := by
  refine closed_of (v := .bool (!x.2.2)) (fn := Tryz.f11) rfl rfl Tryz.func11 rfl (by rw [Tryz.ntmps11]; simp) (args' := [.agg (encI x)]) rfl rfl ?_ rfl rfl
  obtain ⟨a, b, c⟩ := x
  simp only [encI, go_sem, envP, ↓reduceIte, Nat.reduceEqDiff, Nat.reduceAdd, Nat.reduceLT, Tryz.results11]
end Go.Proofs.YtkpnccaoolbeeaaGreatDoor
