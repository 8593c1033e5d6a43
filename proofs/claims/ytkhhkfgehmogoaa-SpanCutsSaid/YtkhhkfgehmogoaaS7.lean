/- The text: her parts, her lines. -/
import Derived.Test.YtkhhkfgehmogoaaS5
namespace Go.Proofs.Ytkhhkfgehmogoaa
set_option linter.unusedVariables false
set_option linter.unusedSimpArgs false
open Go Go.Ab

theorem fields32 : fieldsQ Try.prog 32 = some [(0, 9), (1, 30)] := by kernel_rfl
theorem sz9 : szQ Try.prog 9 = some 1 := by kernel_rfl
theorem sz30 : szQ Try.prog 30 = some 1 := by kernel_rfl
theorem sz32 : szQ Try.prog 32 = some 2 := by kernel_rfl
theorem agg9 : aggQ Try.prog 9 = some false := by kernel_rfl
theorem agg30 : aggQ Try.prog 30 = some false := by kernel_rfl
theorem agg32 : aggQ Try.prog 32 = some true := by kernel_rfl
theorem str9 : isStrQ Try.prog 9 = true := by kernel_rfl
theorem elem30 : elemQ Try.prog 30 = some 3 := by kernel_rfl
theorem by3 : byQ Try.prog 3 = some 8 := by kernel_rfl
theorem zero3 : zeroQ Try.prog 3 = some [.int .i64 0] := by kernel_rfl
theorem zero32 : zeroQ Try.prog 32 = some [.str [], .vec .nil []] := by kernel_rfl
theorem places32 : placesQ Try.prog 32 = some [(0, 1), (1, 1)] := by kernel_rfl
theorem fa32_0 (id o : Nat) : fieldAddrA Try.prog 32 0 (.ptr id o) = some (.ptr id o) := fa_ptr fields32 0 id o rfl sz9
theorem fa32_1 (id o : Nat) : fieldAddrA Try.prog 32 1 (.ptr id o) = some (.ptr id (o + 1)) := fa_ptr fields32 1 id o rfl sz30
theorem ld9 (cs : List AV) (off : Nat) : ldA Try.prog 9 cs off = cs[off]? := ld_one agg9 cs off
theorem ld30 (cs : List AV) (off : Nat) : ldA Try.prog 30 cs off = cs[off]? := ld_one agg30 cs off
theorem ld32 (x y : AV) : ldA Try.prog 32 [x, y] 0 = some (.agg [x, y]) := by simp [ld_agg agg32 sz32]
theorem len9 (l : List UInt8) : lenA Try.prog #[9] [.str l] = some (.int .i64 l.length) := by simp [lenA, str9]
theorem len30 (o : Own) (es : List AV) : lenA Try.prog #[30] [.vec o es] = some (.int .i64 es.length) := by simp [lenA, elem30]
theorem build23_1 (b : Int) : buildA Try.prog 23 [(1, .int .i64 b)] = some (.agg [.int .i64 0, .int .i64 b]) := by kernel_rfl
theorem build32 (s : List UInt8) (o : Own) (es : List AV) : buildA Try.prog 32 [(0, .str s), (1, .vec o es)] = some (.agg [.str s, .vec o es]) := by
  simp [buildA, zero32, places32, fillA, AV.width, overlay, AV.cells]
theorem alloc32 (n : Nat) (l : List (Nat × AObj)) : allocA Try.prog 32 ⟨n, l⟩ = some (.ptr n 0, ⟨n + 1, (n, .cells [.str [], .vec .nil []]) :: l⟩) := by simp [allocA, zero32, AHeap.push]
theorem st32 (n : Nat) (l : List (Nat × AObj)) (id : Nat) (s : List UInt8) (o : Own) (es : List AV) : storeA Try.prog 32 (.ptr id 0) (.agg [.str s, .vec o es]) ⟨n, l⟩ = if id < n then st2 n l id (.str s) (.vec o es) (cellsQ l id) else none := by
  rw [store_ptr]
  by_cases h : id < n
  · simp only [h, if_true]
    cases cellsQ l id with
    | none => rfl
    | some cs => simp [bnd, st2, sz32, AV.width, AV.cells, allOne, AV.one]
  · simp only [h, if_false]
def st1 (n : Nat) (l : List (Nat × AObj)) (id off : Nat) (x : AV) (q : Option (List AV)) : Option (AV × AHeap) :=
  match q with
  | some cs => if off + 1 ≤ cs.length then some (undefA, ⟨n, setL l id (.cells (overlay cs off [x]))⟩) else none
  | none => none
theorem st1_0 (n : Nat) (l : List (Nat × AObj)) (id : Nat) (x a b : AV) : st1 n l id 0 x (some [a, b]) = some (undefA, ⟨n, setL l id (.cells [x, b])⟩) := (rfl)
theorem st1_1 (n : Nat) (l : List (Nat × AObj)) (id : Nat) (x a b : AV) : st1 n l id 1 x (some [a, b]) = some (undefA, ⟨n, setL l id (.cells [a, x])⟩) := (rfl)
@[congr] theorem st1_congr {n : Nat} {l : List (Nat × AObj)} {id off : Nat} {x : AV} {q q' : Option (List AV)} (h : q = q') : st1 n l id off x q = st1 n l id off x q' := by rw [h]
theorem st3 (n : Nat) (l : List (Nat × AObj)) (id off : Nat) (a : Int) : storeA Try.prog 3 (.ptr id off) (.int .i64 a) ⟨n, l⟩ = if id < n then st1 n l id off (.int .i64 a) (cellsQ l id) else none := by
  rw [store_ptr]
  by_cases h : id < n
  · simp only [h, if_true]
    cases cellsQ l id with
    | none => rfl
    | some cs => simp [bnd, st1, sz3, AV.width, AV.cells, allOne, AV.one]
  · simp only [h, if_false]
theorem st30 (n : Nat) (l : List (Nat × AObj)) (id off : Nat) (o : Own) (es : List AV) : storeA Try.prog 30 (.ptr id off) (.vec o es) ⟨n, l⟩ = if id < n then st1 n l id off (.vec o es) (cellsQ l id) else none := by
  rw [store_ptr]
  by_cases h : id < n
  · simp only [h, if_true]
    cases cellsQ l id with
    | none => rfl
    | some cs => simp [bnd, st1, sz30, AV.width, AV.cells, allOne, AV.one]
  · simp only [h, if_false]
def ints (L : List Int) : List AV := L.map (AV.int .i64)
theorem ints_len (L : List Int) : (ints L).length = L.length := by simp [ints]
theorem ix30 {L : List Int} {i : Int} {x : Int} (o : Own) (h0 : 0 ≤ i) (h : L[i.toNat]? = some x) : indexAddrA Try.prog 30 (.vec o (ints L)) (.int .i64 i) = some (.rptr [.int .i64 x]) := by
  have : (ints L)[i.toNat]? = some (.int .i64 x) := by simp [ints, h]
  simp [indexAddrA, h0, this, elem30, sz3, AV.width, AV.cells]
theorem sl9 (l : List UInt8) (a b : Int) (h : 0 ≤ a ∧ a ≤ b ∧ b ≤ l.length) : sliceA Try.prog 9 (some (.int .i64 a)) (some (.int .i64 b)) (.str l) = some (.str ((l.take b.toNat).drop a.toNat)) := by
  have h1 : 0 ≤ b ∧ b ≤ (l.length : Int) := by omega
  have h2 : 0 ≤ a ∧ a ≤ (b.toNat : Int) := by omega
  have h3 : a ≤ max b 0 := by omega
  simp [sliceA, str9, sliceLH, sliceBnd, h1, h2, h3]
theorem ret23 (cs : List AV) (a : Int) : tupled [.agg cs, .int .i64 a] = .tup [.agg cs, .int .i64 a] := rfl
theorem call28 (call : CallO) (args : List AV) (H : AHeap) : callA env call (.fn (.func 28) [] []) args H = bnd (closedCall call 28 args) fun v => some (v, H) := callA_closed rfl args
theorem call14 (call : CallO) (args : List AV) (H : AHeap) : callA env call (.fn (.func 14) [] []) args H = bnd (closedCall call 14 args) fun v => some (v, H) := callA_closed rfl args
theorem call19 (call : CallO) (args : List AV) (H : AHeap) : callA env call (.fn (.func 19) [] []) args H = bnd (closedCall call 19 args) fun v => some (v, H) := callA_closed rfl args
theorem call20 (call : CallO) (args : List AV) (H : AHeap) : callA env call (.fn (.func 20) [] []) args H = bnd (closedCall call 20 args) fun v => some (v, H) := callA_closed rfl args
theorem call22 (call : CallO) (args : List AV) (H : AHeap) : callA env call (.fn (.func 22) [] []) args H = bnd (closedCall call 22 args) fun v => some (v, H) := callA_closed rfl args
theorem call23 (call : CallO) (args : List AV) (H : AHeap) : callA env call (.fn (.func 23) [] []) args H = bnd (closedCall call 23 args) fun v => some (v, H) := callA_closed rfl args
theorem ex_0 (a b : AV) : extractA 0 (.tup [a, b]) = some a := (rfl)
theorem ex_1 (a b : AV) : extractA 1 (.tup [a, b]) = some b := (rfl)
theorem un_not (b : Bool) : unA .not (.bool b) = some (.bool (!b)) := (rfl)
attribute [go_sem] fa32_0 fa32_1 ld9 ld30 ld32 len9 len30 build23_1 build32 alloc32 st32 st1_0 st1_1 st3 st30 call28 call14 call19 call20 call22 call23 ex_0 ex_1 un_not ints_len

theorem len_c (s : List UInt8) (o : Own) (es : List AV) : closedCall (run env) 20 [.agg [.str s, .vec o es]] = closedCall (run env) 20 [.agg [.str s, .vec .ro es]] := rfl

theorem lines_c (s : List UInt8) (L : List Int) (hp : AV.noPtr.go (ints L) = true) : closedCall (run env) 19 [.agg [.str s, .vec .ro (ints L)]] = some (.int .i64 (max 1 L.length)) := by
  refine closed_of (v := .int .i64 (max 1 L.length)) (fn := Try.f19) rfl Try.func19 rfl (by rw [Try.ntmps19]; simp) (args' := [.agg [.str s, .vec .ro (ints L)]]) rfl (by simp [AV.noPtr, AV.noPtr.go, hp]) ?_ rfl rfl
  simp only [go_sem, Try.results19, envP, ↓reduceIte, Nat.reduceEqDiff, Nat.reduceAdd, Nat.reduceLT]

theorem ints_np (L : List Int) : AV.noPtr.go (ints L) = true := by
  unfold ints
  induction L with
  | nil => rfl
  | cons x r ih => simpa [AV.noPtr.go, AV.noPtr] using ih

theorem bounds_out (s : List UInt8) (L : List Int) (i : Int) (h : i < 0 ∨ max 1 (L.length : Int) ≤ i) : closedCall (run env) 28 [.agg [.str s, .vec .ro (ints L)], .int .i64 i] = some (.tup [.agg [.int .i64 0, .int .i64 0], .int .i64 6]) := by
  refine closed_of (v := .tup [.agg [.int .i64 0, .int .i64 0], .int .i64 6]) (fn := Try.f28) rfl Try.func28 rfl (by rw [Try.ntmps28]; simp) (args' := [.agg [.str s, .vec .ro (ints L)], .int .i64 i]) rfl (by simp [AV.noPtr, AV.noPtr.go, ints_np]) ?_ rfl rfl
  have hl := lines_c s L (ints_np L)
  by_cases c1 : i < 0
  · have d1 : decide (i < 0) = true := decide_eq_true c1
    simp only [go_sem, Try.results28, envP, ↓reduceIte, Nat.reduceEqDiff, Nat.reduceAdd, Nat.reduceLT, d1, hl]
  · have d1 : decide (i < 0) = false := decide_eq_false c1
    have d2 : decide (max 1 (L.length : Int) ≤ i) = true := decide_eq_true (by omega)
    simp only [go_sem, Try.results28, envP, ↓reduceIte, Nat.reduceEqDiff, Nat.reduceAdd, Nat.reduceLT, d1, d2, hl, ge_iff_le]

theorem bounds_in (s : List UInt8) (L : List Int) (i : Int) (x e : Int) (h0 : 0 ≤ i) (hx : L[i.toNat]? = some x) (hn : L.length < 2 ^ 40) (he : (i + 1 < L.length ∧ L[(i + 1).toNat]? = some (e + 1) ∧ 0 ≤ e ∧ e < 2 ^ 40) ∨ (i + 1 = L.length ∧ e = s.length)) :
    closedCall (run env) 28 [.agg [.str s, .vec .ro (ints L)], .int .i64 i] = some (.tup [.agg [.int .i64 x, .int .i64 e], .int .i64 0]) := by
  refine closed_of (v := .tup [.agg [.int .i64 x, .int .i64 e], .int .i64 0]) (fn := Try.f28) rfl Try.func28 rfl (by rw [Try.ntmps28]; simp) (args' := [.agg [.str s, .vec .ro (ints L)], .int .i64 i]) rfl (by simp [AV.noPtr, AV.noPtr.go, ints_np]) ?_ rfl rfl
  have hl := lines_c s L (ints_np L)
  have hi : i.toNat < L.length := by
    rcases Nat.lt_or_ge i.toNat L.length with h | h
    · exact h
    · rw [List.getElem?_eq_none h] at hx; cases hx
  have d1 : decide (i < 0) = false := decide_eq_false (by omega)
  have d2 : decide (max 1 (L.length : Int) ≤ i) = false := decide_eq_false (by omega)
  have d3 : decide (i < (L.length : Int)) = true := decide_eq_true (by omega)
  have w1 : IntKind.i64.wrap (i + 1) = i + 1 := IntWalk.i64_in _ (by omega)
  have x1 := ix30 .ro h0 hx
  rcases he with ⟨h1, h2, h3, h4⟩ | ⟨h1, h2⟩
  · have d4 : decide (i + 1 < (L.length : Int)) = true := decide_eq_true h1
    have w2 : IntKind.i64.wrap (e + 1 - 1) = e := by rw [show e + 1 - 1 = e by omega]; exact IntWalk.i64_in _ (by omega)
    have x2 := ix30 .ro (by omega) h2
    simp only [go_sem, Try.results28, envP, ↓reduceIte, Nat.reduceEqDiff, Nat.reduceAdd, Nat.reduceLT, d1, d2, d3, d4, w1, w2, x1, x2, hl, ge_iff_le]
  · have d4 : decide (i + 1 < (L.length : Int)) = false := decide_eq_false (by omega)
    subst h2
    simp only [go_sem, Try.results28, envP, ↓reduceIte, Nat.reduceEqDiff, Nat.reduceAdd, Nat.reduceLT, d1, d2, d3, d4, w1, x1, hl, ge_iff_le]

structure Row (s : List UInt8) (L : List Int) (i x e : Int) : Prop where
  b : closedCall (run env) 28 [.agg [.str s, .vec .ro (ints L)], .int .i64 i] = some (.tup [.agg [.int .i64 x, .int .i64 e], .int .i64 0])
  h : 0 ≤ x ∧ x ≤ e ∧ e ≤ s.length ∧ e < 2 ^ 40

theorem line_in {s : List UInt8} {L : List Int} {i x e : Int} (r : Row s L i x e) : closedCall (run env) 23 [.agg [.str s, .vec .ro (ints L)], .int .i64 i] = some (.tup [.str ((s.take e.toNat).drop x.toNat), .int .i64 0]) := by
  obtain ⟨hb, h⟩ := r
  refine closed_of (v := .tup [.str ((s.take e.toNat).drop x.toNat), .int .i64 0]) (fn := Try.f23) rfl Try.func23 rfl (by rw [Try.ntmps23]; simp) (args' := [.agg [.str s, .vec .ro (ints L)], .int .i64 i]) rfl (by simp [AV.noPtr, AV.noPtr.go, ints_np]) ?_ rfl rfl
  have hs := sl9 s x e ⟨h.1, h.2.1, h.2.2.1⟩
  simp only [go_sem, Try.results23, envP, ↓reduceIte, Nat.reduceEqDiff, Nat.reduceAdd, Nat.reduceLT, hb, hs, bne_self_eq_false]

theorem line_out {s : List UInt8} {L : List Int} {i : Int} (h : i < 0 ∨ max 1 (L.length : Int) ≤ i) : closedCall (run env) 23 [.agg [.str s, .vec .ro (ints L)], .int .i64 i] = some (.tup [.str [], .int .i64 6]) := by
  have hb := bounds_out s L i h
  refine closed_of (v := .tup [.str [], .int .i64 6]) (fn := Try.f23) rfl Try.func23 rfl (by rw [Try.ntmps23]; simp) (args' := [.agg [.str s, .vec .ro (ints L)], .int .i64 i]) rfl (by simp [AV.noPtr, AV.noPtr.go, ints_np]) ?_ rfl rfl
  have z : ((6 : Int) != 0) = true := by decide
  simp only [go_sem, Try.results23, envP, ↓reduceIte, Nat.reduceEqDiff, Nat.reduceAdd, Nat.reduceLT, hb, z]

theorem at_in {s : List UInt8} {L : List Int} {i x e c : Int} (r : Row s L i x e) (hc : 0 ≤ c ∧ c ≤ e - x) : closedCall (run env) 22 [.agg [.str s, .vec .ro (ints L)], .int .i64 i, .int .i64 c] = some (.tup [.int .i64 (x + c), .int .i64 0]) := by
  obtain ⟨hb, h⟩ := r
  refine closed_of (v := .tup [.int .i64 (x + c), .int .i64 0]) (fn := Try.f22) rfl Try.func22 rfl (by rw [Try.ntmps22]; simp) (args' := [.agg [.str s, .vec .ro (ints L)], .int .i64 i, .int .i64 c]) rfl (by simp [AV.noPtr, AV.noPtr.go, ints_np]) ?_ rfl rfl
  have hl : closedCall (run env) 11 [.agg [.int .i64 x, .int .i64 e]] = some (.int .i64 (e - x)) := by
    rw [long_c x e (fun _ => IntWalk.i64_in _ (by omega)), if_neg (by omega)]
  have d1 : decide (c < 0) = false := decide_eq_false (by omega)
  have d2 : decide (e - x < c) = false := decide_eq_false (by omega)
  have w1 : IntKind.i64.wrap (x + c) = x + c := IntWalk.i64_in _ (by omega)
  simp only [go_sem, Try.results22, envP, ↓reduceIte, Nat.reduceEqDiff, Nat.reduceAdd, Nat.reduceLT, hb, hl, d1, d2, w1, gt_iff_lt, bne_self_eq_false]

theorem at_out {s : List UInt8} {L : List Int} {i c : Int} (h : (i < 0 ∨ max 1 (L.length : Int) ≤ i) ∨ ∃ x e, Row s L i x e ∧ (c < 0 ∨ e - x < c)) : closedCall (run env) 22 [.agg [.str s, .vec .ro (ints L)], .int .i64 i, .int .i64 c] = some (.tup [.int .i64 0, .int .i64 6]) := by
  refine closed_of (v := .tup [.int .i64 0, .int .i64 6]) (fn := Try.f22) rfl Try.func22 rfl (by rw [Try.ntmps22]; simp) (args' := [.agg [.str s, .vec .ro (ints L)], .int .i64 i, .int .i64 c]) rfl (by simp [AV.noPtr, AV.noPtr.go, ints_np]) ?_ rfl rfl
  have z : ((6 : Int) != 0) = true := by decide
  rcases h with h | ⟨x, e, ⟨hb, h⟩, hc⟩
  · have hb := bounds_out s L i h
    simp only [go_sem, Try.results22, envP, ↓reduceIte, Nat.reduceEqDiff, Nat.reduceAdd, Nat.reduceLT, hb, z]
  · have hl : closedCall (run env) 11 [.agg [.int .i64 x, .int .i64 e]] = some (.int .i64 (e - x)) := by
      rw [long_c x e (fun _ => IntWalk.i64_in _ (by omega)), if_neg (by omega)]
    by_cases c1 : c < 0
    · have d1 : decide (c < 0) = true := decide_eq_true c1
      simp only [go_sem, Try.results22, envP, ↓reduceIte, Nat.reduceEqDiff, Nat.reduceAdd, Nat.reduceLT, hb, hl, d1, gt_iff_lt, bne_self_eq_false]
    · have d1 : decide (c < 0) = false := decide_eq_false c1
      have d2 : decide (e - x < c) = true := decide_eq_true (by omega)
      simp only [go_sem, Try.results22, envP, ↓reduceIte, Nat.reduceEqDiff, Nat.reduceAdd, Nat.reduceLT, hb, hl, d1, d2, gt_iff_lt, bne_self_eq_false]
end Go.Proofs.Ytkhhkfgehmogoaa
