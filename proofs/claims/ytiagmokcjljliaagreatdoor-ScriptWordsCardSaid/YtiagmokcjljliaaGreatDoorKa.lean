/- ScriptWords: the lexers on the machine, 1: bytes, words, keys, the builder. -/
import Derived.Test.YtiagmokcjljliaaGreatDoorLa
import Derived.Test.YtiagmokcjljliaaGreatDoorWk
import Derived.Test.YtiagmokcjljliaaGreatDoorProg
import Derived.KernelRfl
import Derived.IntWalk
/- ScriptWords: the lexers' functions on the machine: the environment, and what is asked of bytes and words. -/
namespace Go.Proofs.YtiagmokcjljliaaGreatDoor
set_option linter.unusedVariables false
set_option linter.unusedSimpArgs false
open Go Go.Ab

def goodK : List FuncId := [4, 9, 10, 11, 15, 16, 17, 18, 19, 31, 21, 35, 36, 37, 70, 71, 72, 73, 74, 75, 76, 77, 78, 79, 80, 82, 106, 121, 208, 141, 142, 143, 145, 147, 230]
def closedK : List FuncId := [4, 9, 10, 11, 15, 16, 17, 18, 19, 31, 21, 35, 69, 71, 72, 73, 74, 76, 77, 78, 82, 106, 121, 208, 141, 142, 143, 144, 145, 182, 230]
def extK : CallO := orX (copyX 228 199) (orX (stringX 109 199) (orX (indexX 182) (orX (decodeX 69) (parseX 144 378))))
noncomputable def envK : Env := { P := Tryz.prog, G := fun f => goodK.contains f, cl := fun f => closedK.contains f, mutT := fun _ => false, dyn := fun i => i == 1, df := fun _ => false, ext := extK }
theorem all_okK : goodK.all (okF envK) = true := by kernel_rfl
theorem envP : envK.P = Tryz.prog := (rfl)
theorem mutE (t : TypeId) : envK.mutT t = false := (rfl)
theorem dyn1 : envK.dyn 1 = true := (rfl)
theorem dyn4 : envK.dyn 4 = false := (rfl)
theorem dyn5 : envK.dyn 5 = false := (rfl)
theorem dyn3 : envK.dyn 3 = false := (rfl)
theorem dyn8 : envK.dyn 8 = false := (rfl)
theorem dyn15 : envK.dyn 15 = false := (rfl)
theorem dyn16 : envK.dyn 16 = false := (rfl)
theorem dyn40 : envK.dyn 40 = false := (rfl)
theorem anyK (l : Array Oper) : envK.any l = false := (rfl)
attribute [go_sem] anyK dyn1 dyn3 dyn4 dyn5 dyn8 dyn15 dyn16 dyn40

/-! What is asked of a byte: by looking at all of them -/
noncomputable def tabOk (f : FuncId) (p : UInt8 → Bool) : Bool := (List.range 256).all fun n => match closedCall Tryz.prog (execF envK 30) f [.int .u8 (n : Nat)] with
  | some (.bool x) => x == p (UInt8.ofNat n)
  | _ => false
theorem tab_use {f : FuncId} {p : UInt8 → Bool} (h : tabOk f p = true) (b : UInt8) : closedCall Tryz.prog (run envK) f [.int .u8 (b.toNat : Int)] = some (.bool (p b)) := by
  have h1 := List.all_eq_true.1 h b.toNat (List.mem_range.2 b.toNat_lt)
  revert h1
  cases hc : closedCall Tryz.prog (execF envK 30) f [.int .u8 (b.toNat : Int)] with
  | none => intro h1; cases h1
  | some v =>
    cases v <;> intro h1 <;> try (cases h1; done)
    rename_i x
    simp only [UInt8.ofNat_toNat, beq_iff_eq] at h1
    rw [← h1]
    exact run_of 30 hc
def isHash (b : UInt8) : Bool := decide (b.toNat = 35)
theorem let16 (b : UInt8) : closedCall Tryz.prog (run envK) 16 [.int .u8 (b.toNat : Int)] = some (.bool (isLet b)) := tab_use (by kernel_rfl) b
theorem dig17 (b : UInt8) : closedCall Tryz.prog (run envK) 17 [.int .u8 (b.toNat : Int)] = some (.bool (isDig b)) := tab_use (by kernel_rfl) b
theorem more31 (b : UInt8) : closedCall Tryz.prog (run envK) 31 [.int .u8 (b.toNat : Int)] = some (.bool (isMore b)) := tab_use (by kernel_rfl) b
theorem bl71 (b : UInt8) : closedCall Tryz.prog (run envK) 71 [.int .u8 (b.toNat : Int)] = some (.bool (isBl b)) := tab_use (by kernel_rfl) b
theorem hash72 (b : UInt8) : closedCall Tryz.prog (run envK) 72 [.int .u8 (b.toNat : Int)] = some (.bool (isHash b)) := tab_use (by kernel_rfl) b
theorem nl73 (b : UInt8) : closedCall Tryz.prog (run envK) 73 [.int .u8 (b.toNat : Int)] = some (.bool (notNl b)) := tab_use (by kernel_rfl) b
theorem let74 (b : UInt8) : closedCall Tryz.prog (run envK) 74 [.int .u8 (b.toNat : Int)] = some (.bool (isLet b)) := tab_use (by kernel_rfl) b
theorem dig77 (b : UInt8) : closedCall Tryz.prog (run envK) 77 [.int .u8 (b.toNat : Int)] = some (.bool (isDig b)) := tab_use (by kernel_rfl) b
theorem wd141 (b : UInt8) : closedCall Tryz.prog (run envK) 141 [.int .u8 (b.toNat : Int)] = some (.bool (isWd b)) := tab_use (by kernel_rfl) b
end Go.Proofs.YtiagmokcjljliaaGreatDoor

/- ScriptWords: the scanner on the machine: more, lead, word. -/
namespace Go.Ab
open Go
theorem xd_guard {E : Env} {call : CallO} {α : Frm} {H : AHeap} (all : Array Oper) (k : Nat) (dst : Option Tmp) (op : Op) (ty : TypeId) (pos : String) (after : Array Edge) (rest : List Oper) (rs : List (Nat × Oper × Frm × AV)) (ws : List (Nat × AHeap)) (j : Nat) (b : Bool) :
    execOpsD E call all k (⟨dst, op, ty, pos, after, some (j, b)⟩ :: rest) rs ws α H = bnd (wantS b α (slotOf all j)) fun c =>
      sel c (bnd (stepOp E call op (ev α) H) fun r => xdK (kdOf E op) E call all k ⟨dst, op, ty, pos, after, some (j, b)⟩ rest rs ws α H r) (execOpsD E call all (k + 1) rest rs ws (put α dst undefA) H) := by
  rw [← wantedA_eq]; rfl
theorem kd_nilCheck {E : Env} (x : Operand) : kdOf E (.nilCheck x) = .ins := (rfl)
theorem kd_index {E : Env} (t : TypeId) (x i : Operand) : kdOf E (.index t x i) = .ins := (rfl)
theorem kd_pick {E : Env} (a b c : Operand) : kdOf E (.pick a b c) = .ins := (rfl)
theorem kd_binOp {E : Env} (op : BinOp) (t : TypeId) (a b : Operand) (c : TypeId) : kdOf E (.binOp op t a b c) = .ins := (rfl)
theorem kd_callT {E : Env} (t : Tmp) (l : Array Operand) (tys : Array TypeId) : kdOf E (.call ⟨.value (.tmp t), l, tys⟩) = .wr := (rfl)
theorem kd_len {E : Env} (l : Array Operand) (tys : Array TypeId) (h : mapT E.P tys = false) : kdOf E (.call ⟨.builtin .len, l, tys⟩) = .ins := by simp [kdOf, h]
attribute [go_sem ↓] xd_guard kd_nilCheck kd_index kd_pick kd_binOp kd_callT
end Go.Ab
namespace Go.Proofs.YtiagmokcjljliaaGreatDoor
set_option linter.unusedVariables false
set_option linter.unusedSimpArgs false
set_option maxRecDepth 100000
open Go Go.Ab

/-! What is known of the program's types -/
theorem str9 : isStrQ Tryz.prog 9 = true := by kernel_rfl
theorem agg9 : aggQ Tryz.prog 9 = some false := by kernel_rfl
theorem agg3 : aggQ Tryz.prog 3 = some false := by kernel_rfl
theorem sz9 : szQ Tryz.prog 9 = some 1 := by kernel_rfl
theorem sz3 : szQ Tryz.prog 3 = some 1 := by kernel_rfl
theorem fields85 : fieldsQ Tryz.prog 85 = some [(0, 9), (1, 3)] := by kernel_rfl
theorem map9 : mapT Tryz.prog #[9] = false := by kernel_rfl
theorem len9 (l : List UInt8) : lenA Tryz.prog #[9] [.str l] = some (.int .i64 l.length) := by simp [lenA, str9]
theorem ix9 {s : List UInt8} {i : Nat} {b : UInt8} (h : s[i]? = some b) : indexA Tryz.prog 9 (.str s) (.int .i64 (i : Int)) = some (.int .u8 b.toNat) := by
  simp [indexA, str9, h]
theorem sl9 (l : List UInt8) {a b : Nat} (h1 : a ≤ b) (h2 : b ≤ l.length) : sliceA Tryz.prog 9 (some (.int .i64 (a : Int))) (some (.int .i64 (b : Int))) (.str l) = some (.str ((l.take b).drop a)) := by
  have h3 : (b : Int) ≤ (l.length : Int) := by omega
  have h4 : (a : Int) ≤ (b : Int) := by omega
  simp [sliceA, str9, sliceLH, sliceBnd, h3, h4]
theorem sl9a (l : List UInt8) {a : Nat} (h2 : a ≤ l.length) : sliceA Tryz.prog 9 (some (.int .i64 (a : Int))) none (.str l) = some (.str (l.drop a)) := by
  have h3 : (a : Int) ≤ (l.length : Int) := by omega
  simp [sliceA, str9, sliceLH, sliceBnd, h3]
theorem ld9 (cs : List AV) (off : Nat) : ldA Tryz.prog 9 cs off = cs[off]? := ld_one agg9 cs off
theorem ld3 (cs : List AV) (off : Nat) : ldA Tryz.prog 3 cs off = cs[off]? := ld_one agg3 cs off
theorem fa85_0 (n k : Nat) : fieldAddrA Tryz.prog 85 0 (.ptr n k) = some (.ptr n k) := by simp [fieldAddrA, fields85, sz9]
theorem fa85_1 (n k : Nat) : fieldAddrA Tryz.prog 85 1 (.ptr n k) = some (.ptr n (k + 1)) := by simp [fieldAddrA, fields85, sz3]
theorem nc_ptr (n k : Nat) : nilCheckA (.ptr n k) = some (.ptr n k) := (rfl)
theorem un_not (b : Bool) : unA .not (.bool b) = some (.bool (!b)) := by cases b <;> exact (rfl)
attribute [go_sem] len9 ld9 ld3 fa85_0 fa85_1 nc_ptr un_not

/-! The scanner in the memory -/
def sc (s : List UInt8) (i : Nat) : AObj := .cells none [.str s, .int .i64 (i : Int)]
def Sc (m : Nat) (L : List (Nat × AObj)) (k : Nat) (s : List UInt8) (i : Nat) : Prop := k < m ∧ getL L k = some (sc s i)
theorem Sc.cells {m : Nat} {L : List (Nat × AObj)} {k : Nat} {s : List UInt8} {i : Nat} (h : Sc m L k s i) : cellsQ L k = some [.str s, .int .i64 (i : Int)] := by simp [cellsQ, h.2, sc]
theorem Sc.set {m : Nat} {L : List (Nat × AObj)} {k : Nat} {s : List UInt8} {i : Nat} (h : Sc m L k s i) (j : Nat) : Sc m (setL L k (sc s j)) k s j := ⟨h.1, by rw [getL_setL, if_pos rfl, h.2]; rfl⟩
theorem Sc.store {m : Nat} {L : List (Nat × AObj)} {k : Nat} {s : List UInt8} {i : Nat} (h : Sc m L k s i) (j : Nat) : storeA Tryz.prog 3 (.ptr k 1) (.int .i64 (j : Int)) ⟨m, L⟩ = some (undefA, ⟨m, setL L k (sc s j)⟩) := by
  rw [store_ptr, if_pos h.1, h.cells]
  simp [bnd, sz3, AV.width, AV.cells, allOne, AV.one, h.2, sc, reObj, overlay]
theorem Sc.same {m : Nat} {L : List (Nat × AObj)} {k : Nat} {s : List UInt8} {i : Nat} (h : Sc m L k s i) : setL L k (sc s i) = L := setL_same L k _ h.2

def isPred (g : FuncId) (p : UInt8 → Bool) : Prop := closedK.contains g = true ∧ ∀ b : UInt8, closedCall Tryz.prog (run envK) g [.int .u8 (b.toNat : Int)] = some (.bool (p b))
def hasAt (p : UInt8 → Bool) (s : List UInt8) (i : Nat) : Bool := match s[i]? with
  | some b => p b
  | none => false
theorem call_pred {g : FuncId} {p : UInt8 → Bool} (hp : isPred g p) (b : UInt8) (H : AHeap) : callA envK (run envK) (.fn (.func g) [] []) [.int .u8 (b.toNat : Int)] H = some (.bool (p b), H) := by
  rw [callA_closed (E := envK) hp.1, show envK.P = Tryz.prog from rfl, hp.2 b]
  rfl
theorem more_c {g : FuncId} {p : UInt8 → Bool} (hp : isPred g p) {m : Nat} {L : List (Nat × AObj)} {k : Nat} {s : List UInt8} {i : Nat} (h : Sc m L k s i) : run envK 70 [.ptr k 0, .fn (.func g) [] []] ⟨m, L⟩ = some (.bool (hasAt p s i), ⟨m, L⟩) := by
  have hkm : (k < m) = True := eq_true h.1
  have hc := h.cells
  refine open_eq (E := envK) (f := 70) (fn := Tryz.f70) (c := .seq _ (.seq _ _)) (by kernel_rfl) rfl Tryz.func70 rfl (by rw [Tryz.ntmps70]; simp) ?_
  have ml := kd_len (E := envK) (l := #[.tmp 12]) (tys := #[9]) map9
  by_cases hi : i < s.length
  · obtain ⟨b, hb⟩ := get_some hi
    have e1 : decide ((i : Int) < (s.length : Int)) = true := decide_eq_true (by omega)
    have x1 := ix9 hb
    have x2 := call_pred hp b
    have x3 : hasAt p s i = p b := by simp [hasAt, hb]
    simp only [go_sem, envP, ↓reduceIte, Nat.reduceEqDiff, Nat.reduceAdd, Nat.reduceLT, hkm, hc, e1, ml, x1, x2, x3, Tryz.results70]
  · have e1 : decide ((i : Int) < (s.length : Int)) = false := decide_eq_false (by omega)
    have x3 : hasAt p s i = false := by simp [hasAt, List.getElem?_eq_none (Nat.le_of_not_lt hi)]
    simp only [go_sem, envP, ↓reduceIte, Nat.reduceEqDiff, Nat.reduceAdd, Nat.reduceLT, hkm, hc, e1, ml, x3, Tryz.results70]
end Go.Proofs.YtiagmokcjljliaaGreatDoor

/- ScriptWords: the scanner on the machine: word, lead. -/
namespace Go.Proofs.YtiagmokcjljliaaGreatDoor
set_option linter.unusedVariables false
set_option linter.unusedSimpArgs false
set_option maxRecDepth 100000
open Go Go.Ab

theorem call70 (call : CallO) (args : List AV) (H : AHeap) : callA envK call (.fn (.func 70) [] []) args H = call 70 args H := callA_open (by kernel_rfl) args
attribute [go_sem] call70
theorem pr71 : isPred 71 isBl := ⟨by kernel_rfl, bl71⟩
theorem pr72 : isPred 72 isHash := ⟨by kernel_rfl, hash72⟩
theorem pr73 : isPred 73 notNl := ⟨by kernel_rfl, nl73⟩
theorem pr74 : isPred 74 isLet := ⟨by kernel_rfl, let74⟩
theorem pr77 : isPred 77 isDig := ⟨by kernel_rfl, dig77⟩
theorem pr141 : isPred 141 isWd := ⟨by kernel_rfl, wd141⟩
theorem hasAt_some {p : UInt8 → Bool} {s : List UInt8} {i : Nat} {b : UInt8} (h : s[i]? = some b) : hasAt p s i = p b := by simp [hasAt, h]
theorem hasAt_none {p : UInt8 → Bool} {s : List UInt8} {i : Nat} (h : s.length ≤ i) : hasAt p s i = false := by simp [hasAt, List.getElem?_eq_none h]
theorem hasAt_t {p : UInt8 → Bool} {s : List UInt8} {i : Nat} (h : hasAt p s i = true) : ∃ b, s[i]? = some b ∧ p b = true := by
  unfold hasAt at h
  split at h
  · rename_i b hb; exact ⟨b, hb, h⟩
  · cases h
theorem runTo_no {p : UInt8 → Bool} {s : List UInt8} {i : Nat} (hi : i ≤ s.length) (h : hasAt p s i = false) : runTo p s i = i := by
  by_cases hl : i < s.length
  · obtain ⟨b, hb⟩ := get_some hl
    rw [hasAt_some hb] at h
    exact runTo_stop hb h
  · exact runTo_end (by omega)
theorem runTo_at {p : UInt8 → Bool} {s : List UInt8} {i : Nat} (hi : i ≤ s.length) (h : hasAt p s i = false) {b : UInt8} (hb : s[i]? = some b) : p b = false := by rw [hasAt_some hb] at h; exact h

/-- A loop that goes on as long as bytes are of a kind: what holds ahead of each round. -/
structure IP (p : UInt8 → Bool) (s : List UInt8) (e k m : Nat) (L : List (Nat × AObj)) (f : Int) (d : Nat) (α : Frm) (H : AHeap) : Prop where
  ex : ∃ i, i + d = s.length ∧ runTo p s i = e ∧ H = ⟨m, setL L k (sc s i)⟩
  a0 : α 0 = .ptr k 0
  a3 : α 3 = .int .i64 f
def PP (id : Nat) (p : UInt8 → Bool) (s : List UInt8) (j k m : Nat) (L : List (Nat × AObj)) (f : Int) (e : Ex) (α : Frm) (H : AHeap) : Prop :=
  e = .exit id ∧ H = ⟨m, setL L k (sc s j)⟩ ∧ hasAt p s j = false ∧ α 0 = .ptr k 0 ∧ α 3 = .int .i64 f

noncomputable def B75 : Code := match Tryz.f75.body with | some (.seq _ (.seq _ (.seq (.block _ (.loop c)) _))) => c | _ => .skip
noncomputable def LB75 : Code := .block 0 (.loop B75)
noncomputable def K75 : Code := match Tryz.f75.body with | some (.seq _ (.seq _ (.seq _ k))) => k | _ => .skip
theorem round75 {s : List UInt8} {e k m : Nat} {L : List (Nat × AObj)} {f : Int} {i0 : Nat} (h0 : Sc m L k s i0) (hn : s.length ≤ 16384) (d : Nat) (α : Frm) (H : AHeap) (h : IP isWd s e k m L f d α H) :
    okR (execC envK (run envK) loopO B75 α H) fun x α' H' => (x = .normal ∧ ∃ d', d' < d ∧ IP isWd s e k m L f d' α' H') ∨ (x ≠ .normal ∧ PP 0 isWd s e k m L f x α' H') := by
  obtain ⟨⟨i, hd, he, rfl⟩, a0, a3⟩ := h
  have hB : B75 = .seq (.seq _ _) _ := rfl
  rw [hB]
  have hS := h0.set i
  have hkm : (k < m) = True := eq_true h0.1
  have hc := hS.cells
  have x1 := more_c pr141 hS
  cases hq : hasAt isWd s i with
  | true =>
    rw [hq] at x1
    obtain ⟨b, hb, hp⟩ := hasAt_t hq
    have hil := get_lt hb
    have w1 : IntKind.i64.wrap ((i : Int) + 1) = ((i + 1 : Nat) : Int) := by rw [IntWalk.i64_in _ (by omega)]; omega
    have st := hS.store (i + 1)
    rw [setL_setL] at st
    simp only [go_sem, envP, ↓reduceIte, Nat.reduceEqDiff, Nat.reduceAdd, Nat.reduceLT, a0, x1, hkm, hc, w1, st]
    refine .inl ⟨trivial, d - 1, by omega, ⟨i + 1, by omega, by rw [← he, runTo_step hb hp], rfl⟩, ?_, ?_⟩
    all_goals simp only [go_sem, ↓reduceIte, Nat.reduceEqDiff, a0, a3]
  | false =>
    rw [hq] at x1
    simp only [go_sem, envP, ↓reduceIte, Nat.reduceEqDiff, Nat.reduceAdd, Nat.reduceLT, a0, x1]
    have hj : e = i := by rw [← he]; exact runTo_no (by omega) hq
    subst hj
    refine .inr ⟨by simp, rfl, rfl, hq, ?_, ?_⟩
    all_goals simp only [go_sem, ↓reduceIte, Nat.reduceEqDiff, a0, a3]
theorem word_c {m : Nat} {L : List (Nat × AObj)} {k : Nat} {s : List UInt8} {i : Nat} (h : Sc m L k s i) (hi : i ≤ s.length) (hn : s.length ≤ 16384) : run envK 75 [.ptr k 0] ⟨m, L⟩ = some (.str ((s.drop i).takeWhile isWd), ⟨m, setL L k (sc s (runTo isWd s i))⟩) := by
  have hkm : (k < m) = True := eq_true h.1
  have hc := h.cells
  refine open_eq (E := envK) (f := 75) (fn := Tryz.f75) (c := .seq _ (.seq _ (.seq LB75 K75))) (by kernel_rfl) rfl Tryz.func75 rfl (by rw [Tryz.ntmps75]; simp) ?_
  simp only [go_sem, envP, ↓reduceIte, Nat.reduceEqDiff, Nat.reduceAdd, Nat.reduceLT, hkm, hc]
  refine block_ret (id := 0) ?_
  rw [xc_loop']
  refine okR_imp (loop_meas (IP isWd s (runTo isWd s i) k m L i) (PP 0 isWd s (runTo isWd s i) k m L i) (fun d α H hh => round75 h hn d α H hh) (s.length - i) _ _ ⟨⟨i, by omega, rfl, by rw [h.same]⟩, ?_, ?_⟩) ?_
  case refine_3 =>
    rintro e α' H' ⟨rfl, rfl, _, a0, a3⟩
    refine .inl ⟨.inr rfl, ?_⟩
    have hK : K75 = .seq _ _ := rfl
    rw [hK]
    have hc2 := (h.set (runTo isWd s i)).cells
    have sl := sl9 s (runTo_ge isWd s hi) (runTo_le isWd s i)
    rw [runTo_cut isWd s hi] at sl
    simp only [go_sem, envP, ↓reduceIte, Nat.reduceEqDiff, Nat.reduceAdd, Nat.reduceLT, a0, a3, hkm, hc2, sl, Tryz.results75]
  all_goals simp only [go_sem, ↓reduceIte, Nat.reduceEqDiff]
end Go.Proofs.YtiagmokcjljliaaGreatDoor

/- ScriptWords: the scanner on the machine: lead. -/
namespace Go.Proofs.YtiagmokcjljliaaGreatDoor
set_option linter.unusedVariables false
set_option linter.unusedSimpArgs false
set_option maxRecDepth 100000
open Go Go.Ab

noncomputable def B36 : Code := match Tryz.f36.body with | some (.seq _ (.seq _ (.block _ (.loop c)))) => c | _ => .skip
noncomputable def LB36 : Code := .block 0 (.loop B36)
noncomputable def C36 : Code := match B36 with | .block _ (.seq (.block _ (.loop c)) _) => c | _ => .skip
noncomputable def LC36 : Code := .block 2 (.loop C36)
noncomputable def K36 : Code := match B36 with | .block _ (.seq _ k) => k | _ => .skip
noncomputable def D36 : Code := match B36 with | .block _ (.seq _ (.seq _ (.block _ (.loop c)))) => c | _ => .skip
noncomputable def LD36 : Code := .block 4 (.loop D36)

theorem roundC36 {s : List UInt8} {e k m : Nat} {L : List (Nat × AObj)} {f : Int} {i0 : Nat} (h0 : Sc m L k s i0) (hn : s.length ≤ 16384) (d : Nat) (α : Frm) (H : AHeap) (h : IP isBl s e k m L f d α H) :
    okR (execC envK (run envK) loopO C36 α H) fun x α' H' => (x = .normal ∧ ∃ d', d' < d ∧ IP isBl s e k m L f d' α' H') ∨ (x ≠ .normal ∧ PP 2 isBl s e k m L f x α' H') := by
  obtain ⟨⟨i, hd, he, rfl⟩, a0, a3⟩ := h
  have hB : C36 = .seq (.seq _ _) _ := rfl
  rw [hB]
  have hS := h0.set i
  have hkm : (k < m) = True := eq_true h0.1
  have hc := hS.cells
  have x1 := more_c pr71 hS
  cases hq : hasAt isBl s i with
  | true =>
    rw [hq] at x1
    obtain ⟨b, hb, hp⟩ := hasAt_t hq
    have hil := get_lt hb
    have w1 : IntKind.i64.wrap ((i : Int) + 1) = ((i + 1 : Nat) : Int) := by rw [IntWalk.i64_in _ (by omega)]; omega
    have st := hS.store (i + 1)
    rw [setL_setL] at st
    simp only [go_sem, envP, ↓reduceIte, Nat.reduceEqDiff, Nat.reduceAdd, Nat.reduceLT, a0, x1, hkm, hc, w1, st]
    refine .inl ⟨trivial, d - 1, by omega, ⟨i + 1, by omega, by rw [← he, runTo_step hb hp], rfl⟩, ?_, ?_⟩
    all_goals simp only [go_sem, ↓reduceIte, Nat.reduceEqDiff, a0, a3]
  | false =>
    rw [hq] at x1
    simp only [go_sem, envP, ↓reduceIte, Nat.reduceEqDiff, Nat.reduceAdd, Nat.reduceLT, a0, x1]
    have hj : e = i := by rw [← he]; exact runTo_no (by omega) hq
    subst hj
    refine .inr ⟨by simp, rfl, rfl, hq, ?_, ?_⟩
    all_goals simp only [go_sem, ↓reduceIte, Nat.reduceEqDiff, a0, a3]
theorem roundD36 {s : List UInt8} {e k m : Nat} {L : List (Nat × AObj)} {f : Int} {i0 : Nat} (h0 : Sc m L k s i0) (hn : s.length ≤ 16384) (d : Nat) (α : Frm) (H : AHeap) (h : IP notNl s e k m L f d α H) :
    okR (execC envK (run envK) loopO D36 α H) fun x α' H' => (x = .normal ∧ ∃ d', d' < d ∧ IP notNl s e k m L f d' α' H') ∨ (x ≠ .normal ∧ PP 4 notNl s e k m L f x α' H') := by
  obtain ⟨⟨i, hd, he, rfl⟩, a0, a3⟩ := h
  have hB : D36 = .seq (.seq _ _) _ := rfl
  rw [hB]
  have hS := h0.set i
  have hkm : (k < m) = True := eq_true h0.1
  have hc := hS.cells
  have x1 := more_c pr73 hS
  cases hq : hasAt notNl s i with
  | true =>
    rw [hq] at x1
    obtain ⟨b, hb, hp⟩ := hasAt_t hq
    have hil := get_lt hb
    have w1 : IntKind.i64.wrap ((i : Int) + 1) = ((i + 1 : Nat) : Int) := by rw [IntWalk.i64_in _ (by omega)]; omega
    have st := hS.store (i + 1)
    rw [setL_setL] at st
    simp only [go_sem, envP, ↓reduceIte, Nat.reduceEqDiff, Nat.reduceAdd, Nat.reduceLT, a0, x1, hkm, hc, w1, st]
    refine .inl ⟨trivial, d - 1, by omega, ⟨i + 1, by omega, by rw [← he, runTo_step hb hp], rfl⟩, ?_, ?_⟩
    all_goals simp only [go_sem, ↓reduceIte, Nat.reduceEqDiff, a0, a3]
  | false =>
    rw [hq] at x1
    simp only [go_sem, envP, ↓reduceIte, Nat.reduceEqDiff, Nat.reduceAdd, Nat.reduceLT, a0, x1]
    have hj : e = i := by rw [← he]; exact runTo_no (by omega) hq
    subst hj
    refine .inr ⟨by simp, rfl, rfl, hq, ?_, ?_⟩
    all_goals simp only [go_sem, ↓reduceIte, Nat.reduceEqDiff, a0, a3]

/-- The outer loop: where the blanks end stays. -/
structure IO36 (s : List UInt8) (e k m : Nat) (L : List (Nat × AObj)) (f : Nat) (d : Nat) (α : Frm) (H : AHeap) : Prop where
  ex : ∃ i, i + d = s.length ∧ f ≤ i ∧ leadTo s i = e ∧ H = ⟨m, setL L k (sc s i)⟩
  a0 : α 0 = .ptr k 0
  a3 : α 3 = .int .i64 (f : Int)
def PO36 (s : List UInt8) (j k m : Nat) (L : List (Nat × AObj)) (f : Nat) (e : Ex) (α : Frm) (H : AHeap) : Prop :=
  e = .ret ∧ H = ⟨m, setL L k (sc s j)⟩ ∧ α 2 = .str ((s.take j).drop f)
theorem roundO36 {s : List UInt8} {e k m : Nat} {L : List (Nat × AObj)} {f i0 : Nat} (h0 : Sc m L k s i0) (hn : s.length ≤ 16384) (d : Nat) (α : Frm) (H : AHeap) (h : IO36 s e k m L f d α H) :
    okR (execC envK (run envK) loopO B36 α H) fun x α' H' => (x = .normal ∧ ∃ d', d' < d ∧ IO36 s e k m L f d' α' H') ∨ (x ≠ .normal ∧ PO36 s e k m L f x α' H') := by
  obtain ⟨⟨i, hd, hf, he, rfl⟩, a0, a3⟩ := h
  have hB : B36 = .block 1 (.seq LC36 K36) := rfl
  rw [hB]
  refine block_end ?_
  rw [xc_seq]
  refine block_ret (id := 2) ?_
  rw [xc_loop']
  refine okR_imp (loop_meas (IP isBl s (runTo isBl s i) k m L f) (PP 2 isBl s (runTo isBl s i) k m L f) (fun d α H hh => roundC36 h0 hn d α H hh) d _ _ ⟨⟨i, hd, rfl, rfl⟩, a0, a3⟩) ?_
  rintro x α1 H1 ⟨rfl, rfl, hq, b0, b3⟩
  refine .inl ⟨.inr rfl, ?_⟩
  have hil : i ≤ s.length := by omega
  have hge := runTo_ge isBl s hil
  have hle := runTo_le isBl s i
  have hrun := leadTo_run hil
  rw [he] at hrun
  generalize runTo isBl s i = j at hq hge hle hrun
  have hK : K36 = .seq (.seq _ _) LD36 := rfl
  rw [hK]
  have hS := h0.set j
  have hkm : (k < m) = True := eq_true h0.1
  have hc := hS.cells
  have x1 := more_c pr72 hS
  cases hh : hasAt isHash s j with
  | false =>
    rw [hh] at x1
    have hj : e = j := by
      rw [← hrun]
      by_cases hl : j < s.length
      · obtain ⟨b, hb⟩ := get_some hl
        rw [hasAt_some hb] at hq hh
        exact leadTo_stop hb hq (by simpa [isHash] using hh)
      · exact leadTo_end (by omega)
    subst hj
    have sl := sl9 s (show f ≤ e by omega) hle
    simp only [go_sem, envP, ↓reduceIte, Nat.reduceEqDiff, Nat.reduceAdd, Nat.reduceLT, b0, b3, x1, hkm, hc, sl, Bool.not_false, Bool.not_true]
    refine .inr ⟨trivial, .inr ⟨by simp, rfl, rfl, ?_⟩⟩
    simp only [go_sem, ↓reduceIte, Nat.reduceEqDiff]
  | true =>
    rw [hh] at x1
    simp only [go_sem, envP, ↓reduceIte, Nat.reduceEqDiff, Nat.reduceAdd, Nat.reduceLT, b0, b3, x1, hkm, hc, Bool.not_false, Bool.not_true]
    obtain ⟨b, hb, hp⟩ := hasAt_t hh
    have hp : b.toNat = 35 := by simpa [isHash] using hp
    have hbl : isBl b = false := by rw [hasAt_some hb] at hq; exact hq
    have hnn : notNl b = true := by simp [notNl, hp]
    have hjl := get_lt hb
    refine block_end ?_
    rw [xc_loop']
    refine okR_imp (loop_meas (IP notNl s (runTo notNl s j) k m L f) (PP 4 notNl s (runTo notNl s j) k m L f) (fun d α H hh => roundD36 h0 hn d α H hh) (s.length - j) _ _ ⟨⟨j, by omega, rfl, rfl⟩, ?_, ?_⟩) ?_
    case refine_3 =>
      rintro x α2 H2 ⟨rfl, rfl, hq2, c0, c3⟩
      refine .inl ⟨.inr rfl, .inl ⟨.inl rfl, .inl ⟨trivial, s.length - runTo notNl s j, ?_, ⟨runTo notNl s j, ?_, ?_, ?_, rfl⟩, c0, c3⟩⟩⟩
      all_goals have g1 := runTo_ge notNl s (i := j + 1) (by omega)
      all_goals have g2 := runTo_le notNl s (j + 1)
      all_goals rw [runTo_step hb hnn]
      · omega
      · omega
      · omega
      · rw [← runTo_step hb hnn, ← leadTo_hash hb hbl hp, hrun]
    all_goals simp only [go_sem, ↓reduceIte, Nat.reduceEqDiff, b0, b3]
theorem lead_c {m : Nat} {L : List (Nat × AObj)} {k : Nat} {s : List UInt8} {i : Nat} (h : Sc m L k s i) (hi : i ≤ s.length) (hn : s.length ≤ 16384) : run envK 36 [.ptr k 0] ⟨m, L⟩ = some (.str ((s.take (leadTo s i)).drop i), ⟨m, setL L k (sc s (leadTo s i))⟩) := by
  have hkm : (k < m) = True := eq_true h.1
  have hc := h.cells
  refine open_eq (E := envK) (f := 36) (fn := Tryz.f36) (c := .seq _ (.seq _ LB36)) (by kernel_rfl) rfl Tryz.func36 rfl (by rw [Tryz.ntmps36]; simp) ?_
  simp only [go_sem, envP, ↓reduceIte, Nat.reduceEqDiff, Nat.reduceAdd, Nat.reduceLT, hkm, hc]
  refine block_end ?_
  rw [xc_loop']
  refine okR_imp (loop_meas (IO36 s (leadTo s i) k m L i) (PO36 s (leadTo s i) k m L i) (fun d α H hh => roundO36 h hn d α H hh) (s.length - i) _ _ ⟨⟨i, by omega, Nat.le_refl _, rfl, by rw [h.same]⟩, ?_, ?_⟩) ?_
  case refine_3 =>
    rintro e α' H' ⟨rfl, rfl, a2⟩
    refine .inr ⟨rfl, ?_⟩
    simp only [go_sem, envP, ↓reduceIte, Nat.reduceEqDiff, a2, Tryz.results36]
  all_goals simp only [go_sem, ↓reduceIte, Nat.reduceEqDiff]
end Go.Proofs.YtiagmokcjljliaaGreatDoor

/- ScriptWords: keys on the machine. -/
namespace Go.Proofs.YtiagmokcjljliaaGreatDoor
set_option linter.unusedVariables false
set_option linter.unusedSimpArgs false
set_option maxRecDepth 100000
open Go Go.Ab

def S (l : List (List UInt8)) : List AV := l.map AV.str
theorem S_len (l : List (List UInt8)) : (S l).length = l.length := by simp [S]
theorem S_at {l : List (List UInt8)} {i : Nat} {x : List UInt8} (h : l[i]? = some x) : (S l)[i]? = some (.str x) := by simp [S, h]
theorem S_np : ∀ l : List (List UInt8), AV.noPtr.go (S l) = true
  | [] => rfl
  | x :: l => by
    show ((AV.str x).noPtr && AV.noPtr.go (S l)) = true
    rw [S_np l]
    rfl
theorem elem27 : elemQ Tryz.prog 27 = some 9 := by kernel_rfl
theorem len27 (o : Ab.Own) (l : List (List UInt8)) : lenA Tryz.prog #[27] [.vec o (S l)] = some (.int .i64 l.length) := by simp [lenA, elem27, S_len]
theorem ix27 {l : List (List UInt8)} {i : Nat} {x : List UInt8} (o : Ab.Own) (h : l[i]? = some x) : indexAddrA Tryz.prog 27 (.vec o (S l)) (.int .i64 (i : Int)) = some (.rptr [.str x]) := by
  have := S_at h
  simp [indexAddrA, elem27, sz9, AV.width, AV.cells, this]
theorem str_eql (a b : List UInt8) : strBin .eql a b = some (.bool (a == b)) := by simp [strBin]
attribute [go_sem] len27 str_eql

def keyR : List (List UInt8) := [[117,115,101],[100,101,102],[108,101,116],[105,102],[101,108,115,101],[119,104,105,108,101],[112,114,105,110,116],[114,101,116,117,114,110],[102,110],[105,110,112,117,116],[105,110,116],[115,116,114],[100,121,110]]
theorem keyR_eq (w : List UInt8) : keyR.contains w = isKey w := by
  rw [isKey, Bool.eq_iff_iff]
  simp only [List.contains_iff_mem, keyR, keyL, List.mem_cons, List.not_mem_nil, or_false]
  constructor
  · rintro (h | h | h | h | h | h | h | h | h | h | h | h | h) <;> simp [h]
  · rintro (h | h | h | h | h | h | h | h | h | h | h | h | h) <;> simp [h]
noncomputable def R18 : Code := match Tryz.f18.body with | some (.seq _ (.seq r _)) => r | _ => .skip
theorem r18 (call : CallO) (α : Frm) (H : AHeap) : execC envK call loopO R18 α H = some (.normal, fun i => if i = 3 then .vec .full (S keyR) else if i = 5 then .vec .full (S keyR) else α i, H) := by rfl

theorem has_no {l : List (List UInt8)} {w : List UInt8} (h : ∀ j, j < l.length → l[j]? ≠ some w) : l.contains w = false := by
  cases hc : l.contains w with
  | false => rfl
  | true =>
    obtain ⟨j, hj⟩ := List.getElem?_of_mem (List.contains_iff_mem.1 hc)
    exact (h j (List.getElem?_eq_some_iff.1 hj).1 hj).elim
theorem has_yes {l : List (List UInt8)} {w : List UInt8} {j : Nat} (h : l[j]? = some w) : l.contains w = true := List.contains_iff_mem.2 (List.mem_of_getElem? h)

/-! The reference's -/
noncomputable def B18 : Code := match Tryz.f18.body with | some (.seq _ (.seq _ (.seq (.seq _ (.block _ (.loop c))) _))) => c | _ => .skip
noncomputable def LB18 : Code := .block 0 (.loop B18)
noncomputable def K18 : Code := match Tryz.f18.body with | some (.seq _ (.seq _ (.seq _ k))) => k | _ => .skip
structure I18 (w : List UInt8) (d : Nat) (α : Frm) (H : AHeap) : Prop where
  ex : ∃ i : Nat, i + d = 13 ∧ (∀ j, j < i → keyR[j]? ≠ some w) ∧ α 4 = .int .i64 (i : Int)
  a0 : α 0 = .str w
  a3 : α 3 = .vec .full (S keyR)
def P18 (w : List UInt8) (e : Ex) (α : Frm) (H : AHeap) : Prop := (e = .exit 0 ∧ keyR.contains w = false) ∨ (e = .ret ∧ keyR.contains w = true ∧ α 2 = .bool true)
theorem round18 {w : List UInt8} (d : Nat) (α : Frm) (H : AHeap) (h : I18 w d α H) :
    okR (execC envK (run envK) loopO B18 α H) fun x α' H' => (x = .normal ∧ ∃ d', d' < d ∧ I18 w d' α' H') ∨ (x ≠ .normal ∧ P18 w x α' H') := by
  obtain ⟨⟨i, hd, hb, a4⟩, a0, a3⟩ := h
  have hB : B18 = .seq (.seq _ _) (.seq (.block _ (.seq _ _)) _) := rfl
  rw [hB]
  have hlen : keyR.length = 13 := rfl
  by_cases hi : i < 13
  · have e1 : decide ((i : Int) < (keyR.length : Int)) = true := decide_eq_true (by rw [hlen]; omega)
    obtain ⟨x, hx⟩ : ∃ x, keyR[i]? = some x := ⟨_, List.getElem?_eq_getElem (by rw [hlen]; exact hi)⟩
    have x1 := ix27 .full hx
    have w1 : IntKind.i64.wrap ((i : Int) + 1) = ((i + 1 : Nat) : Int) := by rw [IntWalk.i64_in _ (by omega)]; omega
    cases hq : (x == w) with
    | true =>
      have hxw : x = w := by simpa using hq
      subst hxw
      simp only [go_sem, envP, ↓reduceIte, Nat.reduceEqDiff, Nat.reduceAdd, Nat.reduceLT, a0, a3, a4, e1, x1, hq]
      exact .inr ⟨by simp, .inr ⟨rfl, has_yes hx, by simp only [go_sem, ↓reduceIte, Nat.reduceEqDiff]⟩⟩
    | false =>
      simp only [go_sem, envP, ↓reduceIte, Nat.reduceEqDiff, Nat.reduceAdd, Nat.reduceLT, a0, a3, a4, e1, x1, hq, w1]
      refine .inl ⟨trivial, d - 1, by omega, ⟨i + 1, by omega, fun j hj => ?_, ?_⟩, ?_, ?_⟩
      · by_cases hji : j = i
        · subst hji
          rw [hx]
          intro hc
          simp only [Option.some.injEq] at hc
          subst hc
          simp at hq
        · exact hb j (by omega)
      all_goals simp only [go_sem, ↓reduceIte, Nat.reduceEqDiff, a0, a3, a4]
  · have e1 : decide ((i : Int) < (keyR.length : Int)) = false := decide_eq_false (by rw [hlen]; omega)
    simp only [go_sem, envP, ↓reduceIte, Nat.reduceEqDiff, Nat.reduceAdd, Nat.reduceLT, a0, a3, a4, e1]
    exact .inr ⟨by simp, .inl ⟨rfl, has_no fun j hj => hb j (by rw [hlen] at hj; omega)⟩⟩
theorem isKey18 (w : List UInt8) : closedCall Tryz.prog (run envK) 18 [.str w] = some (.bool (isKey w)) := by
  refine closed_ex (E := envK) (fn := Tryz.f18) (c := .seq _ (.seq R18 (.seq (.seq _ LB18) K18))) (by kernel_rfl) rfl Tryz.func18 rfl (by rw [Tryz.ntmps18]; simp) (args' := [.str w]) rfl rfl ?_ rfl
  simp only [go_sem, envP, ↓reduceIte, Nat.reduceEqDiff, Nat.reduceAdd, Nat.reduceLT, r18]
  refine block_ret (id := 0) ?_
  rw [xc_loop']
  refine okR_imp (loop_meas (I18 w) (P18 w) (fun d α H hh => round18 d α H hh) 13 _ _ ⟨⟨0, rfl, fun j hj => by omega, ?_⟩, ?_, ?_⟩) ?_
  case refine_4 =>
    rintro e α' H' (⟨rfl, hc⟩ | ⟨rfl, hc, a2⟩)
    · refine .inl ⟨.inr rfl, ?_⟩
      have hK : K18 = .seq _ _ := rfl
      rw [hK]
      rw [keyR_eq] at hc
      simp only [go_sem, envP, ↓reduceIte, Nat.reduceEqDiff, Nat.reduceAdd, Nat.reduceLT, Tryz.results18]
      rw [hc]
      exact ⟨_, rfl, rfl⟩
    · refine .inr ⟨rfl, ?_⟩
      rw [keyR_eq] at hc
      simp only [go_sem, envP, ↓reduceIte, Nat.reduceEqDiff, Nat.reduceAdd, Nat.reduceLT, Tryz.results18, a2]
      rw [hc]
      exact ⟨_, rfl, rfl⟩
  all_goals (simp only [go_sem, ↓reduceIte, Nat.reduceEqDiff]; try rfl)

/-! The program's: slices.Index, slices.Contains of strings -/
def idxS (l : List (List UInt8)) (w : List UInt8) : Int := match l.findIdx? (w == ·) with
  | some i => (i : Int)
  | none => -1
theorem idxS_some {l : List (List UInt8)} {w : List UInt8} {i : Nat} (h : l[i]? = some w) (hb : ∀ j, j < i → l[j]? ≠ some w) : idxS l w = (i : Int) := by
  have : l.findIdx? (w == ·) = some i := by
    rw [List.findIdx?_eq_some_iff_getElem]
    obtain ⟨hi, hx⟩ := List.getElem?_eq_some_iff.1 h
    refine ⟨hi, by rw [hx]; simp, fun j hj hc => hb j hj ?_⟩
    have hc := eq_of_beq hc
    rw [hc]
    exact List.getElem?_eq_getElem _
  rw [idxS, this]
theorem idxS_none {l : List (List UInt8)} {w : List UInt8} (h : ∀ j, j < l.length → l[j]? ≠ some w) : idxS l w = -1 := by
  have : l.findIdx? (w == ·) = none := by
    rw [List.findIdx?_eq_none_iff]
    intro x hx
    obtain ⟨j, hj⟩ := List.getElem?_of_mem hx
    cases hq : (w == x) with
    | false => rfl
    | true =>
      have := eq_of_beq hq
      subst this
      exact (h j (List.getElem?_eq_some_iff.1 hj).1 hj).elim
  rw [idxS, this]
theorem idxS_ge (l : List (List UInt8)) (w : List UInt8) : decide (idxS l w ≥ 0) = l.contains w := by
  cases hc : l.contains w with
  | true =>
    obtain ⟨j, hj⟩ := List.getElem?_of_mem (List.contains_iff_mem.1 hc)
    unfold idxS
    split
    · exact decide_eq_true (by omega)
    · rename_i hn
      rw [List.findIdx?_eq_none_iff] at hn
      have := hn w (List.contains_iff_mem.1 hc)
      simp at this
  | false =>
    rw [idxS_none]
    · rfl
    · intro j hj hx
      rw [has_yes hx] at hc
      cases hc
noncomputable def B230 : Code := match Tryz.f230.body with | some (.seq _ (.seq (.seq _ (.block _ (.loop c))) _)) => c | _ => .skip
noncomputable def LB230 : Code := .block 0 (.loop B230)
noncomputable def K230 : Code := match Tryz.f230.body with | some (.seq _ (.seq _ k)) => k | _ => .skip
structure I230 (o : Ab.Own) (l : List (List UInt8)) (w : List UInt8) (d : Nat) (α : Frm) (H : AHeap) : Prop where
  ex : ∃ i : Nat, i + d = l.length ∧ (∀ j, j < i → l[j]? ≠ some w) ∧ α 8 = .int .i64 (i : Int)
  a0 : α 0 = .vec o (S l)
  a1 : α 1 = .str w
  a7 : α 7 = .int .i64 (l.length : Int)
def P230 (l : List (List UInt8)) (w : List UInt8) (e : Ex) (α : Frm) (H : AHeap) : Prop := (e = .exit 0 ∧ idxS l w = -1) ∨ (e = .ret ∧ α 4 = .int .i64 (idxS l w))
theorem round230 {o : Ab.Own} {l : List (List UInt8)} {w : List UInt8} (hn : l.length ≤ 16384) (d : Nat) (α : Frm) (H : AHeap) (h : I230 o l w d α H) :
    okR (execC envK (run envK) loopO B230 α H) fun x α' H' => (x = .normal ∧ ∃ d', d' < d ∧ I230 o l w d' α' H') ∨ (x ≠ .normal ∧ P230 l w x α' H') := by
  obtain ⟨⟨i, hd, hb, a8⟩, a0, a1, a7⟩ := h
  have hB : B230 = .seq _ (.seq _ (.seq (.block _ (.seq _ (.seq _ _))) _)) := rfl
  rw [hB]
  by_cases hi : i < l.length
  · have e1 : decide ((i : Int) < (l.length : Int)) = true := decide_eq_true (by omega)
    obtain ⟨x, hx⟩ : ∃ x, l[i]? = some x := ⟨_, List.getElem?_eq_getElem hi⟩
    have x1 := ix27 o hx
    have w1 : IntKind.i64.wrap ((i : Int) + 1) = ((i + 1 : Nat) : Int) := by rw [IntWalk.i64_in _ (by omega)]; omega
    cases hq : (w == x) with
    | true =>
      have hxw : w = x := by simpa using hq
      subst hxw
      simp only [go_sem, envP, ↓reduceIte, Nat.reduceEqDiff, Nat.reduceAdd, Nat.reduceLT, a0, a1, a7, a8, e1, x1, hq]
      exact .inr ⟨by simp, .inr ⟨rfl, by simp only [go_sem, ↓reduceIte, Nat.reduceEqDiff, a8]; rw [idxS_some hx hb]⟩⟩
    | false =>
      simp only [go_sem, envP, ↓reduceIte, Nat.reduceEqDiff, Nat.reduceAdd, Nat.reduceLT, a0, a1, a7, a8, e1, x1, hq, w1]
      refine .inl ⟨trivial, d - 1, by omega, ⟨i + 1, by omega, fun j hj => ?_, ?_⟩, ?_, ?_, ?_⟩
      · by_cases hji : j = i
        · subst hji
          rw [hx]
          intro hc
          simp only [Option.some.injEq] at hc
          subst hc
          simp at hq
        · exact hb j (by omega)
      all_goals simp only [go_sem, ↓reduceIte, Nat.reduceEqDiff, a0, a1, a7, a8]
  · have e1 : decide ((i : Int) < (l.length : Int)) = false := decide_eq_false (by omega)
    simp only [go_sem, envP, ↓reduceIte, Nat.reduceEqDiff, Nat.reduceAdd, Nat.reduceLT, a0, a1, a7, a8, e1]
    exact .inr ⟨by simp, .inl ⟨rfl, idxS_none fun j hj => hb j (by omega)⟩⟩
theorem np_vec {o : Ab.Own} {l : List AV} (h : AV.noPtr.go l = true) : (AV.vec o.bare l).noPtr = true := by
  cases o <;> simp [AV.noPtr, Own.bare, h]
theorem bare_bare (o : Ab.Own) : o.bare.bare = o.bare := by cases o <;> rfl
theorem index230 (o : Ab.Own) (l : List (List UInt8)) (w : List UInt8) (hn : l.length ≤ 16384) : closedCall Tryz.prog (run envK) 230 [.vec o (S l), .str w] = some (.int .i64 (idxS l w)) := by
  refine closed_ex (E := envK) (fn := Tryz.f230) (c := .seq _ (.seq (.seq _ LB230) K230)) (by kernel_rfl) rfl Tryz.func230 rfl (by rw [Tryz.ntmps230]; simp) (args' := [.vec o.bare (S l), .str w]) rfl ?_ ?_ rfl
  · show ((AV.vec o.bare (S l)).noPtr && _) = true
    rw [np_vec (S_np l)]
    rfl
  simp only [go_sem, envP, ↓reduceIte, Nat.reduceEqDiff, Nat.reduceAdd, Nat.reduceLT]
  refine block_ret (id := 0) ?_
  rw [xc_loop']
  refine okR_imp (loop_meas (I230 o.bare l w) (P230 l w) (fun d α H hh => round230 hn d α H hh) l.length _ _ ⟨⟨0, by omega, fun j hj => by omega, ?_⟩, ?_, ?_, ?_⟩) ?_
  case refine_5 =>
    rintro e α' H' (⟨rfl, hc⟩ | ⟨rfl, a4⟩)
    · refine .inl ⟨.inr rfl, ?_⟩
      have hK : K230 = .seq _ _ := rfl
      rw [hK]
      simp only [go_sem, envP, ↓reduceIte, Nat.reduceEqDiff, Nat.reduceAdd, Nat.reduceLT, Tryz.results230]
      rw [hc]
      exact ⟨_, rfl, rfl⟩
    · refine .inr ⟨rfl, ?_⟩
      simp only [go_sem, envP, ↓reduceIte, Nat.reduceEqDiff, Nat.reduceAdd, Nat.reduceLT, Tryz.results230, a4]
      exact ⟨_, rfl, rfl⟩
  all_goals (simp only [go_sem, ↓reduceIte, Nat.reduceEqDiff]; try rfl)
end Go.Proofs.YtiagmokcjljliaaGreatDoor

/- ScriptWords: words and numbers on the machine: Contains, IsKey, number, HasPrefix, sign. -/
namespace Go.Proofs.YtiagmokcjljliaaGreatDoor
set_option linter.unusedVariables false
set_option linter.unusedSimpArgs false
set_option maxRecDepth 100000
open Go Go.Ab

theorem call230 (call : CallO) (args : List AV) (H : AHeap) : callA envK call (.fn (.func 230) [] []) args H = bnd (closedCall Tryz.prog call 230 args) fun v => some (v, H) := callA_closed (E := envK) (by kernel_rfl) args
theorem call142 (call : CallO) (args : List AV) (H : AHeap) : callA envK call (.fn (.func 142) [] []) args H = bnd (closedCall Tryz.prog call 142 args) fun v => some (v, H) := callA_closed (E := envK) (by kernel_rfl) args
theorem call143 (call : CallO) (args : List AV) (H : AHeap) : callA envK call (.fn (.func 143) [] []) args H = bnd (closedCall Tryz.prog call 143 args) fun v => some (v, H) := callA_closed (E := envK) (by kernel_rfl) args
theorem call144 (call : CallO) (args : List AV) (H : AHeap) : callA envK call (.fn (.func 144) [] []) args H = bnd (closedCall Tryz.prog call 144 args) fun v => some (v, H) := callA_closed (E := envK) (by kernel_rfl) args
theorem call145 (call : CallO) (args : List AV) (H : AHeap) : callA envK call (.fn (.func 145) [] []) args H = bnd (closedCall Tryz.prog call 145 args) fun v => some (v, H) := callA_closed (E := envK) (by kernel_rfl) args
theorem call121 (call : CallO) (args : List AV) (H : AHeap) : callA envK call (.fn (.func 121) [] []) args H = bnd (closedCall Tryz.prog call 121 args) fun v => some (v, H) := callA_closed (E := envK) (by kernel_rfl) args
theorem call208 (call : CallO) (args : List AV) (H : AHeap) : callA envK call (.fn (.func 208) [] []) args H = bnd (closedCall Tryz.prog call 208 args) fun v => some (v, H) := callA_closed (E := envK) (by kernel_rfl) args
attribute [go_sem] call230 call142 call143 call144 call145 call121 call208

theorem contains142 (o : Ab.Own) (l : List (List UInt8)) (w : List UInt8) (hn : l.length ≤ 16384) : closedCall Tryz.prog (run envK) 142 [.vec o (S l), .str w] = some (.bool (l.contains w)) := by
  refine closed_same (E := envK) (fn := Tryz.f142) (c := .seq _ (.seq _ _)) (by kernel_rfl) rfl Tryz.func142 rfl (by rw [Tryz.ntmps142]; simp) (args' := [.vec o.bare (S l), .str w]) rfl ?_ ?_ rfl rfl
  · show ((AV.vec o.bare (S l)).noPtr && _) = true
    rw [np_vec (S_np l)]
    rfl
  · have x1 := index230 o.bare l w hn
    have x2 := idxS_ge l w
    simp only [go_sem, envP, ↓reduceIte, Nat.reduceEqDiff, Nat.reduceAdd, Nat.reduceLT, x1, x2, Tryz.results142]
theorem keys143 : closedCall Tryz.prog (run envK) 143 [] = some (.vec .full (S keyL)) := run_of 5 (isV_of (by kernel_rfl))
theorem isKey76 (w : List UInt8) : closedCall Tryz.prog (run envK) 76 [.str w] = some (.bool (isKey w)) := by
  refine closed_same (E := envK) (fn := Tryz.f76) (c := .seq _ (.seq _ _)) (by kernel_rfl) rfl Tryz.func76 rfl (by rw [Tryz.ntmps76]; simp) (args' := [.str w]) rfl rfl ?_ rfl rfl
  have x1 := contains142 .full keyL w (by decide)
  have x2 := keys143
  simp only [go_sem, envP, ↓reduceIte, Nat.reduceEqDiff, Nat.reduceAdd, Nat.reduceLT, x1, x2, Tryz.results76]
  rfl

/-! Numbers -/
theorem parse_some {w : List UInt8} (hw : w.length ≤ 1099511627776) {u : Nat} (h : Lib.parseUintB 63 w = .ok u) : closedCall Tryz.prog (run envK) 144 [.str w, .int .i64 10, .int .i64 63] = some (.tup [.int .u64 u, .val .nilIface]) := by
  refine closed_ext (E := envK) (by kernel_rfl) (args := [.str w, .int .i64 10, .int .i64 63]) (v := .tup [.int .u64 u, .val .nilIface]) (H := .empty) rfl ?_ rfl
  show extK 144 [.str w, .int .i64 10, .int .i64 63] .empty = _
  simp [extK, orX, copyX, stringX, indexX, decodeX, parseX, hw, h]
theorem parse_none {w : List UInt8} (hw : w.length ≤ 1099511627776) (h : ∀ u, Lib.parseUintB 63 w ≠ .ok u) : closedCall Tryz.prog (run envK) 144 [.str w, .int .i64 10, .int .i64 63] = some (.tup [.any, .iface 378 .any]) := by
  refine closed_ext (E := envK) (by kernel_rfl) (args := [.str w, .int .i64 10, .int .i64 63]) (v := .tup [.any, .iface 378 .any]) (H := .empty) rfl ?_ rfl
  show extK 144 [.str w, .int .i64 10, .int .i64 63] .empty = _
  cases hp : Lib.parseUintB 63 w with
  | ok u => exact (h u hp).elim
  | range => simp [extK, orX, copyX, stringX, indexX, decodeX, parseX, hw, hp]
  | _ => simp [extK, orX, copyX, stringX, indexX, decodeX, parseX, hw, hp]
theorem ofV_ni : ofV .nilIface = .val .nilIface := (rfl)
theorem ne_nil : binC Tryz.prog .neq 165 true (.val .nilIface) (.val .nilIface) = some (.bool false) := by kernel_rfl
theorem ne_any : binC Tryz.prog .neq 165 true (.iface 378 .any) (.val .nilIface) = some (.bool true) := by kernel_rfl
theorem number78 (w : List UInt8) (hw : w.length ≤ 1099511627776) : closedCall Tryz.prog (run envK) 78 [.str w] = some (.int .i64 (if numOk w = true then 0 else 23)) := by
  refine closed_same (E := envK) (fn := Tryz.f78) (c := .seq _ (.seq (.seq _ (.seq _ _)) (.seq _ _))) (by kernel_rfl) rfl Tryz.func78 rfl (by rw [Tryz.ntmps78]; simp) (args' := [.str w]) rfl rfl ?_ rfl rfl
  cases hp : Lib.parseUintB 63 w with
  | ok u =>
    have hk : numOk w = true := by simp [numOk, hp]
    have x1 := parse_some hw hp
    simp only [go_sem, envP, ↓reduceIte, Nat.reduceEqDiff, Nat.reduceAdd, Nat.reduceLT, x1, ofV_ni, ne_nil, hk, extractA, isConstO, Bool.or_true, Bool.false_or, Tryz.results78]
  | range =>
    have hk : numOk w = false := by simp [numOk, hp]
    have x1 := parse_none hw (fun u => by rw [hp]; simp)
    simp only [go_sem, envP, ↓reduceIte, Nat.reduceEqDiff, Nat.reduceAdd, Nat.reduceLT, x1, ofV_ni, ne_any, hk, extractA, isConstO, Bool.or_true, Bool.false_or, Tryz.results78]
    rfl
  | _ =>
    have hk : numOk w = false := by simp [numOk, hp]
    have x1 := parse_none hw (fun u => by rw [hp]; simp)
    simp only [go_sem, envP, ↓reduceIte, Nat.reduceEqDiff, Nat.reduceAdd, Nat.reduceLT, x1, ofV_ni, ne_any, hk, extractA, isConstO, Bool.or_true, Bool.false_or, Tryz.results78]
    rfl

/-! Signs -/
def pfx (s p : List UInt8) : Bool := decide (p.length ≤ s.length) && (s.take p.length == p)
theorem sl9b (l : List UInt8) {b : Nat} (h2 : b ≤ l.length) : sliceA Tryz.prog 9 none (some (.int .i64 (b : Int))) (.str l) = some (.str (l.take b)) := by
  have h3 : (b : Int) ≤ (l.length : Int) := by omega
  simp [sliceA, str9, sliceLH, sliceBnd, h3]
theorem prefix208 (s p : List UInt8) : closedCall Tryz.prog (run envK) 208 [.str s, .str p] = some (.bool (pfx s p)) := by
  refine closed_same (E := envK) (fn := Tryz.f208) (c := .seq _ (.seq _ _)) (by kernel_rfl) rfl Tryz.func208 rfl (by rw [Tryz.ntmps208]; simp) (args' := [.str s, .str p]) rfl rfl ?_ rfl rfl
  by_cases h : p.length ≤ s.length
  · have e1 : decide ((s.length : Int) ≥ (p.length : Int)) = true := decide_eq_true (by omega)
    have x1 := sl9b s h
    simp only [go_sem, envP, ↓reduceIte, Nat.reduceEqDiff, Nat.reduceAdd, Nat.reduceLT, e1, x1, Tryz.results208]
    simp [pfx, h]
  · have e1 : decide ((s.length : Int) ≥ (p.length : Int)) = false := decide_eq_false (by omega)
    simp only [go_sem, envP, ↓reduceIte, Nat.reduceEqDiff, Nat.reduceAdd, Nat.reduceLT, e1, Tryz.results208]
    simp [pfx, h]
theorem prefix121 (s p : List UInt8) : closedCall Tryz.prog (run envK) 121 [.str s, .str p] = some (.bool (pfx s p)) := by
  refine closed_same (E := envK) (fn := Tryz.f121) (c := .seq _ (.seq _ _)) (by kernel_rfl) rfl Tryz.func121 rfl (by rw [Tryz.ntmps121]; simp) (args' := [.str s, .str p]) rfl rfl ?_ rfl rfl
  have x1 := prefix208 s p
  simp only [go_sem, envP, ↓reduceIte, Nat.reduceEqDiff, Nat.reduceAdd, Nat.reduceLT, x1, Tryz.results121]
def signS : List (List UInt8) := [61, 61] :: signL.map fun b => [b]
theorem signs145 : closedCall Tryz.prog (run envK) 145 [] = some (.vec .full (S signS)) := run_of 5 (isV_of (by kernel_rfl))
theorem pfx_nil (p : List UInt8) (h : p ≠ []) : pfx [] p = false := by
  cases p with
  | nil => exact (h rfl).elim
  | cons a p => simp [pfx]
theorem pfx_one (c : UInt8) (t : List UInt8) (b : UInt8) : pfx (c :: t) [b] = (c == b) := by
  simp [pfx]
theorem find_one (c : UInt8) (t : List UInt8) : ∀ l : List UInt8, (l.map fun b => [b]).find? (pfx (c :: t)) = if l.contains c = true then some [c] else none
  | [] => rfl
  | b :: l => by
    rw [List.map_cons, List.find?_cons, pfx_one, find_one c t l]
    cases hb : (c == b) with
    | true =>
      have := eq_of_beq hb
      subst this
      simp
    | false =>
      have hne : c ≠ b := by simpa using hb
      simp [hne]
/-- The sign at which a text begins. -/
theorem find_sign (r : List UInt8) : signS.find? (pfx r) = if signLen r = 0 then none else some (r.take (signLen r)) := by
  cases r with
  | nil => rfl
  | cons c t =>
    rw [signS, List.find?_cons, find_one, signLen]
    cases t with
    | nil =>
      have h2 : pfx [c] [61, 61] = false := by simp [pfx]
      rw [h2]
      simp only [List.head?_nil, Option.map_none, reduceCtorEq, and_false, if_false]
      by_cases h : signL.contains c = true
      · rw [if_pos h, if_pos h]; simp
      · rw [if_neg h, if_neg h]; simp
    | cons d t =>
      have h2 : pfx (c :: d :: t) [61, 61] = (decide (c.toNat = 61) && decide (d.toNat = 61)) := by
        have e1 : ∀ x : UInt8, (x == 61) = decide (x.toNat = 61) := fun x => by
          rw [Bool.eq_iff_iff, beq_iff_eq, decide_eq_true_eq]
          exact ⟨fun h => by rw [h]; rfl, fun h => UInt8.toNat_inj.1 h⟩
        show (decide (2 ≤ (c :: d :: t).length) && ([c, d] == [61, 61])) = _
        rw [← e1, ← e1]
        simp
      rw [h2]
      by_cases hq : c.toNat = 61 ∧ d.toNat = 61
      · have hq' : c.toNat = 61 ∧ ((d :: t).head?.map UInt8.toNat) = some 61 := ⟨hq.1, by simp [hq.2]⟩
        have hc : c = 61 := UInt8.toNat_inj.1 hq.1
        have hd : d = 61 := UInt8.toNat_inj.1 hq.2
        rw [if_pos hq']
        subst hc hd
        rfl
      · have hq' : ¬(c.toNat = 61 ∧ ((d :: t).head?.map UInt8.toNat) = some 61) := by simpa using hq
        have hb : (decide (c.toNat = 61) && decide (d.toNat = 61)) = false := by simpa using hq
        rw [if_neg hq', hb]
        by_cases h : signL.contains c = true
        · rw [if_pos h, if_pos h]; simp
        · rw [if_neg h, if_neg h]; simp

noncomputable def B80 : Code := match Tryz.f80.body with | some (.seq _ (.seq (.seq _ (.block _ (.loop c))) _)) => c | _ => .skip
noncomputable def LB80 : Code := .block 0 (.loop B80)
noncomputable def K80 : Code := match Tryz.f80.body with | some (.seq _ (.seq _ k)) => k | _ => .skip
structure I80 (r : List UInt8) (k : Nat) (H0 : AHeap) (d : Nat) (α : Frm) (H : AHeap) : Prop where
  ex : ∃ i : Nat, i + d = 14 ∧ (signS.drop i).find? (pfx r) = signS.find? (pfx r) ∧ α 7 = .int .i64 (i : Int)
  a0 : α 0 = .ptr k 0
  a5 : α 5 = .vec .full (S signS)
  a6 : α 6 = .int .i64 14
  hH : H = H0
def P80 (s : List UInt8) (i k m : Nat) (L : List (Nat × AObj)) (e : Ex) (α : Frm) (H : AHeap) : Prop :=
  (e = .exit 0 ∧ signS.find? (pfx (s.drop i)) = none ∧ H = ⟨m, L⟩) ∨ (e = .ret ∧ ∃ x, signS.find? (pfx (s.drop i)) = some x ∧ α 2 = .str x ∧ H = ⟨m, setL L k (sc s (i + x.length))⟩)
theorem round80 {m : Nat} {L : List (Nat × AObj)} {k : Nat} {s : List UInt8} {i : Nat} (h0 : Sc m L k s i) (hi : i ≤ s.length) (hn : s.length ≤ 16384) (d : Nat) (α : Frm) (H : AHeap) (h : I80 (s.drop i) k ⟨m, L⟩ d α H) :
    okR (execC envK (run envK) loopO B80 α H) fun x α' H' => (x = .normal ∧ ∃ d', d' < d ∧ I80 (s.drop i) k ⟨m, L⟩ d' α' H') ∨ (x ≠ .normal ∧ P80 s i k m L x α' H') := by
  obtain ⟨⟨j, hd, hf, a7⟩, a0, a5, a6, rfl⟩ := h
  have hB : B80 = .seq _ (.seq _ (.seq (.block _ (.seq _ (.seq _ _))) _)) := rfl
  rw [hB]
  have hkm : (k < m) = True := eq_true h0.1
  have hc := h0.cells
  have hlen : signS.length = 14 := rfl
  by_cases hj : j < 14
  · have e1 : decide ((j : Int) < 14) = true := decide_eq_true (by omega)
    obtain ⟨x, hx⟩ : ∃ x, signS[j]? = some x := ⟨_, List.getElem?_eq_getElem (by rw [hlen]; exact hj)⟩
    have hdrop : signS.drop j = x :: signS.drop (j + 1) := by
      obtain ⟨hi, rfl⟩ := List.getElem?_eq_some_iff.1 hx
      exact List.drop_eq_getElem_cons hi
    have x1 := ix27 .full hx
    have w1 : IntKind.i64.wrap ((j : Int) + 1) = ((j + 1 : Nat) : Int) := by rw [IntWalk.i64_in _ (by omega)]; omega
    have x2 := prefix121 (s.drop i) x
    have x3 := sl9a s hi
    rw [hdrop, List.find?_cons] at hf
    cases hq : pfx (s.drop i) x with
    | true =>
      rw [hq] at x2 hf
      have hxl : x.length ≤ 2 := by
        have : ∀ y ∈ signS, y.length ≤ 2 := by decide
        exact this x (List.mem_of_getElem? hx)
      have w2 : IntKind.i64.wrap ((i : Int) + (x.length : Int)) = ((i + x.length : Nat) : Int) := by rw [IntWalk.i64_in _ (by omega)]; omega
      have st := h0.store (i + x.length)
      simp only [go_sem, envP, ↓reduceIte, Nat.reduceEqDiff, Nat.reduceAdd, Nat.reduceLT, a0, a5, a6, a7, e1, x1, x2, x3, hkm, hc, w2, st]
      exact .inr ⟨by simp, .inr ⟨rfl, x, hf.symm, by simp only [go_sem, ↓reduceIte, Nat.reduceEqDiff], rfl⟩⟩
    | false =>
      rw [hq] at x2 hf
      simp only [go_sem, envP, ↓reduceIte, Nat.reduceEqDiff, Nat.reduceAdd, Nat.reduceLT, a0, a5, a6, a7, e1, x1, x2, x3, hkm, hc, w1]
      refine .inl ⟨trivial, d - 1, by omega, ⟨j + 1, by omega, hf, ?_⟩, ?_, ?_, ?_, rfl⟩
      all_goals simp only [go_sem, ↓reduceIte, Nat.reduceEqDiff, a0, a5, a6, a7]
  · have e1 : decide ((j : Int) < 14) = false := decide_eq_false (by omega)
    rw [List.drop_of_length_le (l := signS) (by rw [hlen]; omega)] at hf
    simp only [go_sem, envP, ↓reduceIte, Nat.reduceEqDiff, Nat.reduceAdd, Nat.reduceLT, a0, a5, a6, a7, e1]
    exact .inr ⟨by simp, .inl ⟨rfl, hf.symm, rfl⟩⟩
theorem sign_c {m : Nat} {L : List (Nat × AObj)} {k : Nat} {s : List UInt8} {i : Nat} (h : Sc m L k s i) (hi : i ≤ s.length) (hn : s.length ≤ 16384) :
    run envK 80 [.ptr k 0] ⟨m, L⟩ = some (.str ((s.drop i).take (signLen (s.drop i))), ⟨m, setL L k (sc s (i + signLen (s.drop i)))⟩) := by
  have hlen : signS.length = 14 := rfl
  have x1 := signs145
  have l1 := len27 .full signS
  rw [hlen] at l1
  have hf := find_sign (s.drop i)
  have hle : signLen (s.drop i) ≤ (s.drop i).length := by
    cases s.drop i with
    | nil => simp [signLen]
    | cons c t =>
      rw [signLen]
      split
      · rename_i hq
        cases t with
        | nil => simp at hq
        | cons d t => simp
      · split <;> simp
  refine open_eq (E := envK) (f := 80) (fn := Tryz.f80) (c := .seq _ (.seq (.seq _ LB80) K80)) (by kernel_rfl) rfl Tryz.func80 rfl (by rw [Tryz.ntmps80]; simp) ?_
  simp only [go_sem, envP, ↓reduceIte, Nat.reduceEqDiff, Nat.reduceAdd, Nat.reduceLT, x1, l1]
  refine block_ret (id := 0) ?_
  rw [xc_loop']
  refine okR_imp (loop_meas (I80 (s.drop i) k ⟨m, L⟩) (P80 s i k m L) (fun d α H hh => round80 h hi hn d α H hh) 14 _ _ ⟨⟨0, by omega, rfl, ?_⟩, ?_, ?_, ?_, rfl⟩) ?_
  case refine_5 =>
    rintro e α' H' (⟨rfl, hx, rfl⟩ | ⟨rfl, x, hx, a2, rfl⟩)
    · refine .inl ⟨.inr rfl, ?_⟩
      have hK : K80 = .seq _ _ := rfl
      rw [hK]
      rw [hf] at hx
      have hz : signLen (s.drop i) = 0 := by
        by_cases hz : signLen (s.drop i) = 0
        · exact hz
        · rw [if_neg hz] at hx; cases hx
      simp only [go_sem, envP, ↓reduceIte, Nat.reduceEqDiff, Nat.reduceAdd, Nat.reduceLT, Tryz.results80]
      rw [hz, Nat.add_zero, h.same]
      rfl
    · refine .inr ⟨rfl, ?_⟩
      rw [hf] at hx
      have hz : signLen (s.drop i) ≠ 0 := fun hz => by rw [if_pos hz] at hx; cases hx
      rw [if_neg hz] at hx
      simp only [Option.some.injEq] at hx
      subst hx
      simp only [go_sem, envP, ↓reduceIte, Nat.reduceEqDiff, Nat.reduceAdd, Nat.reduceLT, Tryz.results80, a2]
      rw [List.length_take, Nat.min_eq_left hle]
  all_goals (simp only [go_sem, ↓reduceIte, Nat.reduceEqDiff]; try rfl)
end Go.Proofs.YtiagmokcjljliaaGreatDoor

/- ScriptWords: the reference's Lead on the machine. -/
namespace Go.Ab
open Go
theorem okR_bnd {x : Option Res} {g : Res → Option Res} {Q P : Ex → Frm → AHeap → Prop} (h : okR x Q) (hi : ∀ e α H, Q e α H → okR (g (e, α, H)) P) : okR (bnd x g) P := by
  obtain ⟨e, α, H, rfl, hq⟩ := okR_get h
  exact hi e α H hq
end Go.Ab
namespace Go.Proofs.YtiagmokcjljliaaGreatDoor
set_option linter.unusedVariables false
set_option linter.unusedSimpArgs false
set_option maxRecDepth 100000
open Go Go.Ab

theorem beqI (b : UInt8) (n : Nat) : ((b.toNat : Int) == ((n : Nat) : Int)) = decide (b.toNat = n) := by
  rw [Bool.eq_iff_iff, beq_iff_eq, decide_eq_true_eq]
  omega
theorem bneI (b : UInt8) (n : Nat) : ((b.toNat : Int) != ((n : Nat) : Int)) = !decide (b.toNat = n) := by rw [bne, beqI]

noncomputable def B10 : Code := match Tryz.f10.body with | some (.seq _ (.seq (.block _ (.loop c)) _)) => c | _ => .skip
noncomputable def LB10 : Code := .block 0 (.loop B10)
noncomputable def K10 : Code := match Tryz.f10.body with | some (.seq _ (.seq _ k)) => k | _ => .skip
noncomputable def D10 : Code := match B10 with | .seq _ (.block _ (.seq _ (.seq _ (.block _ (.loop c))))) => c | _ => .skip
noncomputable def LD10 : Code := .block 2 (.loop D10)
structure ID10 (s : List UInt8) (e : Nat) (d : Nat) (α : Frm) (H : AHeap) : Prop where
  ex : ∃ i : Nat, i + d = s.length ∧ runTo notNl s i = e ∧ α 1 = .int .i64 (i : Int)
  a0 : α 0 = .str s
def PD10 (s : List UInt8) (e : Nat) (x : Ex) (α : Frm) (H : AHeap) : Prop := x = .exit 2 ∧ α 0 = .str s ∧ α 1 = .int .i64 (e : Int)
theorem roundD10 {s : List UInt8} {e : Nat} (hn : s.length ≤ 16384) (d : Nat) (α : Frm) (H : AHeap) (h : ID10 s e d α H) :
    okR (execC envK (run envK) loopO D10 α H) fun x α' H' => (x = .normal ∧ ∃ d', d' < d ∧ ID10 s e d' α' H') ∨ (x ≠ .normal ∧ PD10 s e x α' H') := by
  obtain ⟨⟨i, hd, he, a1⟩, a0⟩ := h
  have hB : D10 = .seq (.seq _ _) _ := rfl
  rw [hB]
  clear hB
  by_cases hi : i < s.length
  · have e1 : decide ((i : Int) < (s.length : Int)) = true := decide_eq_true (by omega)
    obtain ⟨b, hb⟩ := get_some hi
    have x1 := ix9 hb
    have c1 : ((b.toNat : Int) != 10) = !decide (b.toNat = 10) := bneI b 10
    have w1 : IntKind.i64.wrap ((i : Int) + 1) = ((i + 1 : Nat) : Int) := by rw [IntWalk.i64_in _ (by omega)]; omega
    cases hq : decide (b.toNat = 10) with
    | true =>
      rw [hq] at c1
      have hp : notNl b = false := by simpa [notNl] using hq
      rw [runTo_stop hb hp] at he
      subst he
      simp only [go_sem, envP, ↓reduceIte, Nat.reduceEqDiff, Nat.reduceAdd, Nat.reduceLT, a0, a1, e1, x1, c1, Bool.not_true, Bool.not_false]
      refine .inr ⟨by simp, rfl, ?_, ?_⟩
      all_goals simp only [go_sem, ↓reduceIte, Nat.reduceEqDiff, a0, a1]
    | false =>
      rw [hq] at c1
      have hp : notNl b = true := by simpa [notNl] using hq
      rw [runTo_step hb hp] at he
      simp only [go_sem, envP, ↓reduceIte, Nat.reduceEqDiff, Nat.reduceAdd, Nat.reduceLT, a0, a1, e1, x1, c1, w1, Bool.not_true, Bool.not_false]
      refine .inl ⟨trivial, d - 1, by omega, ⟨i + 1, by omega, he, ?_⟩, ?_⟩
      all_goals simp only [go_sem, ↓reduceIte, Nat.reduceEqDiff, a0, a1]
  · have e1 : decide ((i : Int) < (s.length : Int)) = false := decide_eq_false (by omega)
    rw [runTo_end (by omega)] at he
    subst he
    simp only [go_sem, envP, ↓reduceIte, Nat.reduceEqDiff, Nat.reduceAdd, Nat.reduceLT, a0, a1, e1]
    refine .inr ⟨by simp, rfl, ?_, ?_⟩
    all_goals simp only [go_sem, ↓reduceIte, Nat.reduceEqDiff, a0, a1]
structure I10 (s : List UInt8) (e : Nat) (d : Nat) (α : Frm) (H : AHeap) : Prop where
  ex : ∃ i : Nat, i + d = s.length ∧ leadTo s i = e ∧ α 1 = .int .i64 (i : Int)
  a0 : α 0 = .str s
def P10 (e : Nat) (x : Ex) (α : Frm) (H : AHeap) : Prop := (x = .exit 0 ∧ α 1 = .int .i64 (e : Int)) ∨ (x = .ret ∧ α 4 = .int .i64 (e : Int))
theorem round10 {s : List UInt8} {e : Nat} (hn : s.length ≤ 16384) (d : Nat) (α : Frm) (H : AHeap) (h : I10 s e d α H) :
    okR (execC envK (run envK) loopO B10 α H) fun x α' H' => (x = .normal ∧ ∃ d', d' < d ∧ I10 s e d' α' H') ∨ (x ≠ .normal ∧ P10 e x α' H') := by
  obtain ⟨⟨i, hd, he, a1⟩, a0⟩ := h
  have hB : B10 = .seq (.seq _ _) (.block 1 (.seq (.seq _ _) (.seq (.seq _ _) LD10))) := rfl
  rw [hB]
  clear hB
  by_cases hi : i < s.length
  · have e1 : decide ((i : Int) < (s.length : Int)) = true := decide_eq_true (by omega)
    obtain ⟨b, hb⟩ := get_some hi
    have x1 := ix9 hb
    have c1 : ((b.toNat : Int) == 32) = decide (b.toNat = 32) := beqI b 32
    have c2 : ((b.toNat : Int) == 9) = decide (b.toNat = 9) := beqI b 9
    have c3 : ((b.toNat : Int) == 10) = decide (b.toNat = 10) := beqI b 10
    have c4 : ((b.toNat : Int) == 13) = decide (b.toNat = 13) := beqI b 13
    have c5 : ((b.toNat : Int) != 35) = !decide (b.toNat = 35) := bneI b 35
    have w1 : IntKind.i64.wrap ((i : Int) + 1) = ((i + 1 : Nat) : Int) := by rw [IntWalk.i64_in _ (by omega)]; omega
    have hbl : isBl b = (decide (b.toNat = 32) || decide (b.toNat = 9) || decide (b.toNat = 10) || decide (b.toNat = 13)) := rfl
    generalize q1 : decide (b.toNat = 32) = p1 at *
    generalize q2 : decide (b.toNat = 9) = p2 at *
    generalize q3 : decide (b.toNat = 10) = p3 at *
    generalize q4 : decide (b.toNat = 13) = p4 at *
    cases hB : isBl b with
    | true =>
      rw [leadTo_blank hb hB] at he
      rw [hB] at hbl
      cases p1 <;> cases p2 <;> cases p3 <;> cases p4 <;> (try (exact absurd hbl (by decide)))
      all_goals
        simp only [go_sem, envP, ↓reduceIte, Nat.reduceEqDiff, Nat.reduceAdd, Nat.reduceLT, a0, a1, e1, x1, c1, c2, c3, c4, w1, Bool.not_true, Bool.not_false]
        refine .inl ⟨trivial, d - 1, by omega, ⟨i + 1, by omega, he, ?_⟩, ?_⟩
      all_goals simp only [go_sem, ↓reduceIte, Nat.reduceEqDiff, a0, a1]
    | false =>
      rw [hB] at hbl
      cases p1 <;> cases p2 <;> cases p3 <;> cases p4 <;> (try (exact absurd hbl (by decide)))
      cases hq : decide (b.toNat = 35) with
      | false =>
        rw [hq] at c5
        rw [leadTo_stop hb hB (by simpa using hq)] at he
        subst he
        simp only [go_sem, envP, ↓reduceIte, Nat.reduceEqDiff, Nat.reduceAdd, Nat.reduceLT, a0, a1, e1, x1, c1, c2, c3, c4, c5, Bool.not_true, Bool.not_false]
        refine .inr ⟨by simp, .inr ⟨rfl, ?_⟩⟩
        simp only [go_sem, ↓reduceIte, Nat.reduceEqDiff, a0, a1]
      | true =>
        rw [hq] at c5
        have hp : b.toNat = 35 := by simpa using hq
        have hnn : notNl b = true := by simp [notNl, hp]
        rw [leadTo_hash hb hB hp] at he
        simp only [go_sem, envP, ↓reduceIte, Nat.reduceEqDiff, Nat.reduceAdd, Nat.reduceLT, a0, a1, e1, x1, c1, c2, c3, c4, c5, Bool.not_true, Bool.not_false]
        have key : ∀ α0 : Frm, α0 0 = .str s → α0 1 = .int .i64 (i : Int) → okR (execC envK (run envK) loopO LD10 α0 H) fun x α' H' => (x = .normal ∧ α' 0 = .str s ∧ α' 1 = .int .i64 (runTo notNl s i : Nat)) := by
          intro α0 b0 b1
          refine block_end ?_
          rw [xc_loop']
          refine okR_imp (loop_meas (ID10 s (runTo notNl s i)) (PD10 s (runTo notNl s i)) (fun d α H hh => roundD10 hn d α H hh) (s.length - i) _ _ ⟨⟨i, by omega, rfl, b1⟩, b0⟩) ?_
          rintro x α2 H2 ⟨rfl, d0, d1⟩
          exact .inl ⟨.inr rfl, rfl, d0, d1⟩
        refine okR_bnd (key _ (by simp only [go_sem, ↓reduceIte, Nat.reduceEqDiff, a0, a1]) (by simp only [go_sem, ↓reduceIte, Nat.reduceEqDiff, a0, a1])) ?_
        rintro x α' H' ⟨rfl, d0, d1⟩
        simp only [go_sem]
        have g1 := runTo_ge notNl s (i := i + 1) (by omega)
        have g2 := runTo_le notNl s (i + 1)
        rw [← runTo_step hb hnn] at g1 g2
        exact .inl ⟨trivial, s.length - runTo notNl s i, by omega, ⟨_, by omega, he, d1⟩, d0⟩
  · have e1 : decide ((i : Int) < (s.length : Int)) = false := decide_eq_false (by omega)
    rw [leadTo_end (by omega)] at he
    subst he
    simp only [go_sem, envP, ↓reduceIte, Nat.reduceEqDiff, Nat.reduceAdd, Nat.reduceLT, a0, a1, e1]
    refine .inr ⟨by simp, .inl ⟨rfl, ?_⟩⟩
    simp only [go_sem, ↓reduceIte, Nat.reduceEqDiff, a0, a1]
theorem lead10 (s : List UInt8) (i : Nat) (hi : i ≤ s.length) (hn : s.length ≤ 16384) : closedCall Tryz.prog (run envK) 10 [.str s, .int .i64 (i : Int)] = some (.int .i64 (leadTo s i : Nat)) := by
  refine closed_ex (E := envK) (fn := Tryz.f10) (c := .seq _ (.seq LB10 K10)) (by kernel_rfl) rfl Tryz.func10 rfl (by rw [Tryz.ntmps10]; simp) (args' := [.str s, .int .i64 (i : Int)]) rfl rfl ?_ rfl
  simp only [go_sem, envP, ↓reduceIte, Nat.reduceEqDiff, Nat.reduceAdd, Nat.reduceLT]
  refine block_ret (id := 0) ?_
  rw [xc_loop']
  refine okR_imp (loop_meas (I10 s (leadTo s i)) (P10 (leadTo s i)) (fun d α H hh => round10 hn d α H hh) (s.length - i) _ _ ⟨⟨i, by omega, rfl, ?_⟩, ?_⟩) ?_
  case refine_3 =>
    rintro e α' H' (⟨rfl, a1⟩ | ⟨rfl, a4⟩)
    · refine .inl ⟨.inr rfl, ?_⟩
      have hK : K10 = .seq _ _ := rfl
      rw [hK]
      simp only [go_sem, envP, ↓reduceIte, Nat.reduceEqDiff, Nat.reduceAdd, Nat.reduceLT, Tryz.results10, a1]
      exact ⟨_, rfl, rfl⟩
    · refine .inr ⟨rfl, ?_⟩
      simp only [go_sem, envP, ↓reduceIte, Nat.reduceEqDiff, Nat.reduceAdd, Nat.reduceLT, Tryz.results10, a4]
      exact ⟨_, rfl, rfl⟩
  all_goals (simp only [go_sem, ↓reduceIte, Nat.reduceEqDiff]; try rfl)
end Go.Proofs.YtiagmokcjljliaaGreatDoor

/- ScriptWords: strings.Builder's WriteByte and runes.Unquote on the machine. -/
namespace Go.Proofs.YtiagmokcjljliaaGreatDoor
set_option linter.unusedVariables false
set_option linter.unusedSimpArgs false
set_option maxRecDepth 100000
open Go Go.Ab

/-! A builder in the memory -/
def bytesV (l : List UInt8) : List AV := l.map fun b => .int .u8 (b.toNat : Int)
theorem bytesV_len (l : List UInt8) : (bytesV l).length = l.length := by simp [bytesV]
theorem bytesV_app (l : List UInt8) (c : UInt8) : bytesV l ++ [.int .u8 (c.toNat : Int)] = bytesV (l ++ [c]) := by simp [bytesV]
theorem bytesA_V : ∀ l : List UInt8, bytesA (bytesV l) = some l
  | [] => rfl
  | b :: l => by
    have hb := b.toNat_lt
    show (if 0 ≤ (b.toNat : Int) ∧ (b.toNat : Int) < 256 then bnd (bytesA (bytesV l)) fun l => some (UInt8.ofNat ((b.toNat : Int)).toNat :: l) else none) = _
    rw [if_pos (by omega), bytesA_V l]
    simp [bnd]
def bd (p : AV) (o : Ab.Own) (bs : List UInt8) : AObj := .cells (some 199) [p, .vec o (bytesV bs)]
/-- A builder with these bytes. -/
def Bd (m : Nat) (L : List (Nat × AObj)) (b : Nat) (bs : List UInt8) : Prop :=
  b < m ∧ ((bs = [] ∧ getL L b = some (bd (.val (.pointer none)) .nil [])) ∨ (bs ≠ [] ∧ ∃ j, j < m ∧ j ≠ b ∧ getL L b = some (bd (.ptr b 0) (.own j) bs) ∧ getL L j = some (.tip bs.length 5)))

theorem elem146 : elemQ Tryz.prog 146 = some 5 := by kernel_rfl
theorem sz5 : szQ Tryz.prog 5 = some 1 := by kernel_rfl
theorem by5 : byQ Tryz.prog 5 = some 1 := by kernel_rfl
theorem zero5 : zeroQ Tryz.prog 5 = some [.int .u8 0] := by kernel_rfl
theorem sz146 : szQ Tryz.prog 146 = some 1 := by kernel_rfl
theorem agg146 : aggQ Tryz.prog 146 = some false := by kernel_rfl
theorem agg5 : aggQ Tryz.prog 5 = some false := by kernel_rfl
theorem ld146 (cs : List AV) (off : Nat) : ldA Tryz.prog 146 cs off = cs[off]? := ld_one agg146 cs off
theorem sz197 : szQ Tryz.prog 197 = some 1 := by kernel_rfl
theorem fields199 : fieldsQ Tryz.prog 199 = some [(0, 197), (1, 146)] := by kernel_rfl
theorem zero199 : zeroQ Tryz.prog 199 = some [.val (.pointer none), .vec .nil []] := by kernel_rfl
theorem fa199_1 (n k : Nat) : fieldAddrA Tryz.prog 199 1 (.ptr n k) = some (.ptr n (k + 1)) := by simp [fieldAddrA, fields199, sz146]
theorem bs146 (x : Int) (H : AHeap) : buildSliceA Tryz.prog 146 1 [(0, .int .u8 x)] H = some (.vec .full [.int .u8 x], H) := by
  simp [buildSliceA, elem146, sz5, zero5, inOrder, allWidth, allOneL, allOne, AV.erase, AV.width, AV.cells, AV.one, ba_int]
theorem ao (t1 t2 : TypeId) (x y : AV) (H : AHeap) : appendOp envK.mutT Tryz.prog [t1, t2] [x, y] H = appendA (fun _ => false) Tryz.prog t1 t2 x y H := (rfl)
theorem stride146 (l : List UInt8) : strideQ Tryz.prog 146 (bytesV l) = true := by
  cases l <;> simp [strideQ, elem146, sz5, bytesV, AV.width]
theorem ap_nil (x : UInt8) (m : Nat) (L : List (Nat × AObj)) : appendA (fun _ => false) Tryz.prog 146 146 (.vec .nil []) (.vec .full [.int .u8 (x.toNat : Int)]) ⟨m, L⟩ = some (.vec (.own m) (bytesV [x]), ⟨m + 1, (m, .tip 1 5) :: L⟩) := by
  have h1 := stride146 [x]
  have h0 := stride146 []
  simp only [bytesV, List.map_cons, List.map_nil] at h1 h0
  simp [appendA, elem146, sz5, by5, zero5, persist, appendVec, h1, h0, AHeap.push, bytesV]
theorem ap_own (l : List UInt8) (x : UInt8) {m j : Nat} {L : List (Nat × AObj)} (hj : j < m) (hg : getL L j = some (.tip l.length 5)) (hb : l.length ≤ 16384) : appendA (fun _ => false) Tryz.prog 146 146 (.vec (.own j) (bytesV l)) (.vec .full [.int .u8 (x.toNat : Int)]) ⟨m, L⟩ = some (.vec (.own j) (bytesV (l ++ [x])), ⟨m, setL L j (.tip (l.length + 1) 5)⟩) := by
  have h1 : strideQ Tryz.prog 146 [.int .u8 (x.toNat : Int)] = true := stride146 [x]
  have h2 : (bytesV l).length + 1 ≤ 140737488355328 := by rw [bytesV_len]; omega
  have h3 : (bytesV l).length + 1 ≤ 9223372036854775807 := by rw [bytesV_len]; omega
  have h4 := bytesV_app l x
  have h5 := bytesV_len l
  simp [appendA, elem146, sz5, by5, zero5, persist, appendVec, stride146, h1, h2, h3, h4, AHeap.get, AHeap.set, hj, hg]
  rw [h5] at *
  simp [h4, show l.length + 1 ≤ 140737488355328 by omega, show l.length + 1 ≤ 9223372036854775807 by omega]
theorem call228 (call : CallO) (args : List AV) (H : AHeap) : callA envK call (.fn (.func 228) [] []) args H = call 228 args H := callA_open (by kernel_rfl) args
theorem call147 (call : CallO) (args : List AV) (H : AHeap) : callA envK call (.fn (.func 147) [] []) args H = call 147 args H := callA_open (by kernel_rfl) args
theorem call109 (call : CallO) (args : List AV) (H : AHeap) : callA envK call (.fn (.func 109) [] []) args H = call 109 args H := callA_open (by kernel_rfl) args
attribute [go_sem] ld146 fa199_1 bs146 ao call228 call147 call109
theorem copyA_fresh {m b : Nat} {L : List (Nat × AObj)} (hb : b < m) (hg : getL L b = some (bd (.val (.pointer none)) .nil [])) : run envK 228 [.ptr b 0] ⟨m, L⟩ = some (.tup [], ⟨m, setL L b (bd (.ptr b 0) .nil [])⟩) := by
  rw [run_ext (by kernel_rfl)]
  show extK 228 _ _ = _
  simp [extK, orX, copyX, AHeap.get, hb, hg, bd, isNilP, AHeap.set]
theorem copyA_used {m b : Nat} {L : List (Nat × AObj)} {o : Ab.Own} {bs : List UInt8} (hb : b < m) (hg : getL L b = some (bd (.ptr b 0) o bs)) : run envK 228 [.ptr b 0] ⟨m, L⟩ = some (.tup [], ⟨m, L⟩) := by
  rw [run_ext (by kernel_rfl)]
  show extK 228 _ _ = _
  simp [extK, orX, copyX, AHeap.get, hb, hg, bd, isNilP, isPtr0]
theorem write_c {m b : Nat} {L : List (Nat × AObj)} {bs : List UInt8} (h : Bd m L b bs) (c : UInt8) (hn : bs.length ≤ 16384) : ∃ m' L', run envK 147 [.ptr b 0, .int .u8 (c.toNat : Int)] ⟨m, L⟩ = some (.val .nilIface, ⟨m', L'⟩) ∧ Bd m' L' b (bs ++ [c]) := by
  obtain ⟨hbm, h⟩ := h
  rcases h with ⟨rfl, hg⟩ | ⟨hne, j, hjm, hjb, hg, hj⟩
  · have x1 := copyA_fresh hbm hg
    have hkm : (b < m) = True := eq_true hbm
    have hkm' : (b < m + 1) = True := eq_true (by omega)
    have hmb : (m = b) = False := eq_false (by omega)
    have g1 : getL (setL L b (bd (.ptr b 0) .nil [])) b = some (bd (.ptr b 0) .nil []) := by rw [getL_setL, if_pos rfl, hg]; rfl
    have hc : cellsQ (setL L b (bd (.ptr b 0) .nil [])) b = some [.ptr b 0, .vec .nil []] := by rw [cellsQ, g1]; rfl
    have x2 := ap_nil c m (setL L b (bd (.ptr b 0) .nil []))
    have stg : ∀ L1, getL L1 b = some (bd (.ptr b 0) .nil []) → storeA Tryz.prog 146 (.ptr b 1) (.vec (.own m) (bytesV [c])) ⟨m + 1, (m, .tip 1 5) :: L1⟩ = some (undefA, ⟨m + 1, (m, .tip 1 5) :: setL L1 b (bd (.ptr b 0) (.own m) [c])⟩) := by
      intro L1 g
      rw [store_ptr, if_pos (by omega), cellsQ_tip, if_neg (by omega)]
      simp [cellsQ, g, bnd, sz146, AV.width, AV.cells, allOne, AV.one, getL_cons, show m ≠ b by omega, bd, reObj, overlay, setL_cons]
    have st := stg _ g1
    rw [setL_setL] at st
    refine ⟨m + 1, (m, .tip 1 5) :: setL L b (bd (.ptr b 0) (.own m) [c]), open_eq (E := envK) (f := 147) (fn := Tryz.f147) (c := .seq _ (.seq _ (.seq _ (.seq _ _)))) (by kernel_rfl) rfl Tryz.func147 rfl (by rw [Tryz.ntmps147]; simp) ?_, ?_⟩
    · simp only [go_sem, envP, ↓reduceIte, Nat.reduceEqDiff, Nat.reduceAdd, Nat.reduceLT, x1, x2, st, hkm, hc, Tryz.results147]
      try rfl
    · refine ⟨by omega, .inr ⟨by simp, m, by omega, by omega, ?_, ?_⟩⟩
      · rw [getL_cons, if_neg (by omega), getL_setL, if_pos rfl, hg]
        rfl
      · rw [getL_cons, if_pos rfl]
        rfl
  · have x1 := copyA_used hbm hg
    have hkm : (b < m) = True := eq_true hbm
    have hc : cellsQ L b = some [.ptr b 0, .vec (.own j) (bytesV bs)] := by simp [cellsQ, hg, bd]
    have x2 := ap_own bs c hjm hj hn
    have g2 : getL (setL L j (.tip (bs.length + 1) 5)) b = some (bd (.ptr b 0) (.own j) bs) := by rw [getL_setL, if_neg hjb]; exact hg
    have st : storeA Tryz.prog 146 (.ptr b 1) (.vec (.own j) (bytesV (bs ++ [c]))) ⟨m, setL L j (.tip (bs.length + 1) 5)⟩ = some (undefA, ⟨m, setL (setL L j (.tip (bs.length + 1) 5)) b (bd (.ptr b 0) (.own j) (bs ++ [c]))⟩) := by
      rw [store_ptr, if_pos hbm]
      simp [cellsQ, g2, bd, bnd, sz146, AV.width, AV.cells, allOne, AV.one, reObj, overlay]
    refine ⟨m, setL (setL L j (.tip (bs.length + 1) 5)) b (bd (.ptr b 0) (.own j) (bs ++ [c])), open_eq (E := envK) (f := 147) (fn := Tryz.f147) (c := .seq _ (.seq _ (.seq _ (.seq _ _)))) (by kernel_rfl) rfl Tryz.func147 rfl (by rw [Tryz.ntmps147]; simp) ?_, ?_⟩
    · simp only [go_sem, envP, ↓reduceIte, Nat.reduceEqDiff, Nat.reduceAdd, Nat.reduceLT, x1, x2, st, hkm, hc, Tryz.results147]
      try rfl
    · refine ⟨hbm, .inr ⟨by simp, j, hjm, hjb, ?_, ?_⟩⟩
      · rw [getL_setL, if_pos rfl, g2]
        rfl
      · rw [getL_setL, if_neg (fun h => hjb h.symm), getL_setL, if_pos rfl, hj]
        simp
theorem string_c {m b : Nat} {L : List (Nat × AObj)} {bs : List UInt8} (h : Bd m L b bs) : ∃ H', run envK 109 [.ptr b 0] ⟨m, L⟩ = some (.str bs, H') := by
  obtain ⟨hbm, h⟩ := h
  rw [run_ext (by kernel_rfl)]
  show ∃ H', extK 109 _ _ = _
  rcases h with ⟨rfl, hg⟩ | ⟨hne, j, hjm, hjb, hg, hj⟩
  · exact ⟨_, by simp [extK, orX, copyX, stringX, AHeap.get, hbm, hg, bd, bytesV]; rfl⟩
  · have h1 := bytesA_V bs
    have h2 := bytesV_len bs
    have h3 : bs.length ≠ 0 := fun hz => hne (List.length_eq_zero_iff.1 hz)
    exact ⟨_, by simp [extK, orX, copyX, stringX, AHeap.get, hbm, hg, bd, hjm, hj, h2, h3, hne, h1, bnd]; rfl⟩
end Go.Proofs.YtiagmokcjljliaaGreatDoor
