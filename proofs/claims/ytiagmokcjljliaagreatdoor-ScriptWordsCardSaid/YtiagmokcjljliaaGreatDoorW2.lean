/- ScriptWords: the law on the machine. -/
import Derived.Test.YtiagmokcjljliaaGreatDoorW1
import Derived.Test.YtiagmokcjljliaaGreatDoorC2
import Derived.Test.YtiagmokcjljliaaGreatDoorDb
namespace Go.Proofs.YtiagmokcjljliaaGreatDoor
set_option linter.unusedVariables false
set_option linter.unusedSimpArgs false
set_option maxRecDepth 100000
open Go Go.Ab

/-- Run of one line that is refused. -/
def runX : CallO := fun f args H => match args with
  | [.vec .full [.str l]] => if f = 7 then (match wrong l with | some e => some (.vec .ro [.str (errI e)], H) | none => none) else none
  | _ => none
theorem runX_ok : CallOk Tryz.prog runX := by
  intro f args H v H' h
  unfold runX at h
  split at h
  · rename_i l
    split at h
    · rename_i hf
      subst hf
      split at h
      · rename_i e he
        simp only [Option.some.injEq, Prod.mk.injEq] at h
        obtain ⟨rfl, rfl⟩ := h
        exact ⟨callB 7 _ Tryz.func7 (by kernel_rfl) (by kernel_rfl), calls_of_closed envWOk (run7 he) H⟩
      · cases h
    · cases h
  · cases h

/-! The fixed scripts -/
def lines : List (List UInt8) := [[111, 112, 101, 110, 32, 109, 97, 105, 110], [111, 112, 101, 110, 32, 53, 32, 34, 97, 34], [101, 100, 105, 116, 32, 109, 97, 105, 110, 32, 49, 32, 50], [101, 100, 105, 116, 32, 109, 97, 105, 110, 32, 49, 32, 34, 120, 34], [99, 108, 111, 115, 101], [99, 108, 111, 115, 101, 32, 109, 97, 105, 110, 32, 109, 97, 105, 110], [114, 101, 110, 97, 109, 101, 32, 109, 97, 105, 110, 32, 49, 55], [114, 101, 110, 97, 109, 101, 32, 109, 97, 105, 110, 32, 120, 32, 121], [108, 97, 98, 101, 108, 32, 109, 97, 105, 110, 32, 49, 55], [101, 120, 116, 114, 97, 99, 116, 32, 109, 97, 105, 110, 32, 49, 32, 98], [105, 110, 108, 105, 110, 101, 32, 109, 97, 105, 110], [109, 111, 118, 101, 32, 109, 97, 105, 110, 32, 53], [111, 114, 103, 97, 110, 105, 115, 101], [111, 114, 103, 97, 110, 105, 115, 101, 32, 109, 97, 105, 110, 32, 53], [97, 110, 110, 111, 116, 97, 116, 101, 32, 109, 97, 105, 110], [101, 114, 97, 115, 101, 32, 109, 97, 105, 110, 32, 120], [116, 121, 112, 101, 115], [102, 111, 108, 100], [102, 111, 108, 100, 32, 109, 97, 105, 110, 32, 49], [116, 105, 100, 121], [115, 104, 111, 119], [115, 104, 111, 119, 32, 109, 97, 105, 110, 32, 34, 97, 34], [100, 105, 97, 103, 115, 32, 53], [119, 104, 101, 114, 101, 32, 109, 97, 105, 110], [117, 115, 101, 115, 32, 109, 97, 105, 110, 32, 109, 97, 105, 110], [116, 121, 112, 101, 32, 109, 97, 105, 110, 32, 49], [112, 108, 97, 121], [112, 108, 97, 121, 32, 120], [108, 105, 110, 116, 32, 53], [111, 102, 102, 101, 114, 32, 109, 97, 105, 110, 32, 53], [111, 102, 102, 101, 114, 32, 109, 97, 105, 110, 32, 34, 97, 34, 32, 53], [114, 117, 110], [114, 117, 110, 32, 120], [114, 117, 110, 32, 53, 32, 120], [112, 108, 97, 121, 32, 49, 48, 52, 56, 53, 55, 55]]
theorem seenS : ∀ s ∈ lines, closedCall Tryz.prog (execF envC 200) 7 [.vec .full [.str [111, 112, 101, 110, 32, 109, 97, 105, 110, 32, 34, 100, 101, 102, 32, 109, 97, 105, 110, 40, 41, 32, 123, 125, 34], .str s, .str [115, 104, 111, 119, 32, 109, 97, 105, 110]]] = some (.vec .ro [.str [111, 107], .str [101, 114, 114, 111, 114, 32, 50, 52], .str [100, 101, 102, 32, 109, 97, 105, 110, 40, 41, 32, 123, 125]]) :=
  List.forall_mem_cons.2 ⟨script0, List.forall_mem_cons.2 ⟨script1, List.forall_mem_cons.2 ⟨script2, List.forall_mem_cons.2 ⟨script3, List.forall_mem_cons.2 ⟨script4, List.forall_mem_cons.2 ⟨script5, List.forall_mem_cons.2 ⟨script6, List.forall_mem_cons.2 ⟨script7, List.forall_mem_cons.2 ⟨script8, List.forall_mem_cons.2 ⟨script9, List.forall_mem_cons.2 ⟨script10, List.forall_mem_cons.2 ⟨script11, List.forall_mem_cons.2 ⟨script12, List.forall_mem_cons.2 ⟨script13, List.forall_mem_cons.2 ⟨script14, List.forall_mem_cons.2 ⟨script15, List.forall_mem_cons.2 ⟨script16, List.forall_mem_cons.2 ⟨script17, List.forall_mem_cons.2 ⟨script18, List.forall_mem_cons.2 ⟨script19, List.forall_mem_cons.2 ⟨script20, List.forall_mem_cons.2 ⟨script21, List.forall_mem_cons.2 ⟨script22, List.forall_mem_cons.2 ⟨script23, List.forall_mem_cons.2 ⟨script24, List.forall_mem_cons.2 ⟨script25, List.forall_mem_cons.2 ⟨script26, List.forall_mem_cons.2 ⟨script27, List.forall_mem_cons.2 ⟨script28, List.forall_mem_cons.2 ⟨script29, List.forall_mem_cons.2 ⟨script30, List.forall_mem_cons.2 ⟨script31, List.forall_mem_cons.2 ⟨script32, List.forall_mem_cons.2 ⟨script33, List.forall_mem_cons.2 ⟨script34, fun _ h => (List.not_mem_nil h).elim⟩⟩⟩⟩⟩⟩⟩⟩⟩⟩⟩⟩⟩⟩⟩⟩⟩⟩⟩⟩⟩⟩⟩⟩⟩⟩⟩⟩⟩⟩⟩⟩⟩⟩⟩
/-- What stands about a line. -/
def lineX : CallO := fun f args H => match args with
  | [.vec .full [.str a, .str s, .str b]] => if (f == 7 && (decide (a = [111, 112, 101, 110, 32, 109, 97, 105, 110, 32, 34, 100, 101, 102, 32, 109, 97, 105, 110, 40, 41, 32, 123, 125, 34]) && (decide (b = [115, 104, 111, 119, 32, 109, 97, 105, 110]) && lines.contains s))) = true then some (.vec .ro [.str [111, 107], .str [101, 114, 114, 111, 114, 32, 50, 52], .str [100, 101, 102, 32, 109, 97, 105, 110, 40, 41, 32, 123, 125]], H) else none
  | _ => none
theorem lineX_ok : CallOk Tryz.prog lineX := by
  intro f args H v H' h
  unfold lineX at h
  split at h
  · rename_i a s b
    split at h
    · rename_i hf
      simp only [Option.some.injEq, Prod.mk.injEq] at h
      obtain ⟨rfl, rfl⟩ := h
      simp only [Bool.and_eq_true, beq_iff_eq, decide_eq_true_eq] at hf
      obtain ⟨rfl, rfl, rfl, hs⟩ := hf
      exact ⟨callB 7 _ Tryz.func7 (by kernel_rfl) (by kernel_rfl), calls_C (seenS s (List.contains_iff_mem.1 hs)) H⟩
    · cases h
  · cases h
def tabL : Memo := [(5, [], .bool true), (8, [.int .i64 24], .str [101, 114, 114, 111, 114, 32, 50, 52]), (7, [.vec .full [.str [110, 111, 98, 111, 100, 121], .str [], .str [53], .str [117, 115, 101, 32, 120]]], .vec .ro [.str [101, 114, 114, 111, 114, 32, 54, 50], .str [101, 114, 114, 111, 114, 32, 54, 50], .str [101, 114, 114, 111, 114, 32, 54, 50], .str [101, 114, 114, 111, 114, 32, 54, 50]]), (6, [.vec .ro [.str [111, 107], .str [101, 114, 114, 111, 114, 32, 50, 52], .str [100, 101, 102, 32, 109, 97, 105, 110, 40, 41, 32, 123, 125]], .vec .full [.str [111, 107], .str [101, 114, 114, 111, 114, 32, 50, 52], .str [100, 101, 102, 32, 109, 97, 105, 110, 40, 41, 32, 123, 125]]], .bool true), (6, [.vec .ro [.str [101, 114, 114, 111, 114, 32, 54, 50], .str [101, 114, 114, 111, 114, 32, 54, 50], .str [101, 114, 114, 111, 114, 32, 54, 50], .str [101, 114, 114, 111, 114, 32, 54, 50]], .vec .full [.str [101, 114, 114, 111, 114, 32, 54, 50], .str [101, 114, 114, 111, 114, 32, 54, 50], .str [101, 114, 114, 111, 114, 32, 54, 50], .str [101, 114, 114, 111, 114, 32, 54, 50]]], .bool true)]
theorem seenL : ∀ x ∈ tabL, Seen Tryz.prog x :=
  List.forall_mem_cons.2 ⟨⟨callB 5 _ Tryz.func5 (by kernel_rfl) (by kernel_rfl), envS, 200, envSOk, rfl, awakeC⟩,
  List.forall_mem_cons.2 ⟨⟨callB 8 _ Tryz.func8 (by kernel_rfl) (by kernel_rfl), envC, 200, envCOk, rfl, said24⟩,
  List.forall_mem_cons.2 ⟨⟨callB 7 _ Tryz.func7 (by kernel_rfl) (by kernel_rfl), envC, 200, envCOk, rfl, nobody⟩,
  List.forall_mem_cons.2 ⟨⟨callB 6 _ Tryz.func6 (by kernel_rfl) (by kernel_rfl), envC, 200, envCOk, rfl, same3⟩,
  List.forall_mem_cons.2 ⟨⟨callB 6 _ Tryz.func6 (by kernel_rfl) (by kernel_rfl), envC, 200, envCOk, rfl, same4⟩,
  fun _ h => (List.not_mem_nil h).elim⟩⟩⟩⟩⟩

def goodL : List FuncId := [3]
def extL : CallO := orX lexX (orX runX (orX sayX (orX sameErrX (orX lineX (memoX tabL)))))
noncomputable def envL : Env := { P := Tryz.prog, G := fun f => goodL.contains f, cl := fun _ => false, mutT := fun _ => false, dyn := fun _ => false, df := fun _ => false, ext := extL }
theorem all_okL : goodL.all (okF envL) = true := by kernel_rfl
theorem envLOk : EnvOk envL where
  mixed := mixed
  good := fun f hf => okF_good (List.all_eq_true.1 all_okL f (List.contains_iff_mem.1 hf))
  ext := orX_ok lexX_ok (orX_ok runX_ok (orX_ok sayX_ok (orX_ok sameErrX_ok (orX_ok lineX_ok (memoX_ok seenL)))))
theorem envLP : envL.P = Tryz.prog := (rfl)
theorem mutL (t : TypeId) : envL.mutT t = false := (rfl)
theorem callL (f : FuncId) (call : CallO) (args : List AV) (H : AHeap) : callA envL call (.fn (.func f) [] []) args H = call f args H := callA_open (E := envL) rfl args
attribute [go_sem] mutL callL
theorem run4L (l : List UInt8) (H : AHeap) : run envL 4 [.str l] H = some (lexV (lex l), H) := by
  rw [run_ext (E := envL) (by kernel_rfl)]
  rfl
theorem run5L (H : AHeap) : run envL 5 [] H = some (.bool true, H) := by
  rw [run_ext (E := envL) (by kernel_rfl)]
  rfl
theorem run7L {l : List UInt8} {e : Nat} (h : wrong l = some e) (H : AHeap) : run envL 7 [.vec .full [.str l]] H = some (.vec .ro [.str (errI e)], H) := by
  rw [run_ext (E := envL) (by kernel_rfl)]
  show orX lexX (orX runX (orX sayX (orX sameErrX (orX lineX (memoX tabL))))) 7 [.vec .full [.str l]] H = _
  simp only [orX, lexX, runX, h, if_true]
theorem run8L {z : Int} (hz : errL.contains z = true) (H : AHeap) : run envL 8 [.int .i64 z] H = some (.str (errI z), H) := by
  rw [run_ext (E := envL) (by kernel_rfl)]
  show orX lexX (orX runX (orX sayX (orX sameErrX (orX lineX (memoX tabL))))) 8 [.int .i64 z] H = _
  simp only [orX, lexX, runX, sayX, hz, Bool.and_true, beq_self_eq_true, if_true]
theorem run24L (H : AHeap) : run envL 8 [.int .i64 24] H = some (.str [101, 114, 114, 111, 114, 32, 50, 52], H) := by
  rw [run_ext (E := envL) (by kernel_rfl)]
  rfl
theorem run6L {z : Int} (hz : errL.contains z = true) (H : AHeap) : run envL 6 [.vec .ro [.str (errI z)], .vec .full [.str (errI z)]] H = some (.bool true, H) := by
  rw [run_ext (E := envL) (by kernel_rfl)]
  show orX lexX (orX runX (orX sayX (orX sameErrX (orX lineX (memoX tabL))))) 6 [.vec .ro [.str (errI z)], .vec .full [.str (errI z)]] H = _
  have h1 : (errL.any fun y => decide (errI z = errI y)) = true := List.any_eq_true.2 ⟨z, List.contains_iff_mem.1 hz, decide_eq_true rfl⟩
  simp only [orX, lexX, runX, sayX, sameErrX, h1, beq_self_eq_true, decide_true, Bool.true_and, if_true]
theorem runlL {s : List UInt8} (hs : s ∈ lines) (H : AHeap) : run envL 7 [.vec .full [.str [111, 112, 101, 110, 32, 109, 97, 105, 110, 32, 34, 100, 101, 102, 32, 109, 97, 105, 110, 40, 41, 32, 123, 125, 34], .str s, .str [115, 104, 111, 119, 32, 109, 97, 105, 110]]] H = some (.vec .ro [.str [111, 107], .str [101, 114, 114, 111, 114, 32, 50, 52], .str [100, 101, 102, 32, 109, 97, 105, 110, 40, 41, 32, 123, 125]], H) := by
  rw [run_ext (E := envL) (by kernel_rfl)]
  show orX lexX (orX runX (orX sayX (orX sameErrX (orX lineX (memoX tabL))))) 7 [.vec .full [.str [111, 112, 101, 110, 32, 109, 97, 105, 110, 32, 34, 100, 101, 102, 32, 109, 97, 105, 110, 40, 41, 32, 123, 125, 34], .str s, .str [115, 104, 111, 119, 32, 109, 97, 105, 110]]] H = _
  simp only [orX, lexX, runX, sayX, sameErrX, lineX, List.contains_iff_mem.2 hs, beq_self_eq_true, decide_true, Bool.and_self, if_true]
theorem same3L (H : AHeap) : run envL 6 [.vec .ro [.str [111, 107], .str [101, 114, 114, 111, 114, 32, 50, 52], .str [100, 101, 102, 32, 109, 97, 105, 110, 40, 41, 32, 123, 125]], .vec .full [.str [111, 107], .str [101, 114, 114, 111, 114, 32, 50, 52], .str [100, 101, 102, 32, 109, 97, 105, 110, 40, 41, 32, 123, 125]]] H = some (.bool true, H) := by
  rw [run_ext (E := envL) (by kernel_rfl)]
  rfl
theorem nobodyL (H : AHeap) : run envL 7 [.vec .full [.str [110, 111, 98, 111, 100, 121], .str [], .str [53], .str [117, 115, 101, 32, 120]]] H = some (.vec .ro [.str [101, 114, 114, 111, 114, 32, 54, 50], .str [101, 114, 114, 111, 114, 32, 54, 50], .str [101, 114, 114, 111, 114, 32, 54, 50], .str [101, 114, 114, 111, 114, 32, 54, 50]], H) := by
  rw [run_ext (E := envL) (by kernel_rfl)]
  rfl
theorem same4L (H : AHeap) : run envL 6 [.vec .ro [.str [101, 114, 114, 111, 114, 32, 54, 50], .str [101, 114, 114, 111, 114, 32, 54, 50], .str [101, 114, 114, 111, 114, 32, 54, 50], .str [101, 114, 114, 111, 114, 32, 54, 50]], .vec .full [.str [101, 114, 114, 111, 114, 32, 54, 50], .str [101, 114, 114, 111, 114, 32, 54, 50], .str [101, 114, 114, 111, 114, 32, 54, 50], .str [101, 114, 114, 111, 114, 32, 54, 50]]] H = some (.bool true, H) := by
  rw [run_ext (E := envL) (by kernel_rfl)]
  rfl

/-! The law -/
noncomputable def R6L : Code := match Tryz.f3.body with | some (.seq _ (.seq _ (.seq _ (.seq _ (.seq (.seq r _) _))))) => r | _ => .skip
noncomputable def B3L : Code := match Tryz.f3.body with | some (.seq _ (.seq _ (.seq _ (.seq _ (.seq (.seq _ (.block _ (.loop c))) _))))) => c | _ => .skip
noncomputable def K3L : Code := match Tryz.f3.body with | some (.seq _ (.seq _ (.seq _ (.seq _ (.seq _ k))))) => k | _ => .skip
theorem r6L (call : CallO) (α : Frm) (H : AHeap) : execC envL call loopO R6L α H = some (.normal, fun i => if i = 42 then .int .i64 0 else if i = 41 then .int .i64 35 else if i = 40 then .vec .full (S lines) else α i, H) := by rfl
theorem bs27 (a : List UInt8) (H : AHeap) : buildSliceA Tryz.prog 27 1 [(0, .str a)] H = some (.vec .full [.str a], H) := by
  simp [buildSliceA, elem27, sz9, zero9, inOrder, allWidth, allOneL, allOne, AV.erase, AV.width, AV.cells, AV.one, ba_str]
theorem bs27c (a b c : List UInt8) (H : AHeap) : buildSliceA Tryz.prog 27 3 [(0, .str a), (1, .str b), (2, .str c)] H = some (.vec .full [.str a, .str b, .str c], H) := by
  simp [buildSliceA, elem27, sz9, zero9, inOrder, allWidth, allOneL, allOne, AV.erase, AV.width, AV.cells, AV.one, ba_str]
theorem bs27d (a b c d : List UInt8) (H : AHeap) : buildSliceA Tryz.prog 27 4 [(0, .str a), (1, .str b), (2, .str c), (3, .str d)] H = some (.vec .full [.str a, .str b, .str c, .str d], H) := by
  simp [buildSliceA, elem27, sz9, zero9, inOrder, allWidth, allOneL, allOne, AV.erase, AV.width, AV.cells, AV.one, ba_str]
attribute [go_sem] bs27 bs27c bs27d
structure I3L (d : Nat) (α : Frm) (H : AHeap) : Prop where
  ex : ∃ i : Nat, i + d = 35 ∧ α 42 = .int .i64 (i : Int)
  a40 : α 40 = .vec .full (S lines)
  a41 : α 41 = .int .i64 35
def P3L (x : Ex) (α : Frm) (H : AHeap) : Prop := x = .exit 0
theorem round3 (d : Nat) (α : Frm) (H : AHeap) (h : I3L d α H) :
    okR (execC envL (run envL) loopO B3L α H) fun x α' H' => (x = .normal ∧ ∃ d', d' < d ∧ I3L d' α' H') ∨ (x ≠ .normal ∧ P3L x α' H') := by
  obtain ⟨⟨i, hd, a42⟩, a40, a41⟩ := h
  have hB : B3L = .seq _ (.seq _ (.seq (.block _ (.seq _ (.seq _ _))) _)) := rfl
  rw [hB]
  clear hB
  have hlen : lines.length = 35 := rfl
  by_cases hi : i < 35
  · have e1 : decide ((i : Int) < 35) = true := decide_eq_true (by omega)
    have w1 : IntKind.i64.wrap ((i : Int) + 1) = ((i + 1 : Nat) : Int) := by rw [IntWalk.i64_in _ (by omega)]; omega
    have hs : lines[i]? = some lines[i] := List.getElem?_eq_getElem (by omega)
    have hm : lines[i] ∈ lines := List.getElem_mem (by omega)
    have ix := ix27 .full hs
    have x1 := runlL hm H
    have x2 := run24L H
    have x3 := same3L H
    simp only [go_sem, envLP, ↓reduceIte, Nat.reduceEqDiff, Nat.reduceAdd, Nat.reduceLT, a40, a41, a42, e1, w1, ix, x1, x2, x3, Bool.not_true]
    refine .inl ⟨trivial, 35 - (i + 1), by omega, ⟨i + 1, by omega, ?_⟩, ?_, ?_⟩
    all_goals simp only [go_sem, ↓reduceIte, Nat.reduceEqDiff, a40, a41]
  · have e1 : decide ((i : Int) < 35) = false := decide_eq_false (by omega)
    simp only [go_sem, envLP, ↓reduceIte, Nat.reduceEqDiff, Nat.reduceAdd, Nat.reduceLT, a40, a41, a42, e1]
    exact .inr ⟨by simp, rfl⟩
noncomputable def T3L : Code := match Tryz.f3.body with | some (.seq _ (.seq _ (.seq _ (.seq _ t)))) => t | _ => .skip
def True3 (x : Ex) (α : Frm) (H : AHeap) : Prop := x = .ret ∧ α 2 = .bool true
theorem rest3 (α : Frm) (H : AHeap) : okR (execC envL (run envL) loopO T3L α H) True3 := by
  have hT : T3L = .seq (.seq R6L (.block 0 (.loop B3L))) K3L := rfl
  rw [hT]
  clear hT
  simp only [go_sem, r6L]
  refine block_ret ?_
  rw [xc_loop']
  refine okR_imp (loop_meas I3L P3L round3 35 _ _ ⟨⟨0, rfl, ?_⟩, ?_, ?_⟩) ?_
  case refine_4 =>
    intro x α' H' hx
    cases hx
    refine .inl ⟨.inr rfl, ?_⟩
    have hK : K3L = .seq _ .ret := rfl
    rw [hK]
    clear hK
    have x0 := run5L H'
    have x1 := nobodyL H'
    have x2 := run8L (z := 62) rfl H'
    have x3 := same4L H'
    have x4 : errI 62 = [101, 114, 114, 111, 114, 32, 54, 50] := rfl
    rw [x4] at x2
    simp only [go_sem, envLP, ↓reduceIte, Nat.reduceEqDiff, Nat.reduceAdd, Nat.reduceLT, x0, x1, x2, x3]
    refine ⟨rfl, ?_⟩
    simp only [go_sem, ↓reduceIte, Nat.reduceEqDiff]
  all_goals (simp only [go_sem, ↓reduceIte, Nat.reduceEqDiff]; try rfl)
theorem law3 (l : List UInt8) : closedCall Tryz.prog (run envL) 3 [.str l] = some (.bool true) := by
  refine closed_ex (E := envL) (fn := Tryz.f3) (c := .seq _ (.seq _ (.seq (.seq _ _) (.seq (.seq _ _) T3L)))) (by kernel_rfl) rfl Tryz.func3 rfl (by rw [Tryz.ntmps3]; simp) (args' := [.str l]) rfl rfl ?_ rfl
  refine okR_imp (P := True3) ?_ ?_
  rotate_left
  · rintro x α H ⟨rfl, h2⟩
    simp only [go_sem, Tryz.results3, h2]
    exact ⟨_, rfl, rfl⟩
  have x1 := run4L l ⟨0, []⟩
  have x0 := run5L ⟨0, []⟩
  cases hl : lex l with
  | error q =>
    obtain ⟨e, a⟩ := q
    have hw : wrong l = some e := by simp only [wrong, hl]
    have hm := wrong_mem hw
    have x2 := run7L hw ⟨0, []⟩
    have x3 := run8L hm ⟨0, []⟩
    have x4 := run6L hm ⟨0, []⟩
    have hne : ((e : Int) != 0) = true := by
      rcases err_mem hm with h | h | h | h | h | h | h <;> rw [h] <;> rfl
    rw [hl] at x1
    simp only [lexV] at x1
    simp only [go_sem, envLP, ↓reduceIte, Nat.reduceEqDiff, Nat.reduceAdd, Nat.reduceLT, x0, x1, x2, x3, x4, extractA, hne]
    refine ⟨rfl, ?_⟩
    simp only [go_sem, ↓reduceIte, Nat.reduceEqDiff]
  | ok r =>
    cases r with
    | nil => exact absurd rfl (lex_ne hl)
    | cons t r =>
      rw [hl] at x1
      simp only [lexV] at x1
      have z0 : ((0 : Int) != 0) = false := rfl
      have ix := tok_ix t r .ro
      have hb := beqN t.1 1
      by_cases ht : t.1 = 1
      · have hne : ((t.1 : Int) != 1) = false := by
          rw [decide_eq_true ht] at hb
          exact congrArg not hb
        simp only [go_sem, envLP, ↓reduceIte, Nat.reduceEqDiff, Nat.reduceAdd, Nat.reduceLT, x1, extractA, hne, z0, ix]
        exact rest3 _ _
      · have hne : ((t.1 : Int) != 1) = true := by
          rw [decide_eq_false ht] at hb
          exact congrArg not hb
        have hw : wrong l = some 62 := by simp only [wrong, hl, if_neg ht]
        have hm := wrong_mem hw
        have x2 := run7L hw ⟨0, []⟩
        have x3 : run envL 8 [.int .i64 62] ⟨0, []⟩ = some (.str (errI ((62 : Nat) : Int)), ⟨0, []⟩) := run8L (z := 62) rfl ⟨0, []⟩
        have x4 := run6L hm ⟨0, []⟩
        simp only [go_sem, envLP, ↓reduceIte, Nat.reduceEqDiff, Nat.reduceAdd, Nat.reduceLT, x1, x2, x3, x4, extractA, hne, z0, ix, Bool.not_true]
        exact rest3 _ _
end Go.Proofs.YtiagmokcjljliaaGreatDoor
