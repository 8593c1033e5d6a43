/- ImportsSort: the modules of awake's example are read, in the kernel. -/
import Derived.Test.YtkpnccaoolbeeaaGreatDoorBx
import Derived.Test.YtkpnccaoolbeeaaGreatDoorIv
import Derived.Test.YtkpnccaoolbeeaaGreatDoorCn
import Derived.Test.YtkpnccaoolbeeaaGreatDoorQ1
import Derived.KernelRfl
namespace Go.Proofs.YtkpnccaoolbeeaaGreatDoor
set_option linter.unusedVariables false
open Go Go.Ab
def goodT : List FuncId := [4, 7, 16, 30, 54, 83, 117, 84, 118, 119, 120, 85, 62, 122, 171, 64, 63, 97, 96, 141, 125, 174, 175, 200, 55, 86, 126, 127, 128, 130, 176, 201, 177, 133, 129, 131, 178, 202, 179, 180, 205, 225, 239, 246, 252, 265, 240, 87, 31, 56, 57, 89, 90, 91, 135, 136, 137, 181, 134, 58, 92, 138, 123, 172, 197, 204, 17, 32, 33, 61, 94, 34, 15, 29, 35, 8, 18, 36, 65, 99, 69, 19, 37, 38, 100, 71, 107, 108, 153, 189, 66, 67, 68, 101, 105, 147, 144, 103, 145, 102, 143, 70, 106, 149, 152, 188, 186, 208, 187, 209, 232, 233, 150, 211, 20, 39, 72, 111, 73, 21, 23, 41, 77, 28, 53, 115, 161, 167, 93, 5, 10, 9, 26, 11, 12, 27, 44, 13, 14, 22, 40, 75, 24, 25, 42, 43]
def closedT : List FuncId := [4, 83, 117, 119, 120, 62, 171, 64, 63, 175, 200, 123, 15, 29, 35, 73, 28, 53, 167, 93, 11, 13, 112, 104, 156]
def mutsT : List TypeId := [159, 47, 22, 85, 138, 37]
def extT : CallO := orX (copyX 113 161) (orX (stringY 76 161 5) (orX (growX 74 161 5) (orX (indexX 112) (orX (countX 156) itemX))))
noncomputable def envT : Env := { P := Tryz.prog, G := fun f => goodT.contains f, cl := fun f => closedT.contains f, mutT := fun t => mutsT.contains t, dyn := fun _ => true, df := fun f => f == 89, ext := extT }
theorem all_ok : goodT.all (okF envT) = true := by kernel_rfl
theorem okF_good {E : Env} {f : FuncId} (h : okF E f = true) : ∃ fn c, E.P.funcs[f]? = some fn ∧ fn.body = some c ∧ (fn.name == "runtime.NumGoroutine") = false ∧ okC E fn.ntmps c = true := by
  unfold okF at h
  cases h1 : E.P.funcs[f]? with
  | none => simp [h1] at h
  | some fn =>
    cases h2 : fn.body with
    | none => simp [h1, h2] at h
    | some c =>
      simp only [h1, h2, Bool.and_eq_true, Bool.not_eq_true'] at h
      exact ⟨fn, c, rfl, h2, h.1, h.2⟩
theorem mixed : Tryz.prog.follows .mixedOrders = true := by kernel_rfl
theorem envTOk : EnvOk envT where
  mixed := mixed
  good := fun f hf => okF_good (List.all_eq_true.1 all_ok f (List.contains_iff_mem.1 hf))
  ext := orX_ok copyT_ok (orX_ok stringT_ok (orX_ok growT_ok (orX_ok indexT_ok (orX_ok countT_ok itemX_ok))))
def isB : Option AV → Bool
  | some (.bool true) => true
  | _ => false
theorem isB_of {o : Option AV} (h : isB o = true) : o = some (.bool true) := by
  unfold isB at h
  split at h
  · rfl
  · cases h

/-! What is the same value, by looking -/
def eqo : Ab.Own → Ab.Own → Bool
  | .ro, .ro => true
  | .nil, .nil => true
  | .full, .full => true
  | _, _ => false
theorem eqo_eq : ∀ {a b : Ab.Own}, eqo a b = true → a = b
  | .ro, .ro, _ => rfl
  | .nil, .nil, _ => rfl
  | .full, .full, _ => rfl
mutual
def eqv (a : AV) : AV → Bool :=
  match a with
  | .int k n => fun b => match b with
    | .int k' n' => decide (k = k') && decide (n = n')
    | _ => false
  | .bool x => fun b => match b with
    | .bool y => x == y
    | _ => false
  | .str x => fun b => match b with
    | .str y => decide (x = y)
    | _ => false
  | .agg x => fun b => match b with
    | .agg y => eqvs x y
    | _ => false
  | .vec o x => fun b => match b with
    | .vec o' y => eqo o o' && eqvs x y
    | _ => false
  | _ => fun _ => false
def eqvs (a : List AV) : List AV → Bool :=
  match a with
  | [] => fun b => b.isEmpty
  | x :: a => fun b => match b with
    | y :: b => eqv x y && eqvs a b
    | [] => false
end
mutual
theorem eqv_eq (a b : AV) (h : eqv a b = true) : a = b := by
  match a, b with
  | .int k n, .int k' n' =>
    simp only [eqv, Bool.and_eq_true, decide_eq_true_eq] at h
    rw [h.1, h.2]
  | .bool x, .bool y =>
    simp only [eqv, beq_iff_eq] at h
    rw [h]
  | .str x, .str y =>
    simp only [eqv, decide_eq_true_eq] at h
    rw [h]
  | .agg x, .agg y =>
    simp only [eqv] at h
    rw [eqvs_eq x y h]
  | .vec o x, .vec o' y =>
    simp only [eqv, Bool.and_eq_true] at h
    rw [eqo_eq h.1, eqvs_eq x y h.2]
  | .junk, _ => simp [eqv] at h
  | .any, _ => simp [eqv] at h
  | .tup _, _ => simp [eqv] at h
  | .ptr _ _, _ => simp [eqv] at h
  | .rptr _, _ => simp [eqv] at h
  | .fn _ _ _, _ => simp [eqv] at h
  | .iface _ _, _ => simp [eqv] at h
  | .val _, _ => simp [eqv] at h
  | .sl _ _ _ _, _ => simp [eqv] at h
  | .map _, _ => simp [eqv] at h
theorem eqvs_eq (a b : List AV) (h : eqvs a b = true) : a = b := by
  match a, b with
  | [], [] => rfl
  | x :: a, y :: b =>
    simp only [eqvs, Bool.and_eq_true] at h
    rw [eqv_eq x y h.1, eqvs_eq a b h.2]
end
def isV (v : AV) : Option AV → Bool
  | some u => eqv u v
  | none => false
theorem isV_of {v : AV} {o : Option AV} (h : isV v o = true) : o = some v := by
  cases o with
  | none => cases h
  | some u => exact congrArg some (eqv_eq u v h)

/-! The modules of the example, read -/
def b8 (l : List Nat) : List UInt8 := l.map UInt8.ofNat
def n1 : List UInt8 := b8 [109, 97, 105, 110]
def t1 : List UInt8 := b8 [117, 115, 101, 32, 98, 46, 121, 59, 32, 117, 115, 101, 32, 97, 46, 120, 59, 32, 117, 115, 101, 32, 97, 46, 122, 59, 10, 100, 101, 102, 32, 109, 97, 105, 110, 40, 41, 32, 123, 32, 114, 101, 116, 117, 114, 110, 32, 120, 40, 41, 32, 43, 32, 121, 40, 41, 59, 32, 125]
def u1 : AV := (.agg [(.str (b8 [109,97,105,110])), (.str (b8 [117,115,101,32,98,46,121,59,32,117,115,101,32,97,46,120,59,32,117,115,101,32,97,46,122,59,10,100,101,102,32,109,97,105,110,40,41,32,123,32,114,101,116,117,114,110,32,120,40,41,32,43,32,121,40,41,59,32,125])), (.vec .ro [(.agg [(.int .i64 2), (.int .i64 0), (.str []), (.str (b8 [117,115,101]))]), (.agg [(.int .i64 1), (.int .i64 4), (.str (b8 [32])), (.str (b8 [98]))]), (.agg [(.int .i64 5), (.int .i64 5), (.str []), (.str (b8 [46]))]), (.agg [(.int .i64 1), (.int .i64 6), (.str []), (.str (b8 [121]))]), (.agg [(.int .i64 5), (.int .i64 7), (.str []), (.str (b8 [59]))]), (.agg [(.int .i64 2), (.int .i64 9), (.str (b8 [32])), (.str (b8 [117,115,101]))]), (.agg [(.int .i64 1), (.int .i64 13), (.str (b8 [32])), (.str (b8 [97]))]), (.agg [(.int .i64 5), (.int .i64 14), (.str []), (.str (b8 [46]))]), (.agg [(.int .i64 1), (.int .i64 15), (.str []), (.str (b8 [120]))]), (.agg [(.int .i64 5), (.int .i64 16), (.str []), (.str (b8 [59]))]), (.agg [(.int .i64 2), (.int .i64 18), (.str (b8 [32])), (.str (b8 [117,115,101]))]), (.agg [(.int .i64 1), (.int .i64 22), (.str (b8 [32])), (.str (b8 [97]))]), (.agg [(.int .i64 5), (.int .i64 23), (.str []), (.str (b8 [46]))]), (.agg [(.int .i64 1), (.int .i64 24), (.str []), (.str (b8 [122]))]), (.agg [(.int .i64 5), (.int .i64 25), (.str []), (.str (b8 [59]))]), (.agg [(.int .i64 2), (.int .i64 27), (.str (b8 [10])), (.str (b8 [100,101,102]))]), (.agg [(.int .i64 1), (.int .i64 31), (.str (b8 [32])), (.str (b8 [109,97,105,110]))]), (.agg [(.int .i64 5), (.int .i64 35), (.str []), (.str (b8 [40]))]), (.agg [(.int .i64 5), (.int .i64 36), (.str []), (.str (b8 [41]))]), (.agg [(.int .i64 5), (.int .i64 38), (.str (b8 [32])), (.str (b8 [123]))]), (.agg [(.int .i64 2), (.int .i64 40), (.str (b8 [32])), (.str (b8 [114,101,116,117,114,110]))]), (.agg [(.int .i64 1), (.int .i64 47), (.str (b8 [32])), (.str (b8 [120]))]), (.agg [(.int .i64 5), (.int .i64 48), (.str []), (.str (b8 [40]))]), (.agg [(.int .i64 5), (.int .i64 49), (.str []), (.str (b8 [41]))]), (.agg [(.int .i64 5), (.int .i64 51), (.str (b8 [32])), (.str (b8 [43]))]), (.agg [(.int .i64 1), (.int .i64 53), (.str (b8 [32])), (.str (b8 [121]))]), (.agg [(.int .i64 5), (.int .i64 54), (.str []), (.str (b8 [40]))]), (.agg [(.int .i64 5), (.int .i64 55), (.str []), (.str (b8 [41]))]), (.agg [(.int .i64 5), (.int .i64 56), (.str []), (.str (b8 [59]))]), (.agg [(.int .i64 5), (.int .i64 58), (.str (b8 [32])), (.str (b8 [125]))]), (.agg [(.int .i64 0), (.int .i64 59), (.str []), (.str [])])]), (.int .i64 1), (.int .i64 0), (.int .i64 30), (.str []), (.int .i64 0), (.vec .ro [(.agg [(.int .i64 2), (.int .i64 0), (.int .i64 5), (.str (b8 [121])), (.int .i64 3), (.vec .ro [(.agg [(.int .i64 23), (.int .i64 1), (.int .i64 2), (.str (b8 [98])), (.int .i64 1), (.vec .nil [])])])]), (.agg [(.int .i64 2), (.int .i64 5), (.int .i64 10), (.str (b8 [120])), (.int .i64 8), (.vec .ro [(.agg [(.int .i64 23), (.int .i64 6), (.int .i64 7), (.str (b8 [97])), (.int .i64 6), (.vec .nil [])])])]), (.agg [(.int .i64 2), (.int .i64 10), (.int .i64 15), (.str (b8 [122])), (.int .i64 13), (.vec .ro [(.agg [(.int .i64 23), (.int .i64 11), (.int .i64 12), (.str (b8 [97])), (.int .i64 11), (.vec .nil [])])])]), (.agg [(.int .i64 3), (.int .i64 15), (.int .i64 30), (.str (b8 [109,97,105,110])), (.int .i64 16), (.vec .ro [(.agg [(.int .i64 4), (.int .i64 17), (.int .i64 19), (.str []), (.int .i64 0), (.vec .nil [])]), (.agg [(.int .i64 0), (.int .i64 0), (.int .i64 0), (.str []), (.int .i64 0), (.vec .nil [])]), (.agg [(.int .i64 6), (.int .i64 19), (.int .i64 30), (.str []), (.int .i64 0), (.vec .ro [(.agg [(.int .i64 12), (.int .i64 20), (.int .i64 29), (.str []), (.int .i64 0), (.vec .ro [(.agg [(.int .i64 16), (.int .i64 21), (.int .i64 28), (.str []), (.int .i64 0), (.vec .full [(.agg [(.int .i64 20), (.int .i64 21), (.int .i64 24), (.str []), (.int .i64 0), (.vec .full [(.agg [(.int .i64 23), (.int .i64 21), (.int .i64 22), (.str (b8 [120])), (.int .i64 21), (.vec .nil [])])])]), (.agg [(.int .i64 20), (.int .i64 25), (.int .i64 28), (.str []), (.int .i64 0), (.vec .full [(.agg [(.int .i64 23), (.int .i64 25), (.int .i64 26), (.str (b8 [121])), (.int .i64 25), (.vec .nil [])])])])])])])])])])])])]), (.vec .ro [(.agg [(.int .i64 3), (.int .i64 1), (.str (b8 [121])), (.int .i64 0)]), (.agg [(.int .i64 8), (.int .i64 1), (.str (b8 [120])), (.int .i64 1)]), (.agg [(.int .i64 13), (.int .i64 1), (.str (b8 [122])), (.int .i64 2)]), (.agg [(.int .i64 16), (.int .i64 2), (.str (b8 [109,97,105,110])), (.int .i64 3)])]), (.vec .ro [(.agg [(.int .i64 21), (.int .i64 1), (.bool false), (.int .i64 0)]), (.agg [(.int .i64 25), (.int .i64 0), (.bool false), (.int .i64 0)])]), (.vec .nil []), (.int .i64 0), (.int .i64 0)])
def n2 : List UInt8 := b8 [97]
def t2 : List UInt8 := b8 [100, 101, 102, 32, 120, 40, 41, 58, 32, 105, 110, 116, 32, 123, 32, 114, 101, 116, 117, 114, 110, 32, 49, 59, 32, 125, 32, 100, 101, 102, 32, 122, 40, 41, 32, 123, 125]
def u2 : AV := (.agg [(.str (b8 [97])), (.str (b8 [100,101,102,32,120,40,41,58,32,105,110,116,32,123,32,114,101,116,117,114,110,32,49,59,32,125,32,100,101,102,32,122,40,41,32,123,125])), (.vec .ro [(.agg [(.int .i64 2), (.int .i64 0), (.str []), (.str (b8 [100,101,102]))]), (.agg [(.int .i64 1), (.int .i64 4), (.str (b8 [32])), (.str (b8 [120]))]), (.agg [(.int .i64 5), (.int .i64 5), (.str []), (.str (b8 [40]))]), (.agg [(.int .i64 5), (.int .i64 6), (.str []), (.str (b8 [41]))]), (.agg [(.int .i64 5), (.int .i64 7), (.str []), (.str (b8 [58]))]), (.agg [(.int .i64 2), (.int .i64 9), (.str (b8 [32])), (.str (b8 [105,110,116]))]), (.agg [(.int .i64 5), (.int .i64 13), (.str (b8 [32])), (.str (b8 [123]))]), (.agg [(.int .i64 2), (.int .i64 15), (.str (b8 [32])), (.str (b8 [114,101,116,117,114,110]))]), (.agg [(.int .i64 3), (.int .i64 22), (.str (b8 [32])), (.str (b8 [49]))]), (.agg [(.int .i64 5), (.int .i64 23), (.str []), (.str (b8 [59]))]), (.agg [(.int .i64 5), (.int .i64 25), (.str (b8 [32])), (.str (b8 [125]))]), (.agg [(.int .i64 2), (.int .i64 27), (.str (b8 [32])), (.str (b8 [100,101,102]))]), (.agg [(.int .i64 1), (.int .i64 31), (.str (b8 [32])), (.str (b8 [122]))]), (.agg [(.int .i64 5), (.int .i64 32), (.str []), (.str (b8 [40]))]), (.agg [(.int .i64 5), (.int .i64 33), (.str []), (.str (b8 [41]))]), (.agg [(.int .i64 5), (.int .i64 35), (.str (b8 [32])), (.str (b8 [123]))]), (.agg [(.int .i64 5), (.int .i64 36), (.str []), (.str (b8 [125]))]), (.agg [(.int .i64 0), (.int .i64 37), (.str []), (.str [])])]), (.int .i64 1), (.int .i64 0), (.int .i64 17), (.str []), (.int .i64 0), (.vec .ro [(.agg [(.int .i64 3), (.int .i64 0), (.int .i64 11), (.str (b8 [120])), (.int .i64 1), (.vec .ro [(.agg [(.int .i64 4), (.int .i64 2), (.int .i64 4), (.str []), (.int .i64 0), (.vec .nil [])]), (.agg [(.int .i64 29), (.int .i64 5), (.int .i64 6), (.str []), (.int .i64 0), (.vec .nil [])]), (.agg [(.int .i64 6), (.int .i64 6), (.int .i64 11), (.str []), (.int .i64 0), (.vec .ro [(.agg [(.int .i64 12), (.int .i64 7), (.int .i64 10), (.str []), (.int .i64 0), (.vec .ro [(.agg [(.int .i64 21), (.int .i64 8), (.int .i64 9), (.str (b8 [49])), (.int .i64 8), (.vec .nil [])])])])])])])]), (.agg [(.int .i64 3), (.int .i64 11), (.int .i64 17), (.str (b8 [122])), (.int .i64 12), (.vec .ro [(.agg [(.int .i64 4), (.int .i64 13), (.int .i64 15), (.str []), (.int .i64 0), (.vec .nil [])]), (.agg [(.int .i64 0), (.int .i64 0), (.int .i64 0), (.str []), (.int .i64 0), (.vec .nil [])]), (.agg [(.int .i64 6), (.int .i64 15), (.int .i64 17), (.str []), (.int .i64 0), (.vec .nil [])])])])]), (.vec .ro [(.agg [(.int .i64 1), (.int .i64 2), (.str (b8 [120])), (.int .i64 0)]), (.agg [(.int .i64 12), (.int .i64 2), (.str (b8 [122])), (.int .i64 1)])]), (.vec .nil []), (.vec .nil []), (.int .i64 0), (.int .i64 0)])
def n3 : List UInt8 := b8 [98]
def t3 : List UInt8 := b8 [100, 101, 102, 32, 121, 40, 41, 58, 32, 105, 110, 116, 32, 123, 32, 114, 101, 116, 117, 114, 110, 32, 50, 59, 32, 125]
def u3 : AV := (.agg [(.str (b8 [98])), (.str (b8 [100,101,102,32,121,40,41,58,32,105,110,116,32,123,32,114,101,116,117,114,110,32,50,59,32,125])), (.vec .ro [(.agg [(.int .i64 2), (.int .i64 0), (.str []), (.str (b8 [100,101,102]))]), (.agg [(.int .i64 1), (.int .i64 4), (.str (b8 [32])), (.str (b8 [121]))]), (.agg [(.int .i64 5), (.int .i64 5), (.str []), (.str (b8 [40]))]), (.agg [(.int .i64 5), (.int .i64 6), (.str []), (.str (b8 [41]))]), (.agg [(.int .i64 5), (.int .i64 7), (.str []), (.str (b8 [58]))]), (.agg [(.int .i64 2), (.int .i64 9), (.str (b8 [32])), (.str (b8 [105,110,116]))]), (.agg [(.int .i64 5), (.int .i64 13), (.str (b8 [32])), (.str (b8 [123]))]), (.agg [(.int .i64 2), (.int .i64 15), (.str (b8 [32])), (.str (b8 [114,101,116,117,114,110]))]), (.agg [(.int .i64 3), (.int .i64 22), (.str (b8 [32])), (.str (b8 [50]))]), (.agg [(.int .i64 5), (.int .i64 23), (.str []), (.str (b8 [59]))]), (.agg [(.int .i64 5), (.int .i64 25), (.str (b8 [32])), (.str (b8 [125]))]), (.agg [(.int .i64 0), (.int .i64 26), (.str []), (.str [])])]), (.int .i64 1), (.int .i64 0), (.int .i64 11), (.str []), (.int .i64 0), (.vec .ro [(.agg [(.int .i64 3), (.int .i64 0), (.int .i64 11), (.str (b8 [121])), (.int .i64 1), (.vec .ro [(.agg [(.int .i64 4), (.int .i64 2), (.int .i64 4), (.str []), (.int .i64 0), (.vec .nil [])]), (.agg [(.int .i64 29), (.int .i64 5), (.int .i64 6), (.str []), (.int .i64 0), (.vec .nil [])]), (.agg [(.int .i64 6), (.int .i64 6), (.int .i64 11), (.str []), (.int .i64 0), (.vec .ro [(.agg [(.int .i64 12), (.int .i64 7), (.int .i64 10), (.str []), (.int .i64 0), (.vec .ro [(.agg [(.int .i64 21), (.int .i64 8), (.int .i64 9), (.str (b8 [50])), (.int .i64 8), (.vec .nil [])])])])])])])])]), (.vec .ro [(.agg [(.int .i64 1), (.int .i64 2), (.str (b8 [121])), (.int .i64 0)])]), (.vec .nil []), (.vec .nil []), (.int .i64 0), (.int .i64 0)])
def n4 : List UInt8 := b8 [109, 97, 105, 110]
def t4 : List UInt8 := b8 [117, 115, 101, 32, 97, 46, 120, 59, 10, 117, 115, 101, 32, 98, 46, 121, 59, 10, 100, 101, 102, 32, 109, 97, 105, 110, 40, 41, 32, 123, 32, 114, 101, 116, 117, 114, 110, 32, 120, 40, 41, 32, 43, 32, 121, 40, 41, 59, 32, 125]
def u4 : AV := (.agg [(.str (b8 [109,97,105,110])), (.str (b8 [117,115,101,32,97,46,120,59,10,117,115,101,32,98,46,121,59,10,100,101,102,32,109,97,105,110,40,41,32,123,32,114,101,116,117,114,110,32,120,40,41,32,43,32,121,40,41,59,32,125])), (.vec .ro [(.agg [(.int .i64 2), (.int .i64 0), (.str []), (.str (b8 [117,115,101]))]), (.agg [(.int .i64 1), (.int .i64 4), (.str (b8 [32])), (.str (b8 [97]))]), (.agg [(.int .i64 5), (.int .i64 5), (.str []), (.str (b8 [46]))]), (.agg [(.int .i64 1), (.int .i64 6), (.str []), (.str (b8 [120]))]), (.agg [(.int .i64 5), (.int .i64 7), (.str []), (.str (b8 [59]))]), (.agg [(.int .i64 2), (.int .i64 9), (.str (b8 [10])), (.str (b8 [117,115,101]))]), (.agg [(.int .i64 1), (.int .i64 13), (.str (b8 [32])), (.str (b8 [98]))]), (.agg [(.int .i64 5), (.int .i64 14), (.str []), (.str (b8 [46]))]), (.agg [(.int .i64 1), (.int .i64 15), (.str []), (.str (b8 [121]))]), (.agg [(.int .i64 5), (.int .i64 16), (.str []), (.str (b8 [59]))]), (.agg [(.int .i64 2), (.int .i64 18), (.str (b8 [10])), (.str (b8 [100,101,102]))]), (.agg [(.int .i64 1), (.int .i64 22), (.str (b8 [32])), (.str (b8 [109,97,105,110]))]), (.agg [(.int .i64 5), (.int .i64 26), (.str []), (.str (b8 [40]))]), (.agg [(.int .i64 5), (.int .i64 27), (.str []), (.str (b8 [41]))]), (.agg [(.int .i64 5), (.int .i64 29), (.str (b8 [32])), (.str (b8 [123]))]), (.agg [(.int .i64 2), (.int .i64 31), (.str (b8 [32])), (.str (b8 [114,101,116,117,114,110]))]), (.agg [(.int .i64 1), (.int .i64 38), (.str (b8 [32])), (.str (b8 [120]))]), (.agg [(.int .i64 5), (.int .i64 39), (.str []), (.str (b8 [40]))]), (.agg [(.int .i64 5), (.int .i64 40), (.str []), (.str (b8 [41]))]), (.agg [(.int .i64 5), (.int .i64 42), (.str (b8 [32])), (.str (b8 [43]))]), (.agg [(.int .i64 1), (.int .i64 44), (.str (b8 [32])), (.str (b8 [121]))]), (.agg [(.int .i64 5), (.int .i64 45), (.str []), (.str (b8 [40]))]), (.agg [(.int .i64 5), (.int .i64 46), (.str []), (.str (b8 [41]))]), (.agg [(.int .i64 5), (.int .i64 47), (.str []), (.str (b8 [59]))]), (.agg [(.int .i64 5), (.int .i64 49), (.str (b8 [32])), (.str (b8 [125]))]), (.agg [(.int .i64 0), (.int .i64 50), (.str []), (.str [])])]), (.int .i64 1), (.int .i64 0), (.int .i64 25), (.str []), (.int .i64 0), (.vec .ro [(.agg [(.int .i64 2), (.int .i64 0), (.int .i64 5), (.str (b8 [120])), (.int .i64 3), (.vec .ro [(.agg [(.int .i64 23), (.int .i64 1), (.int .i64 2), (.str (b8 [97])), (.int .i64 1), (.vec .nil [])])])]), (.agg [(.int .i64 2), (.int .i64 5), (.int .i64 10), (.str (b8 [121])), (.int .i64 8), (.vec .ro [(.agg [(.int .i64 23), (.int .i64 6), (.int .i64 7), (.str (b8 [98])), (.int .i64 6), (.vec .nil [])])])]), (.agg [(.int .i64 3), (.int .i64 10), (.int .i64 25), (.str (b8 [109,97,105,110])), (.int .i64 11), (.vec .ro [(.agg [(.int .i64 4), (.int .i64 12), (.int .i64 14), (.str []), (.int .i64 0), (.vec .nil [])]), (.agg [(.int .i64 0), (.int .i64 0), (.int .i64 0), (.str []), (.int .i64 0), (.vec .nil [])]), (.agg [(.int .i64 6), (.int .i64 14), (.int .i64 25), (.str []), (.int .i64 0), (.vec .ro [(.agg [(.int .i64 12), (.int .i64 15), (.int .i64 24), (.str []), (.int .i64 0), (.vec .ro [(.agg [(.int .i64 16), (.int .i64 16), (.int .i64 23), (.str []), (.int .i64 0), (.vec .full [(.agg [(.int .i64 20), (.int .i64 16), (.int .i64 19), (.str []), (.int .i64 0), (.vec .full [(.agg [(.int .i64 23), (.int .i64 16), (.int .i64 17), (.str (b8 [120])), (.int .i64 16), (.vec .nil [])])])]), (.agg [(.int .i64 20), (.int .i64 20), (.int .i64 23), (.str []), (.int .i64 0), (.vec .full [(.agg [(.int .i64 23), (.int .i64 20), (.int .i64 21), (.str (b8 [121])), (.int .i64 20), (.vec .nil [])])])])])])])])])])])])]), (.vec .ro [(.agg [(.int .i64 3), (.int .i64 1), (.str (b8 [120])), (.int .i64 0)]), (.agg [(.int .i64 8), (.int .i64 1), (.str (b8 [121])), (.int .i64 1)]), (.agg [(.int .i64 11), (.int .i64 2), (.str (b8 [109,97,105,110])), (.int .i64 2)])]), (.vec .ro [(.agg [(.int .i64 16), (.int .i64 0), (.bool false), (.int .i64 0)]), (.agg [(.int .i64 20), (.int .i64 1), (.bool false), (.int .i64 0)])]), (.vec .nil []), (.int .i64 0), (.int .i64 0)])
theorem read1 : closedCall Tryz.prog (execF envT 200) 16 [.agg [.str n1, .str t1]] = some u1 := isV_of (by kernel_rfl)
theorem read2 : closedCall Tryz.prog (execF envT 200) 16 [.agg [.str n2, .str t2]] = some u2 := isV_of (by kernel_rfl)
theorem read3 : closedCall Tryz.prog (execF envT 200) 16 [.agg [.str n3, .str t3]] = some u3 := isV_of (by kernel_rfl)
theorem read4 : closedCall Tryz.prog (execF envT 200) 16 [.agg [.str n4, .str t4]] = some u4 := isV_of (by kernel_rfl)
end Go.Proofs.YtkpnccaoolbeeaaGreatDoor
