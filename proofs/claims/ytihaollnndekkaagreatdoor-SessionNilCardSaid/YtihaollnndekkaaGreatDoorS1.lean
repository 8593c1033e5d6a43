/- SessionNil: the law, run in the kernel at arguments of which nothing is known. -/
import Derived.Test.YtihaollnndekkaaGreatDoorBx
import Derived.Test.YtihaollnndekkaaGreatDoorIv
import Derived.Test.YtihaollnndekkaaGreatDoorFl
import Derived.KernelRfl
namespace Go.Proofs.YtihaollnndekkaaGreatDoor
set_option linter.unusedVariables false
open Go Go.Ab
def goodT : List FuncId := [3, 4, 5, 18, 6, 20, 34, 25, 7, 21, 43, 44, 82, 63, 105, 22, 46, 24, 23, 48, 83, 138, 15, 35, 62, 104, 191, 52, 16, 36, 64, 107, 19, 195, 39, 196, 40, 37, 65, 108, 38, 66, 29, 54, 86, 100, 181, 285, 182, 286, 287, 288, 183, 290, 357, 45, 293, 360, 361, 410, 141, 235, 330, 331, 332, 335, 390, 430, 391, 392, 431, 337, 393, 394, 333, 236, 87, 142, 143, 238, 239, 240, 339, 340, 338, 144, 241, 342, 55, 88, 89, 147, 243, 41, 69, 116, 206, 207, 74, 129, 130, 50, 84, 122, 214, 215, 319, 368, 117, 118, 119, 208, 212, 313, 310, 210, 311, 209, 309, 120, 121, 213, 42, 17, 71, 123, 124, 125, 72, 126, 70, 8, 9, 10, 11, 12, 13, 14, 33]
def closedT : List FuncId := [3, 6, 21, 43, 44, 15, 35, 62, 104, 191, 37, 65, 108, 29, 181, 285, 287, 288, 357, 45, 361, 410, 41, 69, 50, 84, 70, 14, 33, 197, 211]
def extT : CallO := orX (copyX 85 106) (orX (stringY 53 106 5) (orX (growX 61 106 5) (orX (indexX 197) (orX (fieldsX 68) itemX))))
noncomputable def envT : Env := { P := Tryz.prog, G := fun f => goodT.contains f, cl := fun f => closedT.contains f, mutT := fun t => t == 104, dyn := fun _ => true, df := fun f => f == 238, ext := extT }
def okF (E : Env) (f : FuncId) : Bool :=
  match E.P.funcs[f]? with
  | some fn => match fn.body with
    | some c => !(fn.name == "runtime.NumGoroutine") && okC E fn.ntmps c
    | none => false
  | none => false
theorem all_ok : goodT.all (okF envT) = true := by kernel_rfl

theorem okF_good {E : Env} {f : FuncId} (h : okF E f = true) : ∃ fn c, E.P.funcs[f]? = some fn ∧ fn.body = some c ∧ (fn.name == "runtime.NumGoroutine") = false ∧ okC E fn.ntmps c = true := by
  unfold okF at h
  cases h1 : E.P.funcs[f]? with
  | none => simp [h1] at h
  | some fn =>
    cases h2 : fn.body with
    | none => simp [h1, h2] at h
    | some c =>
      simp only [h1, h2, Bool.and_eq_true, Bool.not_eq_true'] at h
      exact ⟨fn, c, rfl, h2, h.1, h.2⟩

theorem mixed : Tryz.prog.follows .mixedOrders = true := by kernel_rfl

theorem envTOk : EnvOk envT where
  mixed := mixed
  good := fun f hf => okF_good (List.all_eq_true.1 all_ok f (List.contains_iff_mem.1 hf))
  ext := orX_ok copyT_ok (orX_ok stringT_ok (orX_ok growT_ok (orX_ok indexT_ok (orX_ok fieldsT_ok itemX_ok))))

def isB : Option AV → Bool
  | some (.bool true) => true
  | _ => false
theorem isB_of {o : Option AV} (h : isB o = true) : o = some (.bool true) := by
  unfold isB at h
  split at h
  · rfl
  · cases h
theorem law_T : closedCall Tryz.prog (execF envT 200) 3 [.agg [.any, .any, .any, .any, .any, .any], .agg [.any, .any], .agg [.any, .any, .any, .any, .any]] = some (.bool true) := isB_of (by kernel_rfl)
end Go.Proofs.YtihaollnndekkaaGreatDoor
