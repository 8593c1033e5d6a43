/- RunAlike: awake, run in the kernel. -/
import Derived.Test.YtpdhkcakoekdgaaGreatDoorBw
import Derived.Test.YtpdhkcakoekdgaaGreatDoorIv
import Derived.KernelRfl
namespace Go.Proofs.YtpdhkcakoekdgaaGreatDoor
set_option linter.unusedVariables false
open Go Go.Ab
def goodT : List FuncId := [5, 12, 13, 25, 26, 27, 28, 29, 30, 31, 32, 44, 45, 46, 47, 48, 50, 51, 52, 53, 54, 55, 56, 57, 58, 59, 61, 62, 63, 64, 66, 84, 85, 86, 87, 88, 91, 92, 93, 94, 96, 97, 98, 99, 100, 102, 103, 104, 107, 108, 111, 112, 113, 126, 127, 128, 129, 130, 132, 133, 134, 135, 137, 139, 140, 142, 143, 146, 147, 148, 149, 150, 152, 154, 163, 164, 165, 166, 168, 169, 170, 171, 172, 173, 174, 175, 177, 179, 180, 181, 182, 184, 187, 189, 190, 191, 193, 194, 196, 199, 217, 218, 219, 220, 221, 222, 223, 224, 225, 229, 234, 236, 239, 252, 253, 254, 255, 258, 281, 294, 295, 308, 313, 315]
def closedT : List FuncId := [12, 13, 25, 26, 28, 45, 46, 51, 52, 55, 57, 62, 63, 84, 85, 90, 93, 96, 97, 99, 100, 101, 106, 126, 139, 140, 154, 169, 193, 194, 218, 229]
def extT : CallO := orX (copyX 159 239) (orX (stringX 119 239) itemX)
noncomputable def envT : Env := { P := Tryz.prog, G := fun f => goodT.contains f, cl := fun f => closedT.contains f, mutT := fun t => t == 81 || t == 90 || t == 56 || t == 38 || t == 66 || t == 82 || t == 73, dyn := fun _ => true, df := fun f => f == 132, ext := extT }
def okF (E : Env) (f : FuncId) : Bool :=
  match E.P.funcs[f]? with
  | some fn => match fn.body with
    | some c => !(fn.name == "runtime.NumGoroutine") && okC E fn.ntmps c
    | none => false
  | none => false
theorem all_ok : goodT.all (okF envT) = true := by kernel_rfl

theorem okF_good {E : Env} {f : FuncId} (h : okF E f = true) : ∃ fn c, E.P.funcs[f]? = some fn ∧ fn.body = some c ∧ (fn.name == "runtime.NumGoroutine") = false ∧ okC E fn.ntmps c = true := by
  unfold okF at h
  cases h1 : E.P.funcs[f]? with
  | none => simp [h1] at h
  | some fn =>
    cases h2 : fn.body with
    | none => simp [h1, h2] at h
    | some c =>
      simp only [h1, h2, Bool.and_eq_true, Bool.not_eq_true'] at h
      exact ⟨fn, c, rfl, h2, h.1, h.2⟩

theorem mixed : Tryz.prog.follows .mixedOrders = true := by kernel_rfl

theorem envTOk : EnvOk envT where
  mixed := mixed
  good := fun f hf => okF_good (List.all_eq_true.1 all_ok f (List.contains_iff_mem.1 hf))
  ext := orX_ok copyT_ok (orX_ok stringT_ok itemX_ok)

def isB : Option AV → Bool
  | some (.bool true) => true
  | _ => false
theorem isB_of {o : Option AV} (h : isB o = true) : o = some (.bool true) := by
  unfold isB at h
  split at h
  · rfl
  · cases h
theorem awake_T : closedCall Tryz.prog (execF envT 200) 5 [] = some (.bool true) := isB_of (by kernel_rfl)
end Go.Proofs.YtpdhkcakoekdgaaGreatDoor
