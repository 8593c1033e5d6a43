/- The machine over this seat's program. -/
import Derived.Test.YtkhhkfgehmogoaaRows
import Derived.Test.YtkhhkfgehmogoaaAb17
import Derived.Test.YtkhhkfgehmogoaaAb21
namespace Go.Proofs.Ytkhhkfgehmogoaa
set_option linter.unusedVariables false
open Go Go.Ab

def good : List FuncId := [3, 4, 5, 6, 7, 8, 9, 10, 11, 12, 13, 14, 15, 16, 17, 18, 19, 20, 21, 22, 23, 24, 25, 26, 27, 28, 30, 31, 32]
def closed : List FuncId := good ++ [29]

noncomputable def env : Env := { P := Try.prog, G := fun f => good.contains f, cl := fun f => closed.contains f, ext := cloneX 29 }

def okF (E : Env) (f : FuncId) : Bool :=
  match E.P.funcs[f]? with
  | some fn => match fn.body with
    | some c => !(fn.name == "runtime.NumGoroutine") && okC E fn.ntmps c
    | none => false
  | none => false

theorem all_ok : good.all (okF env) = true := by kernel_rfl

theorem mixed : Try.prog.follows .mixedOrders = true := by kernel_rfl

def isTrue : Option (AV × AHeap) → Bool
  | some (.bool true, _) => true
  | _ => false

theorem awake_run : isTrue (execF env 30 10 [] .empty) = true := by kernel_rfl
end Go.Proofs.Ytkhhkfgehmogoaa
