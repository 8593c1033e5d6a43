/- ScriptWords: the environment in which scripts are run. -/
import Derived.Test.YtiagmokcjljliaaGreatDoorLk
import Derived.Test.YtiagmokcjljliaaGreatDoorAt
import Derived.Test.YtiagmokcjljliaaGreatDoorFl
import Derived.Test.YtiagmokcjljliaaGreatDoorIv
import Derived.Test.YtiagmokcjljliaaGreatDoorCn
namespace Go.Proofs.YtiagmokcjljliaaGreatDoor
set_option linter.unusedVariables false
open Go Go.Ab
def goodC0 : List FuncId := [7, 12, 20, 32, 34, 68, 67, 13, 23, 24, 27, 29, 51, 85, 46, 91, 155, 156, 247, 365]
def goodC1 : List FuncId := [22, 38, 81, 146, 232, 39, 45, 40, 82, 147, 25, 41, 83, 74, 76, 143, 142, 230, 59, 110]
def goodC2 : List FuncId := [84, 148, 236, 355, 90, 153, 242, 359, 452, 453, 454, 457, 507, 542, 508, 509, 543, 459, 510, 511]
def goodC3 : List FuncId := [455, 183, 154, 243, 244, 361, 362, 363, 461, 462, 460, 245, 364, 464, 54, 102, 103, 104, 178, 55]
def goodC4 : List FuncId := [308, 105, 42, 60, 112, 113, 190, 303, 210, 334, 415, 475, 133, 223, 225, 343, 448, 498, 114, 194, 171]
def goodC5 : List FuncId := [309, 418, 191, 195, 115, 197, 310, 419, 26, 546, 561, 570, 583, 588, 590, 463, 512, 47, 92, 158]
def goodC6 : List FuncId := [93, 116, 201, 313, 314, 206, 320, 321, 436, 490, 202, 203, 315, 213, 340, 341, 317, 429, 316, 428]
def goodC7 : List FuncId := [204, 205, 319, 431, 435, 489, 432, 488, 529, 214, 131, 221, 222, 248, 224, 249, 367, 481, 311, 344]
def goodC8 : List FuncId := [200, 199, 250, 369, 368, 382, 384, 138, 58, 94, 111, 167, 168, 277, 278, 279, 280, 282, 403, 281]
def goodC9 : List FuncId := [401, 402, 95, 43, 87, 152, 8, 14, 30, 6, 5]
def goodC : List FuncId := goodC0 ++ goodC1 ++ goodC2 ++ goodC3 ++ goodC4 ++ goodC5 ++ goodC6 ++ goodC7 ++ goodC8 ++ goodC9
def closedC : List FuncId := [7, 38, 81, 146, 232, 82, 83, 74, 76, 104, 178, 210, 334, 481, 311, 344, 200, 8, 14, 30, 5, 6, 22, 4, 21, 86, 180, 182]
def mutsC : List TypeId := [146, 27, 113, 210, 215, 22, 76]
def extC : CallO := orX lexX (orX (atoiX 86 378) (orX (copyX 228 199) (orX (stringY 109 199 5) (orX (growX 139 199 5) (orX (indexX 182) (orX (fieldsX 129) (orX (countX 180) itemX)))))))
def anyC : Array Oper → Bool := fun ops => ops.size == 8 && (match ops[7]? with | some o => (match o.op with | .store 113 _ _ => true | _ => false) | none => false)
noncomputable def envC : Env := { P := Tryz.prog, G := fun f => goodC.contains f, cl := fun f => closedC.contains f, mutT := fun t => mutsC.contains t, dyn := fun _ => true, df := fun f => f == 361, any := anyC, ext := extC }
theorem okC0 : goodC0.all (okF envC) = true := by kernel_rfl
theorem okC1 : goodC1.all (okF envC) = true := by kernel_rfl
theorem okC2 : goodC2.all (okF envC) = true := by kernel_rfl
theorem okC3 : goodC3.all (okF envC) = true := by kernel_rfl
theorem okC4 : goodC4.all (okF envC) = true := by kernel_rfl
theorem okC5 : goodC5.all (okF envC) = true := by kernel_rfl
theorem okC6 : goodC6.all (okF envC) = true := by kernel_rfl
theorem okC7 : goodC7.all (okF envC) = true := by kernel_rfl
theorem okC8 : goodC8.all (okF envC) = true := by kernel_rfl
theorem okC9 : goodC9.all (okF envC) = true := by kernel_rfl
theorem all_okC : goodC.all (okF envC) = true := by simp only [goodC, List.all_append, okC0, okC1, okC2, okC3, okC4, okC5, okC6, okC7, okC8, okC9, Bool.and_self]
theorem envCOk : EnvOk envC where
  mixed := mixed
  good := fun f hf => okF_good (List.all_eq_true.1 all_okC f (List.contains_iff_mem.1 hf))
  ext := orX_ok lexX_ok (orX_ok atoiT_ok (orX_ok copyT_ok (orX_ok stringT_ok (orX_ok growT_ok (orX_ok indexT_ok (orX_ok fieldsT_ok (orX_ok countT_ok itemX_ok)))))))
end Go.Proofs.YtiagmokcjljliaaGreatDoor
