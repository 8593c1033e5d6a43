/- strings.Fields at this program: the shelf's contract laid (written by the kit's lay-plain), and as a contract of the machine. -/
import Derived.Shelf.Strings.Fields
import Derived.Test.YtiagmokcjljliaaGreatDoorProg
import Derived.Test.YtiagmokcjljliaaGreatDoorAm5
namespace Go.Proofs
open Go.Shelf
def Tryz.lays157_ren : Go.Shelf.Ren := ⟨fun | 157 => 129 | 229 => 219 | 199 => 220 | 261 => 342 | 311 => 446 | 312 => 447 | n => n, fun | 9 => 9 | 31 => 27 | 3 => 3 | 5 => 5 | 4 => 4 | 119 => 355 | 0 => 0 | 40 => 357 | 152 => 482 | 21 => 21 | 154 => 484 | 51 => 476 | 141 => 486 | 196 => 577 | 193 => 574 | 198 => 580 | 49 => 578 | 194 => 575 | 201 => 583 | 226 => 620 | 46 => 306 | 227 => 621 | n => n, fun | 0 => 1 | 6 => 4 | n => n⟩
theorem Tryz.lays157 : Go.Proofs.Lays.n157 Tryz.prog Tryz.lays157_ren := {
  mixed := by kernel_rfl
  f157 := Tryz.func129.trans (congrArg some (by kernel_rfl))
  f199 := Tryz.func220.trans (congrArg some (by kernel_rfl))
  f229 := Tryz.func219.trans (congrArg some (by kernel_rfl))
  f261 := Tryz.func342.trans (congrArg some (by kernel_rfl))
  f311 := Tryz.func446.trans (congrArg some (by kernel_rfl))
  f312 := Tryz.func447.trans (congrArg some (by kernel_rfl))
  t0 := Tryz.underlying0
  a0 := Tryz.isAgg0
  z0 := Tryz.sizeOf0
  v0 := Tryz.zeroValue0
  t3 := Tryz.underlying3
  a3 := Tryz.isAgg3
  z3 := Tryz.sizeOf3
  v3 := Tryz.zeroValue3
  t4 := Tryz.underlying4
  a4 := Tryz.isAgg4
  z4 := Tryz.sizeOf4
  v4 := Tryz.zeroValue4
  t5 := Tryz.underlying5
  a5 := Tryz.isAgg5
  z5 := Tryz.sizeOf5
  v5 := Tryz.zeroValue5
  t9 := Tryz.underlying9
  a9 := Tryz.isAgg9
  z9 := Tryz.sizeOf9
  v9 := Tryz.zeroValue9
  t21 := Tryz.underlying21
  a21 := Tryz.isAgg21
  z21 := Tryz.sizeOf21
  v21 := Tryz.zeroValue21
  t31 := Tryz.underlying27
  a31 := Tryz.isAgg27
  z31 := Tryz.sizeOf27
  v31 := Tryz.zeroValue27
  t40 := Tryz.underlying357
  a40 := Tryz.isAgg357
  z40 := Tryz.sizeOf357
  v40 := Tryz.zeroValue357
  t46 := Tryz.underlying306
  a46 := Tryz.isAgg306
  z46 := Tryz.sizeOf306
  v46 := Tryz.zeroValue306
  t49 := Tryz.underlying578
  a49 := Tryz.isAgg578
  z49 := Tryz.sizeOf578
  v49 := Tryz.zeroValue578
  t51 := Tryz.underlying476
  a51 := Tryz.isAgg476
  z51 := Tryz.sizeOf476
  v51 := Tryz.zeroValue476
  t119 := Tryz.underlying355
  a119 := Tryz.isAgg355
  z119 := Tryz.sizeOf355
  t141 := Tryz.underlying486
  a141 := Tryz.isAgg486
  z141 := Tryz.sizeOf486
  v141 := Tryz.zeroValue486
  t152 := Tryz.underlying482
  a152 := Tryz.isAgg482
  z152 := Tryz.sizeOf482
  v152 := Tryz.zeroValue482
  t154 := Tryz.underlying484
  a154 := Tryz.isAgg484
  z154 := Tryz.sizeOf484
  v154 := Tryz.zeroValue484
  t193 := Tryz.underlying574
  a193 := Tryz.isAgg574
  z193 := Tryz.sizeOf574
  v193 := Tryz.zeroValue574
  t194 := Tryz.underlying575
  a194 := Tryz.isAgg575
  z194 := Tryz.sizeOf575
  v194 := Tryz.zeroValue575
  t196 := Tryz.underlying577
  a196 := Tryz.isAgg577
  z196 := Tryz.sizeOf577
  v196 := Tryz.zeroValue577
  t198 := Tryz.underlying580
  a198 := Tryz.isAgg580
  z198 := Tryz.sizeOf580
  v198 := Tryz.zeroValue580
  t201 := Tryz.underlying583
  a201 := Tryz.isAgg583
  z201 := Tryz.sizeOf583
  v201 := Tryz.zeroValue583
  t226 := Tryz.underlying620
  a226 := Tryz.isAgg620
  z226 := Tryz.sizeOf620
  v226 := Tryz.zeroValue620
  t227 := Tryz.underlying621
  a227 := Tryz.isAgg621
  z227 := Tryz.sizeOf621
  v227 := Tryz.zeroValue621
  g0 := by kernel_rfl
  g6 := by kernel_rfl }
end Go.Proofs
namespace Go.Proofs.YtiagmokcjljliaaGreatDoor
open Go Go.Proofs
theorem spaceG : Tryz.prog.globalNamed "strings.asciiSpace" = some 1 := by kernel_rfl
theorem fieldsT_ok : Go.Ab.CallOk Tryz.prog (Go.Ab.fieldsX 129) :=
  Go.Ab.fieldsX_ok (g := 1) (t9 := 9) ⟨_, Tryz.func129, by kernel_rfl, by kernel_rfl⟩ spaceG (fun s w hs ha hT => Any.strings_Fields_core Tryz.lays157 (by kernel_rfl) s w hs ha hT)
end Go.Proofs.YtiagmokcjljliaaGreatDoor
