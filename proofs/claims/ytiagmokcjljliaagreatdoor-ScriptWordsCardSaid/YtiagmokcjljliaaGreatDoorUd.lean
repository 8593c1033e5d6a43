/- unicode/utf8.DecodeRuneInString at this program: the shelf's contract laid (written by the kit's lay-plain), and as a contract of the machine. -/
import Derived.Shelf.Unicode.DecodeAny
import Derived.Test.YtiagmokcjljliaaGreatDoorProg
import Derived.Test.YtiagmokcjljliaaGreatDoorBx
namespace Go.Proofs
open Go.Shelf
def Tryz.lays197_ren : Go.Shelf.Ren := ⟨fun | 197 => 69 | 260 => 140 | n => n, fun | 9 => 9 | 21 => 21 | 3 => 3 | 4 => 4 | 5 => 5 | 105 => 159 | 119 => 355 | 0 => 0 | 46 => 306 | 139 => 367 | 138 => 366 | n => n, fun | 3 => 2 | 4 => 3 | n => n⟩
theorem Tryz.lays197 : Go.Proofs.Lays.n197 Tryz.prog Tryz.lays197_ren := {
  mixed := by kernel_rfl
  f197 := Tryz.func69.trans (congrArg some (by kernel_rfl))
  f260 := Tryz.func140.trans (congrArg some (by kernel_rfl))
  t0 := Tryz.underlying0
  a0 := Tryz.isAgg0
  z0 := Tryz.sizeOf0
  v0 := Tryz.zeroValue0
  t3 := Tryz.underlying3
  a3 := Tryz.isAgg3
  z3 := Tryz.sizeOf3
  v3 := Tryz.zeroValue3
  t4 := Tryz.underlying4
  a4 := Tryz.isAgg4
  z4 := Tryz.sizeOf4
  v4 := Tryz.zeroValue4
  t5 := Tryz.underlying5
  a5 := Tryz.isAgg5
  z5 := Tryz.sizeOf5
  v5 := Tryz.zeroValue5
  t9 := Tryz.underlying9
  a9 := Tryz.isAgg9
  z9 := Tryz.sizeOf9
  v9 := Tryz.zeroValue9
  t21 := Tryz.underlying21
  a21 := Tryz.isAgg21
  z21 := Tryz.sizeOf21
  v21 := Tryz.zeroValue21
  t46 := Tryz.underlying306
  a46 := Tryz.isAgg306
  z46 := Tryz.sizeOf306
  v46 := Tryz.zeroValue306
  t105 := Tryz.underlying159
  a105 := Tryz.isAgg159
  z105 := Tryz.sizeOf159
  v105 := Tryz.zeroValue159
  t119 := Tryz.underlying355
  a119 := Tryz.isAgg355
  z119 := Tryz.sizeOf355
  t138 := Tryz.underlying366
  a138 := Tryz.isAgg366
  z138 := Tryz.sizeOf366
  v138 := Tryz.zeroValue366
  t139 := Tryz.underlying367
  a139 := Tryz.isAgg367
  z139 := Tryz.sizeOf367
  v139 := Tryz.zeroValue367
  g3 := by kernel_rfl
  g4 := by kernel_rfl }
end Go.Proofs
namespace Go.Proofs.YtiagmokcjljliaaGreatDoor
open Go Go.RowKit Go.Proofs
theorem g2 : Tryz.prog.globalNamed "unicode/utf8.first" = some 2 := by kernel_rfl
theorem g3 : Tryz.prog.globalNamed "unicode/utf8.acceptRanges" = some 3 := by kernel_rfl
theorem decodeT_ok : Go.Ab.CallOk Tryz.prog (Go.Ab.decodeX 69) := Go.Ab.decodeX_ok (callB 69 _ Tryz.func69 (by kernel_rfl) (by kernel_rfl)) g2 g3 (fun s w hT => Any.utf8_DecodeRuneInString Tryz.lays197 s w hT)
end Go.Proofs.YtiagmokcjljliaaGreatDoor
