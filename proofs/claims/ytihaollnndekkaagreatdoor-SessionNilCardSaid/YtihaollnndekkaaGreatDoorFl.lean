/- strings.Fields at this program: the shelf's contract laid (written by the kit's lay-shelf and lay-plain), and as a contract of the machine. -/
import Derived.Shelf.Strings.Fields
import Derived.Test.YtihaollnndekkaaGreatDoorProg
import Derived.Test.YtihaollnndekkaaGreatDoorAc23
namespace Go.Proofs
open Go.Shelf
def Tryz.lays157_ren : Go.Shelf.Ren := ⟨fun | 157 => 68 | 229 => 114 | 199 => 115 | 261 => 204 | 311 => 306 | 312 => 307 | n => n, fun | 9 => 9 | 31 => 29 | 3 => 3 | 5 => 5 | 4 => 4 | 119 => 208 | 0 => 0 | 40 => 210 | 152 => 359 | 21 => 21 | 154 => 361 | 51 => 362 | 141 => 364 | 196 => 463 | 193 => 460 | 198 => 466 | 49 => 464 | 194 => 461 | 201 => 469 | 226 => 506 | 46 => 353 | 227 => 507 | n => n, fun | 0 => 0 | 6 => 4 | n => n⟩
theorem Tryz.lays157 : Go.Proofs.Lays.n157 Tryz.prog Tryz.lays157_ren := {
  mixed := by kernel_rfl
  f157 := Tryz.func68.trans (congrArg some (by kernel_rfl))
  f199 := Tryz.func115.trans (congrArg some (by kernel_rfl))
  f229 := Tryz.func114.trans (congrArg some (by kernel_rfl))
  f261 := Tryz.func204.trans (congrArg some (by kernel_rfl))
  f311 := Tryz.func306.trans (congrArg some (by kernel_rfl))
  f312 := Tryz.func307.trans (congrArg some (by kernel_rfl))
  t0 := Tryz.underlying0
  a0 := Tryz.isAgg0
  z0 := Tryz.sizeOf0
  v0 := Tryz.zeroValue0
  t3 := Tryz.underlying3
  a3 := Tryz.isAgg3
  z3 := Tryz.sizeOf3
  v3 := Tryz.zeroValue3
  t4 := Tryz.underlying4
  a4 := Tryz.isAgg4
  z4 := Tryz.sizeOf4
  v4 := Tryz.zeroValue4
  t5 := Tryz.underlying5
  a5 := Tryz.isAgg5
  z5 := Tryz.sizeOf5
  v5 := Tryz.zeroValue5
  t9 := Tryz.underlying9
  a9 := Tryz.isAgg9
  z9 := Tryz.sizeOf9
  v9 := Tryz.zeroValue9
  t21 := Tryz.underlying21
  a21 := Tryz.isAgg21
  z21 := Tryz.sizeOf21
  v21 := Tryz.zeroValue21
  t31 := Tryz.underlying29
  a31 := Tryz.isAgg29
  z31 := Tryz.sizeOf29
  v31 := Tryz.zeroValue29
  t40 := Tryz.underlying210
  a40 := Tryz.isAgg210
  z40 := Tryz.sizeOf210
  v40 := Tryz.zeroValue210
  t46 := Tryz.underlying353
  a46 := Tryz.isAgg353
  z46 := Tryz.sizeOf353
  v46 := Tryz.zeroValue353
  t49 := Tryz.underlying464
  a49 := Tryz.isAgg464
  z49 := Tryz.sizeOf464
  v49 := Tryz.zeroValue464
  t51 := Tryz.underlying362
  a51 := Tryz.isAgg362
  z51 := Tryz.sizeOf362
  v51 := Tryz.zeroValue362
  t119 := Tryz.underlying208
  a119 := Tryz.isAgg208
  z119 := Tryz.sizeOf208
  t141 := Tryz.underlying364
  a141 := Tryz.isAgg364
  z141 := Tryz.sizeOf364
  v141 := Tryz.zeroValue364
  t152 := Tryz.underlying359
  a152 := Tryz.isAgg359
  z152 := Tryz.sizeOf359
  v152 := Tryz.zeroValue359
  t154 := Tryz.underlying361
  a154 := Tryz.isAgg361
  z154 := Tryz.sizeOf361
  v154 := Tryz.zeroValue361
  t193 := Tryz.underlying460
  a193 := Tryz.isAgg460
  z193 := Tryz.sizeOf460
  v193 := Tryz.zeroValue460
  t194 := Tryz.underlying461
  a194 := Tryz.isAgg461
  z194 := Tryz.sizeOf461
  v194 := Tryz.zeroValue461
  t196 := Tryz.underlying463
  a196 := Tryz.isAgg463
  z196 := Tryz.sizeOf463
  v196 := Tryz.zeroValue463
  t198 := Tryz.underlying466
  a198 := Tryz.isAgg466
  z198 := Tryz.sizeOf466
  v198 := Tryz.zeroValue466
  t201 := Tryz.underlying469
  a201 := Tryz.isAgg469
  z201 := Tryz.sizeOf469
  v201 := Tryz.zeroValue469
  t226 := Tryz.underlying506
  a226 := Tryz.isAgg506
  z226 := Tryz.sizeOf506
  v226 := Tryz.zeroValue506
  t227 := Tryz.underlying507
  a227 := Tryz.isAgg507
  z227 := Tryz.sizeOf507
  v227 := Tryz.zeroValue507
  g0 := by kernel_rfl
  g6 := by kernel_rfl }
open Go.RowKit Go.Lib in
/-- strings.Fields, the table by 'Lib.TabIs' (as strings.TrimSpace's contract). 'hg': the table's number, by its name: at a dump 'by kernel_rfl'. (LAID: no walk: one application.) -/
theorem Tryz.strings_Fields (s : ByteArray) (w : World) (hs : s.size < 4294967281) (hascii : ∀ (j : Nat) b, s.data.toList[j]? = some b → b.toNat < 128) (htab : Lib.TabIs Tryz.prog w "strings.asciiSpace" .u8 Lib.asciiSpaceTab) :
    Calls Tryz.prog 68 #[.string s] w fun e w' =>
      e = .returned (.slice (some ⟨w.heap.size, 0, none⟩) (Lib.fields s.data.toList).length (Lib.fields s.data.toList).length) ∧ w' = w.alloc (.cells ((Lib.fields s.data.toList).map fun l => Value.string ⟨l.toArray⟩).toArray 9) := Any.strings_Fields Tryz.lays157 (by kernel_rfl) (by kernel_rfl) s w hs hascii htab
end Go.Proofs
namespace Go.Proofs.YtihaollnndekkaaGreatDoor
open Go Go.Proofs
theorem spaceG : Tryz.prog.globalNamed "strings.asciiSpace" = some 0 := by kernel_rfl
theorem fieldsT_ok : Go.Ab.CallOk Tryz.prog (Go.Ab.fieldsX 68) :=
  Go.Ab.fieldsX_ok (g := 0) (t9 := 9) ⟨_, Tryz.func68, by kernel_rfl, by kernel_rfl⟩ spaceG (fun s w hs ha hT => Any.strings_Fields_core Tryz.lays157 (by kernel_rfl) s w hs ha hT)
end Go.Proofs.YtihaollnndekkaaGreatDoor
