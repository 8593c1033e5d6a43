/- strconv.ParseUint at this program: the shelf's contracts laid (written by the kit's lay-plain), and as a contract of the machine. -/
import Derived.Test.YtiagmokcjljliaaGreatDoorPu
import Derived.Test.YtiagmokcjljliaaGreatDoorProg
import Derived.Test.YtiagmokcjljliaaGreatDoorBx
namespace Go.Proofs
open Go.Shelf
def Tryz.laysPu14_ren : Go.Shelf.Ren := ⟨fun | 14 => 144 | 16 => 231 | 17 => 151 | 19 => 349 | 20 => 350 | 21 => 238 | 22 => 239 | 23 => 240 | 24 => 241 | 25 => 357 | 27 => 38 | 26 => 358 | 28 => 81 | 29 => 146 | 30 => 232 | 31 => 233 | 32 => 234 | 33 => 235 | 35 => 334 | 34 => 351 | 36 => 352 | 37 => 353 | 38 => 354 | 39 => 449 | 40 => 450 | n => n, fun | 9 => 9 | 3 => 3 | 22 => 46 | 24 => 165 | 25 => 278 | 4 => 4 | 34 => 375 | 5 => 5 | 36 => 306 | 37 => 146 | 0 => 0 | 39 => 378 | 21 => 21 | 44 => 502 | 47 => 311 | 50 => 588 | 48 => 586 | 2 => 2 | 52 => 369 | 55 => 372 | 59 => 497 | 60 => 476 | 20 => 20 | 61 => 498 | 65 => 627 | 66 => 628 | 67 => 86 | n => n, fun | 0 => 6 | 1 => 7 | 2 => 5 | 3 => 10 | 4 => 11 | n => n⟩
theorem Tryz.laysPu14 : Go.Proofs.LaysPu.n14 Tryz.prog Tryz.laysPu14_ren := {
  mixed := by kernel_rfl
  f14 := Tryz.func144.trans (congrArg some (by kernel_rfl))
  f16 := Tryz.func231.trans (congrArg some (by kernel_rfl))
  f17 := Tryz.func151.trans (congrArg some (by kernel_rfl))
  f19 := Tryz.func349.trans (congrArg some (by kernel_rfl))
  f20 := Tryz.func350.trans (congrArg some (by kernel_rfl))
  f21 := Tryz.func238.trans (congrArg some (by kernel_rfl))
  f22 := Tryz.func239.trans (congrArg some (by kernel_rfl))
  f23 := Tryz.func240.trans (congrArg some (by kernel_rfl))
  f24 := Tryz.func241.trans (congrArg some (by kernel_rfl))
  f25 := Tryz.func357.trans (congrArg some (by kernel_rfl))
  f26 := Tryz.func358.trans (congrArg some (by kernel_rfl))
  f27 := Tryz.func38.trans (congrArg some (by kernel_rfl))
  f28 := Tryz.func81.trans (congrArg some (by kernel_rfl))
  f29 := Tryz.func146.trans (congrArg some (by kernel_rfl))
  f30 := Tryz.func232.trans (congrArg some (by kernel_rfl))
  f31 := Tryz.func233.trans (congrArg some (by kernel_rfl))
  f32 := Tryz.func234.trans (congrArg some (by kernel_rfl))
  f33 := Tryz.func235.trans (congrArg some (by kernel_rfl))
  f34 := Tryz.func351.trans (congrArg some (by kernel_rfl))
  f35 := Tryz.func334.trans (congrArg some (by kernel_rfl))
  f36 := Tryz.func352.trans (congrArg some (by kernel_rfl))
  f37 := Tryz.func353.trans (congrArg some (by kernel_rfl))
  f38 := Tryz.func354.trans (congrArg some (by kernel_rfl))
  f39 := Tryz.func449.trans (congrArg some (by kernel_rfl))
  f40 := Tryz.func450.trans (congrArg some (by kernel_rfl))
  t0 := Tryz.underlying0
  a0 := Tryz.isAgg0
  z0 := Tryz.sizeOf0
  v0 := Tryz.zeroValue0
  i0 := by kernel_rfl
  t2 := Tryz.underlying2
  a2 := Tryz.isAgg2
  z2 := Tryz.sizeOf2
  v2 := Tryz.zeroValue2
  i2 := by kernel_rfl
  t3 := Tryz.underlying3
  a3 := Tryz.isAgg3
  z3 := Tryz.sizeOf3
  v3 := Tryz.zeroValue3
  i3 := by kernel_rfl
  t4 := Tryz.underlying4
  a4 := Tryz.isAgg4
  z4 := Tryz.sizeOf4
  v4 := Tryz.zeroValue4
  i4 := by kernel_rfl
  t5 := Tryz.underlying5
  a5 := Tryz.isAgg5
  z5 := Tryz.sizeOf5
  v5 := Tryz.zeroValue5
  i5 := by kernel_rfl
  t9 := Tryz.underlying9
  a9 := Tryz.isAgg9
  z9 := Tryz.sizeOf9
  v9 := Tryz.zeroValue9
  i9 := by kernel_rfl
  t20 := Tryz.underlying20
  a20 := Tryz.isAgg20
  z20 := Tryz.sizeOf20
  v20 := Tryz.zeroValue20
  i20 := by kernel_rfl
  t21 := Tryz.underlying21
  a21 := Tryz.isAgg21
  z21 := Tryz.sizeOf21
  v21 := Tryz.zeroValue21
  i21 := by kernel_rfl
  t22 := Tryz.underlying46
  a22 := Tryz.isAgg46
  z22 := Tryz.sizeOf46
  v22 := Tryz.zeroValue46
  i22 := by kernel_rfl
  t24 := Tryz.underlying165
  a24 := Tryz.isAgg165
  z24 := Tryz.sizeOf165
  v24 := Tryz.zeroValue165
  i24 := by kernel_rfl
  t25 := Tryz.underlying278
  a25 := Tryz.isAgg278
  z25 := Tryz.sizeOf278
  v25 := Tryz.zeroValue278
  i25 := by kernel_rfl
  t34 := Tryz.underlying375
  a34 := Tryz.isAgg375
  z34 := Tryz.sizeOf375
  v34 := Tryz.zeroValue375
  i34 := by kernel_rfl
  c34 := by kernel_rfl
  t36 := Tryz.underlying306
  a36 := Tryz.isAgg306
  z36 := Tryz.sizeOf306
  v36 := Tryz.zeroValue306
  i36 := by kernel_rfl
  t37 := Tryz.underlying146
  a37 := Tryz.isAgg146
  z37 := Tryz.sizeOf146
  v37 := Tryz.zeroValue146
  i37 := by kernel_rfl
  t39 := Tryz.underlying378
  a39 := Tryz.isAgg378
  z39 := Tryz.sizeOf378
  v39 := Tryz.zeroValue378
  i39 := by kernel_rfl
  t44 := Tryz.underlying502
  a44 := Tryz.isAgg502
  z44 := Tryz.sizeOf502
  v44 := Tryz.zeroValue502
  i44 := by kernel_rfl
  t47 := Tryz.underlying311
  a47 := Tryz.isAgg311
  z47 := Tryz.sizeOf311
  v47 := Tryz.zeroValue311
  i47 := by kernel_rfl
  t48 := Tryz.underlying586
  a48 := Tryz.isAgg586
  z48 := Tryz.sizeOf586
  v48 := Tryz.zeroValue586
  i48 := by kernel_rfl
  t50 := Tryz.underlying588
  a50 := Tryz.isAgg588
  z50 := Tryz.sizeOf588
  v50 := Tryz.zeroValue588
  i50 := by kernel_rfl
  t52 := Tryz.underlying369
  a52 := Tryz.isAgg369
  z52 := Tryz.sizeOf369
  v52 := Tryz.zeroValue369
  i52 := by kernel_rfl
  t55 := Tryz.underlying372
  a55 := Tryz.isAgg372
  z55 := Tryz.sizeOf372
  v55 := Tryz.zeroValue372
  i55 := by kernel_rfl
  t59 := Tryz.underlying497
  a59 := Tryz.isAgg497
  z59 := Tryz.sizeOf497
  v59 := Tryz.zeroValue497
  i59 := by kernel_rfl
  t60 := Tryz.underlying476
  a60 := Tryz.isAgg476
  z60 := Tryz.sizeOf476
  v60 := Tryz.zeroValue476
  i60 := by kernel_rfl
  t61 := Tryz.underlying498
  a61 := Tryz.isAgg498
  z61 := Tryz.sizeOf498
  t65 := Tryz.underlying627
  a65 := Tryz.isAgg627
  z65 := Tryz.sizeOf627
  v65 := Tryz.zeroValue627
  i65 := by kernel_rfl
  t66 := Tryz.underlying628
  a66 := Tryz.isAgg628
  z66 := Tryz.sizeOf628
  v66 := Tryz.zeroValue628
  i66 := by kernel_rfl
  t67 := Tryz.underlying86
  a67 := Tryz.isAgg86
  z67 := Tryz.sizeOf86
  v67 := Tryz.zeroValue86
  i67 := by kernel_rfl
  g0 := by kernel_rfl
  m0 := by kernel_rfl
  g1 := by kernel_rfl
  m1 := by kernel_rfl
  g2 := by kernel_rfl
  m2 := by kernel_rfl
  g3 := by kernel_rfl
  m3 := by kernel_rfl
  g4 := by kernel_rfl
  m4 := by kernel_rfl }
end Go.Proofs
namespace Go.Proofs.YtiagmokcjljliaaGreatDoor
open Go Go.RowKit Go.Proofs
theorem gSyn : Tryz.prog.globalNamed "strconv.ErrSyntax" = some (Tryz.laysPu14_ren.g 0) := by kernel_rfl
theorem gRan : Tryz.prog.globalNamed "strconv.ErrRange" = some (Tryz.laysPu14_ren.g 1) := by kernel_rfl
theorem parseT_ok : Go.Ab.CallOk Tryz.prog (Go.Ab.parseX 144 378) := by
  refine Go.Ab.parseX_ok (callB 144 _ Tryz.func144 (by kernel_rfl) (by kernel_rfl)) gSyn gRan (fun s u w hs h => ?_) (fun s w hs h h0 h1 => ?_)
  · refine (strconv_at63_ok Tryz.laysPu14 s (by omega) u h w).mono ?_
    rintro e w' ⟨rfl, rfl | rfl⟩
    · exact ⟨rfl, Below.refl _ _⟩
    · exact ⟨rfl, Lib.bytesWorld_below _ _ _⟩
  · cases hp : Lib.parseUintB 63 s.data.toList with
    | ok u => exact (h u hp).elim
    | range =>
      obtain ⟨v, hv, hev⟩ := h1
      refine (strconv_at63_range Tryz.laysPu14 s (by omega) hp v w hv hev).mono ?_
      rintro e w' ⟨N, rfl, _, _, hb⟩
      exact ⟨⟨9223372036854775807, _, rfl⟩, hb⟩
    | _ =>
      obtain ⟨v, hv, hev⟩ := h0
      refine (strconv_at63_syntax Tryz.laysPu14 s (by omega) hp v w hv hev).mono ?_
      rintro e w' ⟨N, rfl, _, _, hb⟩
      exact ⟨⟨0, _, rfl⟩, hb⟩
end Go.Proofs.YtiagmokcjljliaaGreatDoor
