/- LintCalls: part 31 of its proof. -/
import Derived.Test.YtmehamiifalmaaaGreatDoorG28
import Derived.Test.YtmehamiifalmaaaGreatDoorG27
set_option linter.all false
namespace Go.Proofs
open Go.Shelf
def Tryz.Mj:Go.Shelf.Ren:=⟨λ|14=>216|16=>235|17=>236|19=>251|20=>252|21=>253|22=>254|23=>255|24=>256|25=>264|27=>266|26=>265|28=>272|29=>275|30=>278|31=>279|32=>280|33=>281|35=>98|34=>284|36=>285|37=>286|38=>287|39=>290|40=>291|n=>n,λ|9=>9|3=>3|22=>182|24=>307|25=>308|4=>4|34=>334|5=>5|36=>147|37=>327|0=>0|39=>336|21=>21|44=>342|47=>339|50=>350|48=>348|2=>2|52=>352|55=>354|59=>357|60=>180|20=>20|61=>358|65=>359|66=>360|67=>236|n=>n,λ|0=>2|1=>3|2=>5|3=>6|4=>7|n=>n⟩
def Tryz.NT:Go.Proofs.LaysPu.n14 Tryz.prog Tryz.Mj:={
 mixed:=af
 f14:=Tryz.func216.trans (Λ some rfl)
 f16:=Tryz.func235.trans (Λ some rfl)
 f17:=Tryz.func236.trans (Λ some rfl)
 f19:=Tryz.func251.trans (Λ some rfl)
 f20:=Tryz.func252.trans (Λ some rfl)
 f21:=Tryz.func253.trans (Λ some rfl)
 f22:=Tryz.func254.trans (Λ some rfl)
 f23:=Tryz.func255.trans (Λ some rfl)
 f24:=Tryz.func256.trans (Λ some rfl)
 f25:=Tryz.func264.trans (Λ some rfl)
 f26:=Tryz.func265.trans (Λ some rfl)
 f27:=Tryz.func266.trans (Λ some rfl)
 f28:=Tryz.func272.trans (Λ some rfl)
 f29:=Tryz.func275.trans (Λ some rfl)
 f30:=Tryz.func278.trans (Λ some rfl)
 f31:=Tryz.func279.trans (Λ some rfl)
 f32:=Tryz.func280.trans (Λ some rfl)
 f33:=Tryz.func281.trans (Λ some rfl)
 f34:=Tryz.func284.trans (Λ some rfl)
 f35:=Tryz.func98.trans (Λ some rfl)
 f36:=Tryz.func285.trans (Λ some rfl)
 f37:=Tryz.func286.trans (Λ some rfl)
 f38:=Tryz.func287.trans (Λ some rfl)
 f39:=Tryz.func290.trans (Λ some rfl)
 f40:=Tryz.func291.trans (Λ some rfl)
 t0:=Tryz.underlying0
 a0:=Tryz.isAgg0
 z0:=Tryz.sizeOf0
 v0:=Tryz.zeroValue0
 i0:=af
 t2:=Tryz.underlying2
 a2:=Tryz.isAgg2
 z2:=Tryz.sizeOf2
 v2:=Tryz.zeroValue2
 i2:=af
 t3:=Tryz.underlying3
 a3:=Tryz.isAgg3
 z3:=Tryz.sizeOf3
 v3:=Tryz.zeroValue3
 i3:=af
 t4:=Tryz.underlying4
 a4:=Tryz.isAgg4
 z4:=Tryz.sizeOf4
 v4:=Tryz.zeroValue4
 i4:=af
 t5:=Tryz.underlying5
 a5:=Tryz.isAgg5
 z5:=Tryz.sizeOf5
 v5:=Tryz.zeroValue5
 i5:=af
 t9:=Tryz.underlying9
 a9:=Tryz.isAgg9
 z9:=Tryz.sizeOf9
 v9:=Tryz.zeroValue9
 i9:=af
 t20:=Tryz.underlying20
 a20:=Tryz.isAgg20
 z20:=Tryz.sizeOf20
 v20:=Tryz.zeroValue20
 i20:=af
 t21:=Tryz.underlying21
 a21:=Tryz.isAgg21
 z21:=Tryz.sizeOf21
 v21:=Tryz.zeroValue21
 i21:=af
 t22:=Tryz.underlying182
 a22:=Tryz.isAgg182
 z22:=Tryz.sizeOf182
 v22:=Tryz.zeroValue182
 i22:=af
 t24:=Tryz.underlying307
 a24:=Tryz.isAgg307
 z24:=Tryz.sizeOf307
 v24:=Tryz.zeroValue307
 i24:=af
 t25:=Tryz.underlying308
 a25:=Tryz.isAgg308
 z25:=Tryz.sizeOf308
 v25:=Tryz.zeroValue308
 i25:=af
 t34:=Tryz.underlying334
 a34:=Tryz.isAgg334
 z34:=Tryz.sizeOf334
 v34:=Tryz.zeroValue334
 i34:=af
 c34:=af
 t36:=Tryz.underlying147
 a36:=Tryz.isAgg147
 z36:=Tryz.sizeOf147
 v36:=Tryz.zeroValue147
 i36:=af
 t37:=Tryz.underlying327
 a37:=Tryz.isAgg327
 z37:=Tryz.sizeOf327
 v37:=Tryz.zeroValue327
 i37:=af
 t39:=Tryz.underlying336
 a39:=Tryz.isAgg336
 z39:=Tryz.sizeOf336
 v39:=Tryz.zeroValue336
 i39:=af
 t44:=Tryz.underlying342
 a44:=Tryz.isAgg342
 z44:=Tryz.sizeOf342
 v44:=Tryz.zeroValue342
 i44:=af
 t47:=Tryz.underlying339
 a47:=Tryz.isAgg339
 z47:=Tryz.sizeOf339
 v47:=Tryz.zeroValue339
 i47:=af
 t48:=Tryz.underlying348
 a48:=Tryz.isAgg348
 z48:=Tryz.sizeOf348
 v48:=Tryz.zeroValue348
 i48:=af
 t50:=Tryz.underlying350
 a50:=Tryz.isAgg350
 z50:=Tryz.sizeOf350
 v50:=Tryz.zeroValue350
 i50:=af
 t52:=Tryz.underlying352
 a52:=Tryz.isAgg352
 z52:=Tryz.sizeOf352
 v52:=Tryz.zeroValue352
 i52:=af
 t55:=Tryz.underlying354
 a55:=Tryz.isAgg354
 z55:=Tryz.sizeOf354
 v55:=Tryz.zeroValue354
 i55:=af
 t59:=Tryz.underlying357
 a59:=Tryz.isAgg357
 z59:=Tryz.sizeOf357
 v59:=Tryz.zeroValue357
 i59:=af
 t60:=Tryz.underlying180
 a60:=Tryz.isAgg180
 z60:=Tryz.sizeOf180
 v60:=Tryz.zeroValue180
 i60:=af
 t61:=Tryz.underlying358
 a61:=Tryz.isAgg358
 z61:=Tryz.sizeOf358
 t65:=Tryz.underlying359
 a65:=Tryz.isAgg359
 z65:=Tryz.sizeOf359
 v65:=Tryz.zeroValue359
 i65:=af
 t66:=Tryz.underlying360
 a66:=Tryz.isAgg360
 z66:=Tryz.sizeOf360
 v66:=Tryz.zeroValue360
 i66:=af
 t67:=Tryz.underlying236
 a67:=Tryz.isAgg236
 z67:=Tryz.sizeOf236
 v67:=Tryz.zeroValue236
 i67:=af
 g0:=af
 m0:=af
 g1:=af
 m1:=af
 g2:=af
 m2:=af
 g3:=af
 m3:=af
 g4:=af
 m4:=by kernel_rfl}
end Go.Proofs
namespace Go.Proofs.YtmehamiifalmaaaGreatDoor.K
open Go Go.RowKit Go.Proofs Go.Proofs.Tryz
def Ka:prog.globalNamed "strconv.ErrSyntax" =some (Tryz.Mj.g 0):=af
def Kb:prog.globalNamed "strconv.ErrRange" =some (Tryz.Mj.g 1):=af
def ahs:Go.Ab.dN prog (Go.Ab.Cm 216 336):=by
 refine Go.Ab.agR (AK 216 _ func216 rfl rfl) Ka Kb (λs u w f h=> ?_) (λs w f h d c=> ?_)
 ·refine(aee Tryz.NT s aa u h w).mono ?_;rintro e w' ⟨rfl,rfl|rfl⟩
  ·exact⟨rfl,Below.refl _ _⟩
  ·exact⟨rfl,Lib.bytesWorld_below _ _ _⟩
 ·cases hp:Lib.parseUintB 63 s.data.toList with
  |ok u=>exact(h u hp).elim
  |range=>obtain⟨v,b,a⟩:=c;refine(ad5 Tryz.NT s aa hp v w b a).mono ?_;rintro e w' ⟨N,rfl,_,_,hb⟩;exact⟨⟨9223372036854775807,_,rfl⟩,hb⟩
  |_=>obtain⟨v,b,a⟩:=d;refine(ad4 Tryz.NT s aa hp v w b a).mono ?_;rintro e w' ⟨N,rfl,_,_,hb⟩;exact⟨⟨0,_,rfl⟩,hb⟩
end Go.Proofs.YtmehamiifalmaaaGreatDoor.K
