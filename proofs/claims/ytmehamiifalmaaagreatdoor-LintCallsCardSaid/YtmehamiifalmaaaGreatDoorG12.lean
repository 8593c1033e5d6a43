/- LintCalls: part 13 of its proof. -/
import Derived.Test.YtmehamiifalmaaaGreatDoorG7
set_option linter.all false
namespace Go.Proofs.YtmehamiifalmaaaGreatDoor
open Go Go.Ab Go.Proofs.Tryz
def Pp:bF prog 76=some 3:=af
def aaI:bF prog 72=some 1:=af
def amH:cu prog 72=some false:=af
def asu:=kW amH
def EB:bF prog 102=some 4:=af
def aiZ:cu prog 102=some true:=af
def amI:=nj aiZ EB
def B_:hC prog 102=some [(0,3),(1,3),(2,9),(3,3)]:=af
def aaJ:dq prog 102=some [.i 0,.i 0,.str [],.i 0]:=af
def amJ:jF prog 102=some [(0,1),(1,1),(2,1),(3,1)]:=af
def ai0(n k):=di B_ 0 n k rfl fo
def ai1(x0 x1 x2 x3):cr prog 102 0 (.rptr [x0,x1,x2,x3])=some (.rptr [x0,x1,x2,x3]):=by simp[cr,B_,fo]
def ai2(n k):=di B_ 1 n k rfl fo
def ai3(x0 x1 x2 x3):cr prog 102 1 (.rptr [x0,x1,x2,x3])=some (.rptr [x1,x2,x3]):=by simp[cr,B_,fo]
def ai4(n k):=di B_ 2 n k rfl lM
def ai5(n k):=di B_ 3 n k rfl fo
def amK:=nW aaJ
def amL:=lI aaJ amJ
def IF:eW prog 72=some 102:=af
def amM:=mJ IF
def asv:yE prog #[72]=false:=af
def asw:jN prog 102=some 40:=af
def aaK:dq prog 102=some [.i 0,.i 0,.str [],.i 0]:=af
def amN:iZ prog 72 102 4 40:=⟨IF,EB,asw,⟨_,aaK,rfl⟩,aA⟩
def aaL:bF prog 73=some 1:=af
def amO:cu prog 73=some false:=af
def asx:=kW amO
def EC:bF prog 138=some 4:=af
def ai6:cu prog 138=some true:=af
def amP:=nj ai6 EC
def Y5:hC prog 138=some [(0,3),(1,3),(2,4),(3,3)]:=af
def aaM:dq prog 138=some [.i 0,.i 0,.bool false,.i 0]:=af
def amQ:jF prog 138=some [(0,1),(1,1),(2,1),(3,1)]:=af
def ai7(n k):=di Y5 0 n k rfl fo
def ai8(n k):=di Y5 1 n k rfl fo
def amR:=nW aaM
def amS:=lI aaM amQ
def IG:eW prog 73=some 138:=af
def amT:=mJ IG
def asy:jN prog 138=some 32:=af
def aaN:dq prog 138=some [.i 0,.i 0,.bool false,.i 0]:=af
def amU:iZ prog 73 138 4 32:=⟨IG,EC,asy,⟨_,aaN,rfl⟩,aA⟩
def aaO:bF prog 74=some 1:=af
def amV:cu prog 74=some false:=af
def asz:=kW amV
def B':bF prog 198=some 2:=af
def Xl:cu prog 198=some true:=af
def Y6:=nj Xl B'
def amW:hC prog 198=some [(0,3),(1,59)]:=af
def asA:dq prog 198=some [.i 0,.i 0]:=af
def amX:jF prog 198=some [(0,1),(1,1)]:=af
def ai9(n k):=di amW 0 n k rfl fo
def amY:=lI asA amX
def EZ:eW prog 74=some 198:=af
def aaP:jN prog 198=some 16:=af
def Pq:dq prog 198=some [.i 0,.i 0]:=af
def amZ:cu prog 76=some true:=af
def asB:=nj amZ Pp
def Pr:hC prog 76=some [(0,72),(1,73),(2,74)]:=af
def awX:dq prog 76=some [.vec .nil [],.vec .nil [],.vec .nil []]:=af
def am0(n k):=di Pr 0 n k rfl aaI
def am1(n k):=di Pr 1 n k rfl aaL
def am2(n k):=di Pr 2 n k rfl aaO
def asC:=nW awX
def Y7:bF prog 189=some 1:=af
def aja:cu prog 189=some false:=af
def am3:=kW aja
def Oj:bF prog 191=some 1:=af
def ajb:cu prog 191=some false:=af
def am4:=kW ajb
def asD:dq prog 191=some [.val (.pointer none)]:=af
def am5:=nW asD
def Ol:bF prog 190=some 1:=af
def ajc:cu prog 190=some false:=af
def am6:=kW ajc
def HX:hC prog 193=some [(0,189),(1,191),(2,190),(3,3)]:=af
def ajd(n k):=di HX 0 n k rfl Y7
def aje(n k):=di HX 1 n k rfl Oj
def ajf(n k):=di HX 2 n k rfl Ol
def ajg(n k):=di HX 3 n k rfl fo
def Om:hC prog 247=some [(0,190),(1,4),(2,191)]:=af
def asE:dq prog 247=some [.val (.map none),.bool false,.val (.pointer none)]:=af
def am7:jF prog 247=some [(0,1),(1,1),(2,1)]:=af
def ajh(n k):=di Om 0 n k rfl Ol
def aji(n k):=di Om 1 n k rfl Je
def ajj(n k):=di Om 2 n k rfl Oj
def am8:=lI asE am7
def ajk:cu prog 188=some false:=af
def Y8:=kW ajk
attribute [go_sem] Pp aaI asu EB amI ai0 ai1 ai2 ai3 ai4 ai5 amK amL amM asv aaL asx EC amP ai7 ai8 amR amS amT aaO asz B' Y6 ai9 amY asB am0 am1 am2 asC Y7 am3 Oj am4 am5 Ol am6 ajd aje ajf ajg ajh aji ajj am8 Y8
end Go.Proofs.YtmehamiifalmaaaGreatDoor
