/- LintFinds: part 7 of its proof. -/
import Derived.Test.YtmehamiifalmaaaGreatDoorG5
import Derived.Test.YtmehamiifalmaaaGreatDoorProg
set_option linter.all false
namespace Go.Proofs.YtmehamiifalmaaaGreatDoor
open Go Go.Ab Go.Proofs.Tryz
def rO:bX prog 71=some 6:=af
def ez:bX prog 3=some 1:=af
def PZ:cv prog 3=some false:=af
def axs:=kE PZ
def ki:bX prog 9=some 1:=af
def ar8:cv prog 9=some false:=af
def axt:=kE ar8
def aa6:yF prog 9=true:=af
def ar9(l:List UInt8):gB prog #[9] [.str l]=some (.i l.length):=by simp[gB,aa6]
def aBt:dz prog 9=some [.str []]:=af
def axu:=nP aBt
def P0:bX prog 69=some 1:=af
def amn:cv prog 69=some false:=af
def asa:=kE amn
def uo:fk prog 69=some 71:=af
def amo:=nM uo
def asb:jS prog 71=some 72:=af
def CS:dz prog 71=some [.i 0,.i 0,.i 0,.str [],.i 0,.vec .nil []]:=af
def pS:jD prog 69 71 6 72:=⟨uo,rO,asb,⟨_,CS,rfl⟩,aA⟩
def axv:dz prog 69=some [.vec .nil []]:=af
def asc:=nP axv
def Ze:cv prog 71=some true:=af
def asd:=nL Ze rO
def vw:gY prog 71=some [(0,3),(1,3),(2,3),(3,9),(4,3),(5,69)]:=af
def acF:dz prog 71=some [.i 0,.i 0,.i 0,.str [],.i 0,.vec .nil []]:=af
def ase:jl prog 71=some [(0,1),(1,1),(2,1),(3,1),(4,1),(5,1)]:=af
def amp(n k):=cX vw 0 n k rfl ez
def Zf(x0 x1 x2 x3 x4 x5):bV prog 71 0 (.rptr [x0,x1,x2,x3,x4,x5])=some (.rptr [x0,x1,x2,x3,x4,x5]):=by simp[bV,vw,ez]
def amq(n k):=cX vw 1 n k rfl ez
def Zg(x0 x1 x2 x3 x4 x5):bV prog 71 1 (.rptr [x0,x1,x2,x3,x4,x5])=some (.rptr [x1,x2,x3,x4,x5]):=by simp[bV,vw,ez]
def amr(n k):=cX vw 2 n k rfl ez
def ams(n k):=cX vw 3 n k rfl ki
def Zh(x0 x1 x2 x3 x4 x5):bV prog 71 3 (.rptr [x0,x1,x2,x3,x4,x5])=some (.rptr [x3,x4,x5]):=by simp[bV,vw,ki]
def amt(n k):=cX vw 4 n k rfl ez
def amu(n k):=cX vw 5 n k rfl P0
def O0(x0 x1 x2 x3 x4 x5):bV prog 71 5 (.rptr [x0,x1,x2,x3,x4,x5])=some (.rptr [x5]):=by simp[bV,vw,P0]
def asf:=nP acF
def asg:=kR acF ase
def Jp:bX prog 95=some 4:=af
def amv:cv prog 95=some true:=af
def ash:=nL amv Jp
def CT:gY prog 95=some [(0,3),(1,3),(2,9),(3,9)]:=af
def acG:dz prog 95=some [.i 0,.i 0,.str [],.str []]:=af
def asi:jl prog 95=some [(0,1),(1,1),(2,1),(3,1)]:=af
def amw(n k):=cX CT 0 n k rfl ez
def amx(x0 x1 x2 x3):bV prog 95 0 (.rptr [x0,x1,x2,x3])=some (.rptr [x0,x1,x2,x3]):=by simp[bV,CT,ez]
def amy(x0 x1 x2 x3):AN prog 95 0 (.agg [x0,x1,x2,x3])=some x0:=by simp[AN,CT,iP,PZ]
def amz(x0 x1 x2 x3):bV prog 95 1 (.rptr [x0,x1,x2,x3])=some (.rptr [x1,x2,x3]):=by simp[bV,CT,ez]
def amA(n k):=cX CT 3 n k rfl ki
def amB(x0 x1 x2 x3):bV prog 95 3 (.rptr [x0,x1,x2,x3])=some (.rptr [x3]):=by simp[bV,CT,ki]
def asj:=nP acG
def asm:=kR acG asi
def CU:bX prog 68=some 1:=af
def amC:cv prog 68=some false:=af
def asn:=kE amC
def P1:fk prog 68=some 95:=af
def Zi:=nM P1
def aso:zh prog #[68]=false:=af
def P2:bX prog 59=some 1:=af
def amD:cv prog 59=some false:=af
def asp:=kE amD
def IK:gY prog 241=some [(0,68),(1,3),(2,59),(3,3)]:=af
def asq:dz prog 241=some [.vec .nil [],.i 0,.i 0,.i 0]:=af
def amE:jl prog 241=some [(0,1),(1,1),(2,1),(3,1)]:=af
def ajh(n k):=cX IK 0 n k rfl CU
def aji(n k):=cX IK 1 n k rfl ez
def ajj(n k):=cX IK 2 n k rfl P2
def ajk(n k):=cX IK 3 n k rfl ez
def amF:=kR asq amE
def ajl:cv prog 239=some false:=af
def amG:=kE ajl
def Dc:bX prog 4=some 1:=af
def asr:cv prog 4=some false:=af
def axw:=kE asr
attribute [go_sem] rO ez axs ki axt ar9 axu P0 asa amo asc asd amp Zf amq Zg amr ams Zh amt amu O0 asf asg Jp ash amw amx amy amz amA amB asj asm CU asn Zi aso P2 asp ajh aji ajj ajk amF amG Dc axw
end Go.Proofs.YtmehamiifalmaaaGreatDoor
