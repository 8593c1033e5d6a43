/- LintFinds: part 16 of its proof. -/
import Derived.Test.YtmehamiifalmaaaGreatDoorG14
set_option linter.all false
namespace Go.Proofs.YtmehamiifalmaaaGreatDoor
open Go Go.Ab Go.Proofs.Tryz
def Jy:bX prog 89=some 3:=af
def Qe:bX prog 85=some 1:=af
def anY:cv prog 85=some false:=af
def atG:=kE anY
def Fu:bX prog 93=some 4:=af
def anZ:cv prog 93=some true:=af
def atH:=nL anZ Fu
def AY:gY prog 93=some [(0,3),(1,3),(2,9),(3,3)]:=af
def acW:dz prog 93=some [.i 0,.i 0,.str [],.i 0]:=af
def atJ:jl prog 93=some [(0,1),(1,1),(2,1),(3,1)]:=af
def an0(n k):=cX AY 0 n k rfl ez
def an1(x0 x1 x2 x3):bV prog 93 0 (.rptr [x0,x1,x2,x3])=some (.rptr [x0,x1,x2,x3]):=by simp[bV,AY,ez]
def an2(n k):=cX AY 1 n k rfl ez
def an3(x0 x1 x2 x3):bV prog 93 1 (.rptr [x0,x1,x2,x3])=some (.rptr [x1,x2,x3]):=by simp[bV,AY,ez]
def an4(n k):=cX AY 2 n k rfl ki
def an5(x0 x1 x2 x3):bV prog 93 2 (.rptr [x0,x1,x2,x3])=some (.rptr [x2,x3]):=by simp[bV,AY,ki]
def an6(n k):=cX AY 3 n k rfl ez
def atK:=nP acW
def atL:=kR acW atJ
def Jz:fk prog 85=some 93:=af
def an7:=nM Jz
def atM:jS prog 93=some 40:=af
def abx:dz prog 93=some [.i 0,.i 0,.str [],.i 0]:=af
def an8:jD prog 85 93 4 40:=⟨Jz,Fu,atM,⟨_,abx,rfl⟩,aA⟩
def Qf:bX prog 86=some 1:=af
def an9:cv prog 86=some false:=af
def atN:=kE an9
def Fv:bX prog 97=some 4:=af
def aoa:cv prog 97=some true:=af
def atO:=nL aoa Fv
def Fw:gY prog 97=some [(0,3),(1,3),(2,4),(3,3)]:=af
def acX:dz prog 97=some [.i 0,.i 0,.bool false,.i 0]:=af
def atP:jl prog 97=some [(0,1),(1,1),(2,1),(3,1)]:=af
def aob(n k):=cX Fw 0 n k rfl ez
def aoc(n k):=cX Fw 1 n k rfl ez
def aod(x0 x1 x2 x3):bV prog 97 1 (.rptr [x0,x1,x2,x3])=some (.rptr [x1,x2,x3]):=by simp[bV,Fw,ez]
def aoe(x0 x1 x2 x3):bV prog 97 2 (.rptr [x0,x1,x2,x3])=some (.rptr [x2,x3]):=by simp[bV,Fw,Dc]
def aof(n k):=cX Fw 3 n k rfl ez
def atQ:=nP acX
def atS:=kR acX atP
def JA:fk prog 86=some 97:=af
def aog:=nM JA
def atT:jS prog 97=some 32:=af
def aby:dz prog 97=some [.i 0,.i 0,.bool false,.i 0]:=af
def aoh:jD prog 86 97 4 32:=⟨JA,Fv,atT,⟨_,aby,rfl⟩,aA⟩
def abz:bX prog 87=some 1:=af
def aoi:cv prog 87=some false:=af
def atU:=kE aoi
def AH:bX prog 210=some 2:=af
def akh:cv prog 210=some true:=af
def aoj:=nL akh AH
def aok:gY prog 210=some [(0,3),(1,3)]:=af
def atV:dz prog 210=some [.i 0,.i 0]:=af
def aol:jl prog 210=some [(0,1),(1,1)]:=af
def aki(x0 x1):bV prog 210 0 (.rptr [x0,x1])=some (.rptr [x0,x1]):=by simp[bV,aok,ez]
def aom:=kR atV aol
def CV:fk prog 87=some 210:=af
def aon:=nM CV
def Qg:jS prog 210=some 16:=af
def JB:dz prog 210=some [.i 0,.i 0]:=af
def AJ:jD prog 87 210 2 16:=⟨CV,AH,Qg,⟨_,JB,rfl⟩,aA⟩
def aoo:cv prog 89=some true:=af
def atW:=nL aoo Jy
def Fx:gY prog 89=some [(0,85),(1,86),(2,87)]:=af
def ayf:dz prog 89=some [.vec .nil [],.vec .nil [],.vec .nil []]:=af
def aop(n k):=cX Fx 0 n k rfl Qe
def aoq(n k):=cX Fx 1 n k rfl Qf
def aor(n k):=cX Fx 2 n k rfl abz
def atX:=nP ayf
def E_:bX prog 260=some 3:=af
def Pl:gY prog 260=some [(0,3),(1,4),(2,4)]:=af
def atY:dz prog 260=some [.i 0,.bool false,.bool false]:=af
def aos:jl prog 260=some [(0,1),(1,1),(2,1)]:=af
def akj(x0 x1 x2):bV prog 260 0 (.rptr [x0,x1,x2])=some (.rptr [x0,x1,x2]):=by simp[bV,Pl,ez]
def akk(x0 x1 x2):bV prog 260 1 (.rptr [x0,x1,x2])=some (.rptr [x1,x2]):=by simp[bV,Pl,Dc]
def akl(x0 x1 x2):bV prog 260 2 (.rptr [x0,x1,x2])=some (.rptr [x2]):=by simp[bV,Pl,Dc]
def aot:=kR atY aos
def E':fk prog 206=some 260:=af
def akm:=nM E'
def ZP:jS prog 260=some 16:=af
def Pm:dz prog 260=some [.i 0,.bool false,.bool false]:=af
def X8:jD prog 206 260 3 16:=⟨E',E_,ZP,⟨_,Pm,rfl⟩,aA⟩
attribute [go_sem] Jy Qe atG Fu atH an0 an1 an2 an3 an4 an5 an6 atK atL an7 Qf atN Fv atO aob aoc aod aoe aof atQ atS aog abz atU AH aoj aki aom aon atW aop aoq aor atX E_ akj akk akl aot akm
set_option maxRecDepth 100000
set_option maxHeartbeats 8000000
def Rc:List FuncId:=[74,112,113,160,161,202]
noncomputable def cC:Env:={P:=prog,G:=λf=>Rc.contains f,cl:=λf=>f==74,fq:=λ_=>false,dyn:=λi=>[5,6,12,16,17].contains i,df:=λ_=>false,ext:=λ_ _ _=>none}
def aB8:okF cC 112=true:=af
def aB9:okF cC 113=true:=af
def aCa:okF cC 160=true:=af
def aCb:okF cC 161=true:=af
def aCc:okF cC 202=true:=af
def aCd:okF cC 74=true:=af
end Go.Proofs.YtmehamiifalmaaaGreatDoor
