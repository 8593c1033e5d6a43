/- LintFinds: part 18 of its proof. -/
import Derived.Test.YtmehamiifalmaaaGreatDoorG15
set_option linter.all false
namespace Go.Proofs.YtmehamiifalmaaaGreatDoor
open Go Go.Ab Go.Proofs.Tryz
def Pp:bX prog 118=some 1:=af
def aku:cv prog 118=some false:=af
def aoA:=kE aku
def ur:bX prog 78=some 14:=af
def ZY:cv prog 78=some true:=af
def JE:=nL ZY ur
def CX:gY prog 78=some [(0,9),(1,9),(2,68),(3,71),(9,76),(12,59),(13,3)]:=af
def acZ:dz prog 78=some [.str [],.str [],.vec .nil [],.i 0,.i 0,.i 0,.str [],.i 0,.vec .nil [],.vec .nil [],.vec .nil [],.vec .nil [],.i 0,.i 0]:=af
def at5:jl prog 78=some [(0,1),(1,1),(2,1),(3,6),(9,3),(12,1),(13,1)]:=af
def aoB(n k):=cX CX 0 n k rfl ki
def aoC(n k):=cX CX 2 n k rfl CU
def aoD(n k):=cX CX 3 n k rfl rO
def aoE(n k):=cX CX 4 n k rfl P9
def aoF(n k):=cX CX 5 n k rfl P2
def aoG(n k):=cX CX 6 n k rfl ez
def at6:=nP acZ
def at7:=kR acZ at5
def ue:fk prog 118=some 78:=af
def akv:=nM ue
def ZZ:jS prog 78=some 216:=af
def Pq:dz prog 78=some [.str [],.str [],.vec .nil [],.i 0,.i 0,.i 0,.str [],.i 0,.vec .nil [],.vec .nil [],.vec .nil [],.vec .nil [],.i 0,.i 0]:=af
def X9:jD prog 118 78 14 216:=⟨ue,ur,ZZ,⟨_,Pq,rfl⟩,aA⟩
def Z0:gY prog 124=some [(0,118)]:=af
def aua:dz prog 124=some [.vec .nil []]:=af
def aoH:jl prog 124=some [(0,1)]:=af
def akw(n k):=cX Z0 0 n k rfl Pp
def akx(x0):bV prog 124 0 (.rptr [x0])=some (.rptr [x0]):=by simp[bV,Z0,Pp]
def aoI:=kR aua aoH
def abB:bX prog 23=some 1:=af
def aoJ:cv prog 23=some false:=af
def aub:=kE aoJ
def JF:bX prog 65=some 2:=af
def aoK:cv prog 65=some true:=af
def auc:=nL aoK JF
def Qh:gY prog 65=some [(0,9),(1,9)]:=af
def ac0:dz prog 65=some [.str [],.str []]:=af
def aud:jl prog 65=some [(0,1),(1,1)]:=af
def aoL(n k):=cX Qh 0 n k rfl ki
def aoM(x0 x1):bV prog 65 0 (.rptr [x0,x1])=some (.rptr [x0,x1]):=by simp[bV,Qh,ki]
def aoN(n k):=cX Qh 1 n k rfl ki
def aue:=nP ac0
def auf:=kR ac0 aud
def Qi:fk prog 22=some 65:=af
def aoO:=nM Qi
def aug:jS prog 65=some 32:=af
def auh:dz prog 65=some [.str [],.str []]:=af
def aoP:jD prog 22 65 2 32:=⟨Qi,JF,aug,⟨_,auh,rfl⟩,aA⟩
def JG:bX prog 91=some 14:=af
def aoQ:cv prog 91=some true:=af
def aui:=nL aoQ JG
def wY:gY prog 91=some [(0,9),(1,9),(2,68),(3,71),(9,89),(12,3),(13,3)]:=af
def ac1:dz prog 91=some [.str [],.str [],.vec .nil [],.i 0,.i 0,.i 0,.str [],.i 0,.vec .nil [],.vec .nil [],.vec .nil [],.vec .nil [],.i 0,.i 0]:=af
def auj:jl prog 91=some [(0,1),(1,1),(2,1),(3,6),(9,3),(12,1),(13,1)]:=af
def aoR(n k):=cX wY 0 n k rfl ki
def Z1(x0 x1 x2 x3 x4 x5 x6 x7 x8 x9 og oT pF qu):bV prog 91 0 (.rptr [x0,x1,x2,x3,x4,x5,x6,x7,x8,x9,og,oT,pF,qu])=some (.rptr [x0,x1,x2,x3,x4,x5,x6,x7,x8,x9,og,oT,pF,qu]):=by simp[bV,wY,ki]
def aoS(n k):=cX wY 2 n k rfl CU
def aoT(n k):=cX wY 3 n k rfl rO
def aoU(n k):=cX wY 4 n k rfl Jy
def aoV(n k):=cX wY 5 n k rfl ez
def aoW(n k):=cX wY 6 n k rfl ez
def auk:=nP ac1
def aul:=kR ac1 auj
def Qj:fk prog 24=some 91:=af
def aoX:=nM Qj
def aum:jS prog 91=some 216:=af
def aun:dz prog 91=some [.str [],.str [],.vec .nil [],.i 0,.i 0,.i 0,.str [],.i 0,.vec .nil [],.vec .nil [],.vec .nil [],.vec .nil [],.i 0,.i 0]:=af
def CH:jD prog 24 91 14 216:=⟨Qj,JG,aum,⟨_,aun,rfl⟩,aA⟩
def Z2:bX prog 170=some 2:=af
def aky:cv prog 170=some true:=af
def aoY:=nL aky Z2
def Z3:gY prog 170=some [(0,9),(1,3)]:=af
def abC:dz prog 170=some [.str [],.i 0]:=af
def aoZ:jl prog 170=some [(0,1),(1,1)]:=af
def akz(n k):=cX Z3 0 n k rfl ki
def akA(n k):=cX Z3 1 n k rfl ez
def ao0:=nP abC
def ao1:=kR abC aoZ
def abD:bX prog 28=some 1:=af
def ao2:cv prog 28=some false:=af
def auo:=kE ao2
def Fy:bX prog 35=some 3:=af
def JH:bX prog 33=some 2:=af
def ao3:cv prog 33=some true:=af
def Qk:gY prog 33=some [(0,9),(1,3)]:=af
def ayr:dz prog 33=some [.str [],.i 0]:=af
def aup:jl prog 33=some [(0,1),(1,1)]:=af
def ao4(n k):=cX Qk 0 n k rfl ki
def ao5(n k):=cX Qk 1 n k rfl ez
def auq:=kR ayr aup
def Z4:cv prog 35=some true:=af
def aur:=nL Z4 Fy
def JI:gY prog 35=some [(0,33),(2,3)]:=af
def ac2:dz prog 35=some [.str [],.i 0,.i 0]:=af
def aus:jl prog 35=some [(0,2),(2,1)]:=af
def ao6(n k):=cX JI 0 n k rfl JH
def ao7(x0 x1 x2):bV prog 35 0 (.rptr [x0,x1,x2])=some (.rptr [x0,x1,x2]):=by simp[bV,JI,JH]
def ao8(n k):=cX JI 1 n k rfl ez
def ao9(x0 x1 x2):bV prog 35 1 (.rptr [x0,x1,x2])=some (.rptr [x2]):=by simp[bV,JI,ez]
def aut:=nP ac2
def auu:=kR ac2 aus
def JJ:fk prog 28=some 35:=af
def apa:=nM JJ
def auv:jS prog 35=some 32:=af
def auw:dz prog 35=some [.str [],.i 0,.i 0]:=af
def Z5:jD prog 28 35 3 32:=⟨JJ,Fy,auv,⟨_,auw,rfl⟩,aA⟩
def JK:bX prog 37=some 3:=af
def apb:cv prog 37=some true:=af
def auy:=nL apb JK
def CY:gY prog 37=some [(0,9),(1,3),(2,3)]:=af
def ays:dz prog 37=some [.str [],.i 0,.i 0]:=af
def auz:jl prog 37=some [(0,1),(1,1),(2,1)]:=af
def apc(n k):=cX CY 0 n k rfl ki
def apd(x0 x1 x2):bV prog 37 0 (.rptr [x0,x1,x2])=some (.rptr [x0,x1,x2]):=by simp[bV,CY,ki]
def ape(n k):=cX CY 1 n k rfl ez
def apf(x0 x1 x2):bV prog 37 1 (.rptr [x0,x1,x2])=some (.rptr [x1,x2]):=by simp[bV,CY,ez]
def apg(n k):=cX CY 2 n k rfl ez
def aph(x0 x1 x2):bV prog 37 2 (.rptr [x0,x1,x2])=some (.rptr [x2]):=by simp[bV,CY,ez]
def auA:=kR ays auz
def Ql:fk prog 30=some 37:=af
def api:=nM Ql
def auB:jS prog 37=some 32:=af
def auC:dz prog 37=some [.str [],.i 0,.i 0]:=af
def AK:jD prog 30 37 3 32:=⟨Ql,JK,auB,⟨_,auC,rfl⟩,aA⟩
def abE:bX prog 49=some 2:=af
def Z6:cv prog 49=some true:=af
def auD:=nL Z6 abE
def ac3:dz prog 49=some [.str [],.i 0]:=af
def auE:jl prog 49=some [(0,1),(1,1)]:=af
def auF:=nP ac3
def auG:=kR ac3 auE
def abF:fk prog 98=some 33:=af
def apj:=nM abF
def auH:jS prog 33=some 24:=af
def auI:dz prog 33=some [.str [],.i 0]:=af
def Pr:jD prog 98 33 2 24:=⟨abF,JH,auH,⟨_,auI,rfl⟩,aA⟩
def akB:cv prog 103=some false:=af
def apk:=kE akB
def I2:fk prog 103=some 3:=af
def akC:=nM I2
def apl:jS prog 3=some 8:=af
def apm:dz prog 3=some [.i 0]:=af
def X_:jD prog 103 3 1 8:=⟨I2,ez,apl,⟨_,apm,rfl⟩,aA⟩
def abG:bX prog 44=some 2:=af
def Z7:cv prog 44=some true:=af
def auJ:=nL Z7 abG
def ac4:dz prog 44=some [.str [],.i 0]:=af
def auK:jl prog 44=some [(0,1),(1,1)]:=af
def auL:=nP ac4
def auM:=kR ac4 auK
def auN:fk prog 38=some 48:=af
def apn:=nM auN
def auO:fk prog 40=some 44:=af
def apo:=nM auO
attribute [go_sem] Pp aoA ur JE aoB aoC aoD aoE aoF aoG at6 at7 akv akw akx aoI abB aub JF auc aoL aoM aoN aue auf aoO JG aui aoR Z1 aoS aoT aoU aoV aoW auk aul aoX Z2 aoY akz akA ao0 ao1 abD auo Fy JH ao4 ao5 auq aur ao6 ao7 ao8 ao9 aut auu apa JK auy apc apd ape apf apg aph auA api abE auD auF auG apj apk akC abG auJ auL auM apn apo
end Go.Proofs.YtmehamiifalmaaaGreatDoor
