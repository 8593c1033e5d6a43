/- LintFinds: part 13 of its proof. -/
import Derived.Test.YtmehamiifalmaaaGreatDoorG7
set_option linter.all false
namespace Go.Proofs.YtmehamiifalmaaaGreatDoor
open Go Go.Ab Go.Proofs.Tryz
def P9:bX prog 76=some 3:=af
def abm:bX prog 72=some 1:=af
def anl:cv prog 72=some false:=af
def ath:=kE anl
def E6:bX prog 102=some 4:=af
def ajC:cv prog 102=some true:=af
def anm:=nL ajC E6
def AF:gY prog 102=some [(0,3),(1,3),(2,9),(3,3)]:=af
def abn:dz prog 102=some [.i 0,.i 0,.str [],.i 0]:=af
def ann:jl prog 102=some [(0,1),(1,1),(2,1),(3,1)]:=af
def ajD(n k):=cX AF 0 n k rfl ez
def ajE(x0 x1 x2 x3):bV prog 102 0 (.rptr [x0,x1,x2,x3])=some (.rptr [x0,x1,x2,x3]):=by simp[bV,AF,ez]
def ajF(n k):=cX AF 1 n k rfl ez
def ajG(x0 x1 x2 x3):bV prog 102 1 (.rptr [x0,x1,x2,x3])=some (.rptr [x1,x2,x3]):=by simp[bV,AF,ez]
def ajH(n k):=cX AF 2 n k rfl ki
def ajI(x0 x1 x2 x3):bV prog 102 2 (.rptr [x0,x1,x2,x3])=some (.rptr [x2,x3]):=by simp[bV,AF,ki]
def ajJ(n k):=cX AF 3 n k rfl ez
def ano:=nP abn
def anq:=kR abn ann
def Js:fk prog 72=some 102:=af
def anr:=nM Js
def ati:zh prog #[72]=false:=af
def atj:jS prog 102=some 40:=af
def abo:dz prog 102=some [.i 0,.i 0,.str [],.i 0]:=af
def ans:jD prog 72 102 4 40:=⟨Js,E6,atj,⟨_,abo,rfl⟩,aA⟩
def abp:bX prog 73=some 1:=af
def ant:cv prog 73=some false:=af
def atk:=kE ant
def E7:bX prog 138=some 4:=af
def ajK:cv prog 138=some true:=af
def anu:=nL ajK E7
def O':gY prog 138=some [(0,3),(1,3),(2,4),(3,3)]:=af
def abq:dz prog 138=some [.i 0,.i 0,.bool false,.i 0]:=af
def anv:jl prog 138=some [(0,1),(1,1),(2,1),(3,1)]:=af
def ajL(n k):=cX O' 0 n k rfl ez
def ajM(n k):=cX O' 1 n k rfl ez
def ajN(n k):=cX O' 2 n k rfl Dc
def anw:=nP abq
def anx:=kR abq anv
def Jt:fk prog 73=some 138:=af
def anz:=nM Jt
def atl:jS prog 138=some 32:=af
def abr:dz prog 138=some [.i 0,.i 0,.bool false,.i 0]:=af
def anA:jD prog 73 138 4 32:=⟨Jt,E7,atl,⟨_,abr,rfl⟩,aA⟩
def abt:bX prog 74=some 1:=af
def anB:cv prog 74=some false:=af
def atm:=kE anB
def CB:bX prog 198=some 2:=af
def XT:cv prog 198=some true:=af
def ZC:=nL XT CB
def anC:gY prog 198=some [(0,3),(1,59)]:=af
def atn:dz prog 198=some [.i 0,.i 0]:=af
def anD:jl prog 198=some [(0,1),(1,1)]:=af
def ajO(n k):=cX anC 0 n k rfl ez
def anE:=kR atn anD
def Ft:fk prog 74=some 198:=af
def abu:jS prog 198=some 16:=af
def P_:dz prog 198=some [.i 0,.i 0]:=af
def anF:cv prog 76=some true:=af
def ato:=nL anF P9
def P':gY prog 76=some [(0,72),(1,73),(2,74)]:=af
def ax2:dz prog 76=some [.vec .nil [],.vec .nil [],.vec .nil []]:=af
def anG(n k):=cX P' 0 n k rfl abm
def anH(n k):=cX P' 1 n k rfl abp
def anI(n k):=cX P' 2 n k rfl abt
def atp:=nP ax2
def ZD:bX prog 189=some 1:=af
def ajP:cv prog 189=some false:=af
def anJ:=kE ajP
def Pa:bX prog 191=some 1:=af
def ajQ:cv prog 191=some false:=af
def anK:=kE ajQ
def atq:dz prog 191=some [.val (.pointer none)]:=af
def anL:=nP atq
def Pc:bX prog 190=some 1:=af
def ajR:cv prog 190=some false:=af
def anM:=kE ajR
def IX:gY prog 193=some [(0,189),(1,191),(2,190),(3,3)]:=af
def ajS(n k):=cX IX 0 n k rfl ZD
def ajT(n k):=cX IX 1 n k rfl Pa
def ajU(n k):=cX IX 2 n k rfl Pc
def ajV(n k):=cX IX 3 n k rfl ez
def Pd:gY prog 247=some [(0,190),(1,4),(2,191)]:=af
def atr:dz prog 247=some [.val (.map none),.bool false,.val (.pointer none)]:=af
def anN:jl prog 247=some [(0,1),(1,1),(2,1)]:=af
def ajW(n k):=cX Pd 0 n k rfl Pc
def ajX(n k):=cX Pd 1 n k rfl Dc
def ajY(n k):=cX Pd 2 n k rfl Pa
def anO:=kR atr anN
def ajZ:cv prog 188=some false:=af
def ZE:=kE ajZ
attribute [go_sem] P9 abm ath E6 anm ajD ajE ajF ajG ajH ajI ajJ ano anq anr ati abp atk E7 anu ajL ajM ajN anw anx anz abt atm CB ZC ajO anE ato anG anH anI atp ZD anJ Pa anK anL Pc anM ajS ajT ajU ajV ajW ajX ajY anO ZE
end Go.Proofs.YtmehamiifalmaaaGreatDoor
