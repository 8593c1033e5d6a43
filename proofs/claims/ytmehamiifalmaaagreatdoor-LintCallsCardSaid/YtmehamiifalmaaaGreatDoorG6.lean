/- LintCalls: part 7 of its proof. -/
import Derived.Test.YtmehamiifalmaaaGreatDoorG5
import Derived.Test.YtmehamiifalmaaaGreatDoorProg
set_option linter.all false
namespace Go.Proofs.YtmehamiifalmaaaGreatDoor
open Go Go.Ab Go.Proofs.Tryz
def sF:bF prog 71=some 6:=af
def fo:bF prog 3=some 1:=af
def Pe:cu prog 3=some false:=af
def awn:=kW Pe
def lM:bF prog 9=some 1:=af
def aro:cu prog 9=some false:=af
def awo:=kW aro
def aat:yi prog 9=true:=af
def arp(l:List UInt8):gD prog #[9] [.str l]=some (.i l.length):=by simp[gD,aat]
def IB:bF prog 69=some 1:=af
def alH:cu prog 69=some false:=af
def arq:=kW alH
def yo:eW prog 69=some 71:=af
def alI:=mJ yo
def ars:jN prog 71=some 72:=af
def Cs:dq prog 71=some [.i 0,.i 0,.i 0,.str [],.i 0,.vec .nil []]:=af
def tC:iZ prog 69 71 6 72:=⟨yo,sF,ars,⟨_,Cs,rfl⟩,aA⟩
def alJ:cu prog 71=some true:=af
def art:=nj alJ sF
def uU:hC prog 71=some [(0,3),(1,3),(2,3),(3,9),(4,3),(5,69)]:=af
def abY:dq prog 71=some [.i 0,.i 0,.i 0,.str [],.i 0,.vec .nil []]:=af
def aru:jF prog 71=some [(0,1),(1,1),(2,1),(3,1),(4,1),(5,1)]:=af
def alK(n k):=di uU 0 n k rfl fo
def YJ(x0 x1 x2 x3 x4 x5):cr prog 71 0 (.rptr [x0,x1,x2,x3,x4,x5])=some (.rptr [x0,x1,x2,x3,x4,x5]):=by simp[cr,uU,fo]
def alL(n k):=di uU 1 n k rfl fo
def alM(n k):=di uU 2 n k rfl fo
def alN(n k):=di uU 3 n k rfl lM
def YK(x0 x1 x2 x3 x4 x5):cr prog 71 3 (.rptr [x0,x1,x2,x3,x4,x5])=some (.rptr [x3,x4,x5]):=by simp[cr,uU,lM]
def alO(n k):=di uU 4 n k rfl fo
def alP(n k):=di uU 5 n k rfl IB
def N_(x0 x1 x2 x3 x4 x5):cr prog 71 5 (.rptr [x0,x1,x2,x3,x4,x5])=some (.rptr [x5]):=by simp[cr,uU,IB]
def arv:=nW abY
def arw:=lI abY aru
def IC:bF prog 95=some 4:=af
def alQ:cu prog 95=some true:=af
def arx:=nj alQ IC
def Ak:hC prog 95=some [(0,3),(1,3),(2,9),(3,9)]:=af
def abZ:dq prog 95=some [.i 0,.i 0,.str [],.str []]:=af
def ary:jF prog 95=some [(0,1),(1,1),(2,1),(3,1)]:=af
def alR(n k):=di Ak 0 n k rfl fo
def alS(x0 x1 x2 x3):cr prog 95 0 (.rptr [x0,x1,x2,x3])=some (.rptr [x0,x1,x2,x3]):=by simp[cr,Ak,fo]
def alT(x0 x1 x2 x3):Af prog 95 0 (.agg [x0,x1,x2,x3])=some x0:=by simp[Af,Ak,iM,Pe]
def alU(n k):=di Ak 1 n k rfl fo
def alV(x0 x1 x2 x3):cr prog 95 1 (.rptr [x0,x1,x2,x3])=some (.rptr [x1,x2,x3]):=by simp[cr,Ak,fo]
def alW(n k):=di Ak 3 n k rfl lM
def alX(x0 x1 x2 x3):cr prog 95 3 (.rptr [x0,x1,x2,x3])=some (.rptr [x3]):=by simp[cr,Ak,lM]
def arz:=nW abZ
def arA:=lI abZ ary
def Ct:bF prog 68=some 1:=af
def alY:cu prog 68=some false:=af
def arB:=kW alY
def Pf:eW prog 68=some 95:=af
def YL:=mJ Pf
def arC:yE prog #[68]=false:=af
def Pg:bF prog 59=some 1:=af
def alZ:cu prog 59=some false:=af
def arD:=kW alZ
def HR:hC prog 241=some [(0,68),(1,3),(2,59),(3,3)]:=af
def arE:dq prog 241=some [.vec .nil [],.i 0,.i 0,.i 0]:=af
def al0:jF prog 241=some [(0,1),(1,1),(2,1),(3,1)]:=af
def aiE(n k):=di HR 0 n k rfl Ct
def aiF(n k):=di HR 1 n k rfl fo
def aiG(n k):=di HR 2 n k rfl Pg
def aiH(n k):=di HR 3 n k rfl fo
def al1:=lI arE al0
def aiI:cu prog 239=some false:=af
def al2:=kW aiI
def Je:bF prog 4=some 1:=af
def arF:cu prog 4=some false:=af
def awp:=kW arF
attribute [go_sem] sF fo awn lM awo arp IB arq alI art alK YJ alL alM alN YK alO alP N_ arv arw IC arx alR alS alT alU alV alW alX arz arA Ct arB YL arC Pg arD aiE aiF aiG aiH al1 al2 Je awp
end Go.Proofs.YtmehamiifalmaaaGreatDoor
