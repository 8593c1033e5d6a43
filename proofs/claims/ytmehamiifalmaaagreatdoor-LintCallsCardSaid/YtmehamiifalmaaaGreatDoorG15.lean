/- LintCalls: part 16 of its proof. -/
import Derived.Test.YtmehamiifalmaaaGreatDoorG14
set_option linter.all false
namespace Go.Proofs.YtmehamiifalmaaaGreatDoor
open Go Go.Ab Go.Proofs.Tryz
def IK:bF prog 89=some 3:=af
def Px:bF prog 85=some 1:=af
def anj:cu prog 85=some false:=af
def asS:=kW anj
def E0:bF prog 93=some 4:=af
def ank:cu prog 93=some true:=af
def asT:=nj ank E0
def Ao:hC prog 93=some [(0,3),(1,3),(2,9),(3,3)]:=af
def ace:dq prog 93=some [.i 0,.i 0,.str [],.i 0]:=af
def asU:jF prog 93=some [(0,1),(1,1),(2,1),(3,1)]:=af
def anl(n k):=di Ao 0 n k rfl fo
def anm(x0 x1 x2 x3):cr prog 93 0 (.rptr [x0,x1,x2,x3])=some (.rptr [x0,x1,x2,x3]):=by simp[cr,Ao,fo]
def ann(n k):=di Ao 1 n k rfl fo
def ano(x0 x1 x2 x3):cr prog 93 1 (.rptr [x0,x1,x2,x3])=some (.rptr [x1,x2,x3]):=by simp[cr,Ao,fo]
def anq(n k):=di Ao 2 n k rfl lM
def anr(x0 x1 x2 x3):cr prog 93 2 (.rptr [x0,x1,x2,x3])=some (.rptr [x2,x3]):=by simp[cr,Ao,lM]
def ans(n k):=di Ao 3 n k rfl fo
def asV:=nW ace
def asW:=lI ace asU
def IL:eW prog 85=some 93:=af
def ant:=mJ IL
def asX:jN prog 93=some 40:=af
def aaT:dq prog 93=some [.i 0,.i 0,.str [],.i 0]:=af
def anu:iZ prog 85 93 4 40:=⟨IL,E0,asX,⟨_,aaT,rfl⟩,aA⟩
def aaU:bF prog 86=some 1:=af
def anv:cu prog 86=some false:=af
def asY:=kW anv
def E1:bF prog 97=some 4:=af
def anw:cu prog 97=some true:=af
def asZ:=nj anw E1
def Py:hC prog 97=some [(0,3),(1,3),(2,4),(3,3)]:=af
def acf:dq prog 97=some [.i 0,.i 0,.bool false,.i 0]:=af
def as2:jF prog 97=some [(0,1),(1,1),(2,1),(3,1)]:=af
def anx(n k):=di Py 0 n k rfl fo
def anz(n k):=di Py 1 n k rfl fo
def anA(n k):=di Py 3 n k rfl fo
def as3:=nW acf
def as4:=lI acf as2
def IM:eW prog 86=some 97:=af
def anB:=mJ IM
def as5:jN prog 97=some 32:=af
def aaV:dq prog 97=some [.i 0,.i 0,.bool false,.i 0]:=af
def anC:iZ prog 86 97 4 32:=⟨IM,E1,as5,⟨_,aaV,rfl⟩,aA⟩
def aaW:bF prog 87=some 1:=af
def anD:cu prog 87=some false:=af
def as6:=kW anD
def zZ:bF prog 210=some 2:=af
def ajD:cu prog 210=some true:=af
def anE:=nj ajD zZ
def anF:hC prog 210=some [(0,3),(1,3)]:=af
def as7:dq prog 210=some [.i 0,.i 0]:=af
def anG:jF prog 210=some [(0,1),(1,1)]:=af
def ajE(x0 x1):cr prog 210 0 (.rptr [x0,x1])=some (.rptr [x0,x1]):=by simp[cr,anF,fo]
def anH:=lI as7 anG
def Cu:eW prog 87=some 210:=af
def anI:=mJ Cu
def Pz:jN prog 210=some 16:=af
def IQ:dq prog 210=some [.i 0,.i 0]:=af
def z_:iZ prog 87 210 2 16:=⟨Cu,zZ,Pz,⟨_,IQ,rfl⟩,aA⟩
def anJ:cu prog 89=some true:=af
def as8:=nj anJ IK
def IU:hC prog 89=some [(0,85),(1,86),(2,87)]:=af
def axa:dq prog 89=some [.vec .nil [],.vec .nil [],.vec .nil []]:=af
def anK(n k):=di IU 0 n k rfl Px
def anL(n k):=di IU 1 n k rfl aaU
def anM(n k):=di IU 2 n k rfl aaW
def as9:=nW axa
def EE:bF prog 260=some 3:=af
def Ox:hC prog 260=some [(0,3),(1,4),(2,4)]:=af
def ata:dq prog 260=some [.i 0,.bool false,.bool false]:=af
def anN:jF prog 260=some [(0,1),(1,1),(2,1)]:=af
def ajF(x0 x1 x2):cr prog 260 0 (.rptr [x0,x1,x2])=some (.rptr [x0,x1,x2]):=by simp[cr,Ox,fo]
def ajG(x0 x1 x2):cr prog 260 1 (.rptr [x0,x1,x2])=some (.rptr [x1,x2]):=by simp[cr,Ox,Je]
def ajH(x0 x1 x2):cr prog 260 2 (.rptr [x0,x1,x2])=some (.rptr [x2]):=by simp[cr,Ox,Je]
def anO:=lI ata anN
def EF:eW prog 206=some 260:=af
def ajI:=mJ EF
def Zh:jN prog 260=some 16:=af
def Oy:dq prog 260=some [.i 0,.bool false,.bool false]:=af
def Xz:iZ prog 206 260 3 16:=⟨EF,EE,Zh,⟨_,Oy,rfl⟩,aA⟩
attribute [go_sem] IK Px asS E0 asT anl anm ann ano anq anr ans asV asW ant aaU asY E1 asZ anx anz anA as3 as4 anB aaW as6 zZ anE ajE anH anI as8 anK anL anM as9 EE ajF ajG ajH anO ajI
set_option maxRecDepth 100000
set_option maxHeartbeats 8000000
def QJ:List FuncId:=[74,112,113,160,161,202]
noncomputable def cC:Env:={P:=prog,G:=λf=>QJ.contains f,cl:=λf=>f==74,eX:=λ_=>false,dyn:=λi=>[5,6,12,16,17].contains i,df:=λ_=>false,ext:=λ_ _ _=>none}
def aA0:okF cC 112=true:=af
def aA1:okF cC 113=true:=af
def aA2:okF cC 160=true:=af
def aA3:okF cC 161=true:=af
def aA4:okF cC 202=true:=af
def aA5:okF cC 74=true:=af
end Go.Proofs.YtmehamiifalmaaaGreatDoor
