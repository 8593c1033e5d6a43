/- LintCalls: part 18 of its proof. -/
import Derived.Test.YtmehamiifalmaaaGreatDoorG15
set_option linter.all false
namespace Go.Proofs.YtmehamiifalmaaaGreatDoor
open Go Go.Ab Go.Proofs.Tryz
def OB:bF prog 118=some 1:=af
def ajQ:cu prog 118=some false:=af
def anV:=kW ajQ
def uX:bF prog 78=some 14:=af
def Zq:cu prog 78=some true:=af
def IX:=nj Zq uX
def Cv:hC prog 78=some [(0,9),(1,9),(2,68),(3,71),(9,76),(12,59),(13,3)]:=af
def ach:dq prog 78=some [.str [],.str [],.vec .nil [],.i 0,.i 0,.i 0,.str [],.i 0,.vec .nil [],.vec .nil [],.vec .nil [],.vec .nil [],.i 0,.i 0]:=af
def ath:jF prog 78=some [(0,1),(1,1),(2,1),(3,6),(9,3),(12,1),(13,1)]:=af
def anW(n k):=di Cv 0 n k rfl lM
def anX(n k):=di Cv 2 n k rfl Ct
def anY(n k):=di Cv 3 n k rfl sF
def anZ(n k):=di Cv 4 n k rfl Pp
def an0(n k):=di Cv 5 n k rfl Pg
def an1(n k):=di Cv 6 n k rfl fo
def ati:=nW ach
def atj:=lI ach ath
def tE:eW prog 118=some 78:=af
def ajR:=mJ tE
def Zr:jN prog 78=some 216:=af
def OC:dq prog 78=some [.str [],.str [],.vec .nil [],.i 0,.i 0,.i 0,.str [],.i 0,.vec .nil [],.vec .nil [],.vec .nil [],.vec .nil [],.i 0,.i 0]:=af
def XA:iZ prog 118 78 14 216:=⟨tE,uX,Zr,⟨_,OC,rfl⟩,aA⟩
def Zs:hC prog 124=some [(0,118)]:=af
def atk:dq prog 124=some [.vec .nil []]:=af
def an2:jF prog 124=some [(0,1)]:=af
def ajS(n k):=di Zs 0 n k rfl OB
def ajT(x0):cr prog 124 0 (.rptr [x0])=some (.rptr [x0]):=by simp[cr,Zs,OB]
def an3:=lI atk an2
def IY:bF prog 65=some 2:=af
def an4:cu prog 65=some true:=af
def atl:=nj an4 IY
def PA:hC prog 65=some [(0,9),(1,9)]:=af
def aci:dq prog 65=some [.str [],.str []]:=af
def atm:jF prog 65=some [(0,1),(1,1)]:=af
def an5(n k):=di PA 0 n k rfl lM
def an6(x0 x1):cr prog 65 0 (.rptr [x0,x1])=some (.rptr [x0,x1]):=by simp[cr,PA,lM]
def an7(n k):=di PA 1 n k rfl lM
def atn:=nW aci
def ato:=lI aci atm
def PB:eW prog 22=some 65:=af
def an8:=mJ PB
def atp:jN prog 65=some 32:=af
def atq:dq prog 65=some [.str [],.str []]:=af
def an9:iZ prog 22 65 2 32:=⟨PB,IY,atp,⟨_,atq,rfl⟩,aA⟩
def IZ:bF prog 91=some 14:=af
def aoa:cu prog 91=some true:=af
def atr:=nj aoa IZ
def uY:hC prog 91=some [(0,9),(1,9),(2,68),(3,71),(9,89),(12,3),(13,3)]:=af
def acj:dq prog 91=some [.str [],.str [],.vec .nil [],.i 0,.i 0,.i 0,.str [],.i 0,.vec .nil [],.vec .nil [],.vec .nil [],.vec .nil [],.i 0,.i 0]:=af
def ats:jF prog 91=some [(0,1),(1,1),(2,1),(3,6),(9,3),(12,1),(13,1)]:=af
def aob(n k):=di uY 0 n k rfl lM
def Zt(x0 x1 x2 x3 x4 x5 x6 x7 x8 x9 Lk Ll Lm Ln):cr prog 91 0 (.rptr [x0,x1,x2,x3,x4,x5,x6,x7,x8,x9,Lk,Ll,Lm,Ln])=some (.rptr [x0,x1,x2,x3,x4,x5,x6,x7,x8,x9,Lk,Ll,Lm,Ln]):=by simp[cr,uY,lM]
def aoc(n k):=di uY 2 n k rfl Ct
def aod(n k):=di uY 3 n k rfl sF
def aoe(n k):=di uY 4 n k rfl IK
def aof(n k):=di uY 5 n k rfl fo
def aog(n k):=di uY 6 n k rfl fo
def att:=nW acj
def atu:=lI acj ats
def PC:eW prog 24=some 91:=af
def aoh:=mJ PC
def atv:jN prog 91=some 216:=af
def atw:dq prog 91=some [.str [],.str [],.vec .nil [],.i 0,.i 0,.i 0,.str [],.i 0,.vec .nil [],.vec .nil [],.vec .nil [],.vec .nil [],.i 0,.i 0]:=af
def Cd:iZ prog 24 91 14 216:=⟨PC,IZ,atv,⟨_,atw,rfl⟩,aA⟩
def Zu:bF prog 170=some 2:=af
def ajU:cu prog 170=some true:=af
def aoi:=nj ajU Zu
def Zv:hC prog 170=some [(0,9),(1,3)]:=af
def aaY:dq prog 170=some [.str [],.i 0]:=af
def aoj:jF prog 170=some [(0,1),(1,1)]:=af
def ajV(n k):=di Zv 0 n k rfl lM
def ajW(n k):=di Zv 1 n k rfl fo
def aok:=nW aaY
def aol:=lI aaY aoj
def aaZ:bF prog 35=some 3:=af
def PD:bF prog 33=some 2:=af
def aom:cu prog 33=some true:=af
def atx:=nj aom PD
def PE:hC prog 33=some [(0,9),(1,3)]:=af
def ack:dq prog 33=some [.str [],.i 0]:=af
def aty:jF prog 33=some [(0,1),(1,1)]:=af
def aon(n k):=di PE 0 n k rfl lM
def aoo(n k):=di PE 1 n k rfl fo
def atz:=nW ack
def atA:=lI ack aty
def aa0:hC prog 35=some [(0,33),(2,3)]:=af
def aop(x0 x1 x2):cr prog 35 0 (.rptr [x0,x1,x2])=some (.rptr [x0,x1,x2]):=by simp[cr,aa0,PD]
def aoq(x0 x1 x2):cr prog 35 1 (.rptr [x0,x1,x2])=some (.rptr [x2]):=by simp[cr,aa0,fo]
def aa1:eW prog 28=some 35:=af
def aor:=mJ aa1
def Ap:bF prog 49=some 2:=af
def OD:cu prog 49=some true:=af
def atC:=nj OD Ap
def acm:dq prog 49=some [.str [],.i 0]:=af
def atD:jF prog 49=some [(0,1),(1,1)]:=af
def atE:=nW acm
def atF:=lI acm atD
def OE:eW prog 103=some 3:=af
def ajX:=mJ OE
def aos:jN prog 3=some 8:=af
def aot:dq prog 3=some [.i 0]:=af
def NI:iZ prog 103 3 1 8:=⟨OE,fo,aos,⟨_,aot,rfl⟩,aA⟩
def E2:bF prog 48=some 4:=af
def Cw:bF prog 44=some 2:=af
def Ce:cu prog 44=some true:=af
def I0:=nj Ce Cw
def acn:dq prog 44=some [.str [],.i 0]:=af
def atH:jF prog 44=some [(0,1),(1,1)]:=af
def atI:=nW acn
def atJ:=lI acn atH
def aou:cu prog 48=some true:=af
def atK:=nj aou E2
def aa2:hC prog 48=some [(0,44),(2,44)]:=af
def aco:dq prog 48=some [.str [],.i 0,.str [],.i 0]:=af
def atL:jF prog 48=some [(0,2),(2,2)]:=af
def aov(n k):=di aa2 0 n k rfl Cw
def aow(n k):=di aa2 1 n k rfl Cw
def atM:=nW aco
def atN:=lI aco atL
def I1:eW prog 38=some 48:=af
def aox:=mJ I1
def atO:jN prog 48=some 48:=af
def atP:dq prog 48=some [.str [],.i 0,.str [],.i 0]:=af
def Zw:iZ prog 38 48 4 48:=⟨I1,E2,atO,⟨_,atP,rfl⟩,aA⟩
def PF:eW prog 40=some 44:=af
def aoy:=mJ PF
def atQ:jN prog 44=some 24:=af
def atS:dq prog 44=some [.str [],.i 0]:=af
def Aa:iZ prog 40 44 2 24:=⟨PF,Cw,atQ,⟨_,atS,rfl⟩,aA⟩
attribute [go_sem] OB anV uX IX anW anX anY anZ an0 an1 ati atj ajR ajS ajT an3 IY atl an5 an6 an7 atn ato an8 IZ atr aob Zt aoc aod aoe aof aog att atu aoh Zu aoi ajV ajW aok aol aaZ PD atx aon aoo atz atA aop aoq aor Ap atC atE atF ajX E2 Cw I0 atI atJ atK aov aow atM atN aox aoy
end Go.Proofs.YtmehamiifalmaaaGreatDoor
