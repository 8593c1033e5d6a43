/- LintCalls: part 8 of its proof. -/
import Derived.Test.YtmehamiifalmaaaGreatDoorG6
set_option linter.all false
namespace Go.Proofs.YtmehamiifalmaaaGreatDoor
open Go Go.Ab Go.Proofs.Tryz
def YM:hC prog 258=some [(0,68),(1,3)]:=af
def arG:dq prog 258=some [.vec .nil [],.i 0]:=af
def al3:jF prog 258=some [(0,1),(1,1)]:=af
def aiJ(n k):=di YM 0 n k rfl Ct
def aiK(n k):=di YM 1 n k rfl fo
def al4:=lI arG al3
def Al:eW prog 66=some 9:=af
def al5:=mJ Al
def arH:jN prog 9=some 16:=af
def aau:dq prog 9=some [.str []]:=af
def YN:iZ prog 66 9 1 16:=⟨Al,lM,arH,⟨_,aau,rfl⟩,aA⟩
attribute [go_sem] aiJ aiK al4 al5
end Go.Proofs.YtmehamiifalmaaaGreatDoor
