/- LintFinds: part 19 of its proof. -/
import Derived.Test.YtmehamiifalmaaaGreatDoorG17
set_option linter.all false
namespace Go.Proofs.YtmehamiifalmaaaGreatDoor
open Go Go.Ab Go.Proofs.Tryz
def Qm:gY prog 83=some [(0,23),(1,78),(15,28)]:=af
def ayt:dz prog 83=some [.val (.pointer none),.str [],.str [],.vec .nil [],.i 0,.i 0,.i 0,.str [],.i 0,.vec .nil [],.vec .nil [],.vec .nil [],.vec .nil [],.i 0,.i 0,.vec .nil []]:=af
def auP:jl prog 83=some [(0,1),(1,14),(15,1)]:=af
def apq(n k):=cX Qm 0 n k rfl abB
def apr(n k):=cX Qm 1 n k rfl ur
def aps(n k):=cX Qm 2 n k rfl abD
def auQ:=kR ayt auP
attribute [go_sem] apq apr aps auQ
end Go.Proofs.YtmehamiifalmaaaGreatDoor
