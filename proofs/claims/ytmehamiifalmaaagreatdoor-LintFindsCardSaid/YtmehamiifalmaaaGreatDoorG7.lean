/- LintFinds: part 8 of its proof. -/
import Derived.Test.YtmehamiifalmaaaGreatDoorG6
set_option linter.all false
namespace Go.Proofs.YtmehamiifalmaaaGreatDoor
open Go Go.Ab Go.Proofs.Tryz
def Zj:gY prog 258=some [(0,68),(1,3)]:=af
def ass:dz prog 258=some [.vec .nil [],.i 0]:=af
def amH:jl prog 258=some [(0,1),(1,1)]:=af
def ajm(n k):=cX Zj 0 n k rfl CU
def ajn(n k):=cX Zj 1 n k rfl ez
def amI:=kR ass amH
def AU:fk prog 66=some 9:=af
def amJ:=nM AU
def ast:jS prog 9=some 16:=af
def aa7:dz prog 9=some [.str []]:=af
def Zk:jD prog 66 9 1 16:=⟨AU,ki,ast,⟨_,aa7,rfl⟩,aA⟩
attribute [go_sem] ajm ajn amI amJ
end Go.Proofs.YtmehamiifalmaaaGreatDoor
