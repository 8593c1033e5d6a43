/- LintCalls: part 30 of its proof. -/
import Derived.Test.YtmehamiifalmaaaGreatDoorG27
set_option linter.all false
namespace Go.Proofs
open Go.Shelf
def Tryz.U1:Go.Shelf.Ren:=⟨λ|197=>171|260=>214|n=>n,λ|9=>9|21=>21|3=>3|4=>4|5=>5|105=>274|119=>321|0=>0|46=>147|139=>324|138=>323|n=>n,λ|3=>0|4=>1|n=>n⟩
def Tryz.ap7:Go.Proofs.Lays.n197 Tryz.prog Tryz.U1:={
 mixed:=af
 f197:=Tryz.func171.trans (Λ some rfl)
 f260:=Tryz.func214.trans (Λ some rfl)
 t0:=Tryz.underlying0
 a0:=Tryz.isAgg0
 z0:=Tryz.sizeOf0
 v0:=Tryz.zeroValue0
 t3:=Tryz.underlying3
 a3:=Tryz.isAgg3
 z3:=Tryz.sizeOf3
 v3:=Tryz.zeroValue3
 t4:=Tryz.underlying4
 a4:=Tryz.isAgg4
 z4:=Tryz.sizeOf4
 v4:=Tryz.zeroValue4
 t5:=Tryz.underlying5
 a5:=Tryz.isAgg5
 z5:=Tryz.sizeOf5
 v5:=Tryz.zeroValue5
 t9:=Tryz.underlying9
 a9:=Tryz.isAgg9
 z9:=Tryz.sizeOf9
 v9:=Tryz.zeroValue9
 t21:=Tryz.underlying21
 a21:=Tryz.isAgg21
 z21:=Tryz.sizeOf21
 v21:=Tryz.zeroValue21
 t46:=Tryz.underlying147
 a46:=Tryz.isAgg147
 z46:=Tryz.sizeOf147
 v46:=Tryz.zeroValue147
 t105:=Tryz.underlying274
 a105:=Tryz.isAgg274
 z105:=Tryz.sizeOf274
 v105:=Tryz.zeroValue274
 t119:=Tryz.underlying321
 a119:=Tryz.isAgg321
 z119:=Tryz.sizeOf321
 t138:=Tryz.underlying323
 a138:=Tryz.isAgg323
 z138:=Tryz.sizeOf323
 v138:=Tryz.zeroValue323
 t139:=Tryz.underlying324
 a139:=Tryz.isAgg324
 z139:=Tryz.sizeOf324
 v139:=Tryz.zeroValue324
 g3:=af
 g4:=by kernel_rfl}
end Go.Proofs
namespace Go.Proofs.YtmehamiifalmaaaGreatDoor.K
open Go Go.RowKit Go.Proofs Go.Proofs.Tryz
def g2:prog.globalNamed "unicode/utf8.first" =some 0:=af
def g3:prog.globalNamed "unicode/utf8.acceptRanges" =some 1:=af
def agl:Go.Ab.dN prog (Go.Ab.zT 171):=Go.Ab.afW (AK 171 _ func171 rfl rfl) g2 g3 (λs w a=>Any.utf8_DecodeRuneInString Tryz.ap7 s w a)
end Go.Proofs.YtmehamiifalmaaaGreatDoor.K
