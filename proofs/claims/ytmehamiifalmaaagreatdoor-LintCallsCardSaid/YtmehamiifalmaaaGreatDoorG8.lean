/- LintCalls: part 9 of its proof. -/
import Derived.Test.YtmehamiifalmaaaGreatDoorG4
import Derived.Test.YtmehamiifalmaaaGreatDoorProg
set_option linter.all false
namespace Go.Proofs.YtmehamiifalmaaaGreatDoor
open Go Go.Ab
def V(l:List Tok):List AV:=l.map mj
def CJ(l:List Tok):(V l).length=l.length:=by simp[V]
def awq(l)(x):V l++[mj x]=V (l++[x]):=by simp[V]
def wW:∀l:List Tok,AV.aq.go (V l)=true
 |[]=>rfl
 |x::l=>by show((mj x).aq&&AV.aq.go (V l))=true;rw[wW l];rfl
def nY(x:Except (Nat×Nat) (List Tok)):AV:=match x with
 | .error (e,a)=>.tup [.vec .nil [],.i e,.i a]
 | .ok l=>.tup [.vec .ro (V l),.i 0,.i 0]
def HS(x:Except (Nat×Nat) (List Tok)):(nY x).aq=true:=by
 unfold nY;split
 ·rfl
 ·rename_i l;have:=wW l;simp[AV.aq,AV.aq.go,this]
def JG:ck:=λf args H=>
 match args with
 |[.str l]=>if(f==110||f==100)=true then some (nY (lex l),H) else none
 |_=>none
end Go.Proofs.YtmehamiifalmaaaGreatDoor
