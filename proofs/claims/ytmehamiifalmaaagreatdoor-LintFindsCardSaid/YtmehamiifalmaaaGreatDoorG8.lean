/- LintFinds: part 9 of its proof. -/
import Derived.Test.YtmehamiifalmaaaGreatDoorG4
import Derived.Test.YtmehamiifalmaaaGreatDoorProg
set_option linter.all false
namespace Go.Proofs.YtmehamiifalmaaaGreatDoor
open Go Go.Ab
def V(l:List Tok):List AV:=l.map mP
def FM(l:List Tok):(V l).length=l.length:=by simp[V]
def axx(l)(x):V l++[mP x]=V (l++[x]):=by simp[V]
def zo:∀l:List Tok,AV.aq.go (V l)=true
 |[]=>rfl
 |x::l=>by show((mP x).aq&&AV.aq.go (V l))=true;rw[zo l];rfl
def nV(x:Except (Nat×Nat) (List Tok)):AV:=match x with
 | .error (e,a)=>.tup [.vec .nil [],.i e,.i a]
 | .ok l=>.tup [.vec .ro (V l),.i 0,.i 0]
def IL(x:Except (Nat×Nat) (List Tok)):(nV x).aq=true:=by
 unfold nV;split
 ·rfl
 ·rename_i l;have:=zo l;simp[AV.aq,AV.aq.go,this]
def Km:cu:=λf args H=>
 match args with
 |[.str l]=>if(f==110||f==100)=true then some (nV (lex l),H) else none
 |_=>none
end Go.Proofs.YtmehamiifalmaaaGreatDoor
