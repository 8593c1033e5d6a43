/- LintCalls: part 28 of its proof. -/
import Derived.Test.YtmehamiifalmaaaGreatDoorG4
import Derived.Test.YtmehamiifalmaaaGreatDoorProg
import Derived.Shelf.Strings.Builder2
import Derived.Shelf.Strings.Search1
set_option linter.all false
namespace Go.Proofs.YtmehamiifalmaaaGreatDoor.K
open Go Go.RowKit Go.Proofs Go.Proofs.Tryz
def acO:∃j,prog.info? 329=some j/\j.size=2:=by have:(prog.info? 329).map (·.size)=some 2:=af;obtain⟨j,a,h⟩:=aDy.1 this;exact⟨j,a,h⟩
set_option maxHeartbeats 1000000 in
set_option maxRecDepth 100000 in
def ahq(b)(w:World)(h0:w.cell? ⟨b,0,none⟩=some (.pointer (some ⟨b,0,none⟩))):
  Calls prog 258 #[.pointer (some ⟨b,0,none⟩)] w λe w'=>e=.returned (.tuple #[])/\w'=w:=by
 obtain⟨j,hj,_⟩:=acO;go_enter func258,ntmps258;go_wp2;rw[Lib.run_neq_ptr_same w _ underlying326 hj];go_wp2;go_end0;exact⟨rfl,rfl⟩
set_option maxHeartbeats 1000000 in
set_option maxRecDepth 100000 in
def agi(b)(w:World)(h0:w.cell? ⟨b,0,none⟩=some (.pointer none))(Kk:w.shape? b=some (329,2))(ur:w.frozen? ⟨b,0,none⟩=false):
  Calls prog 258 #[.pointer (some ⟨b,0,none⟩)] w λe w'=>e=.returned (.tuple #[])/\w'=w.setCell ⟨b,0,none⟩ (.pointer (some ⟨b,0,none⟩)):=by
 obtain⟨j,hj,uh⟩:=acO;go_enter func258,ntmps258;go_wp2;rw[Lib.run_to_unsafe w ⟨b,0,none⟩ underlying326 underlying345 hj (by rw[uh];decide) Kk (Nat.zero_lt_succ 1)];simp[Result.andThen];rw[aFw];go_wp2;rw[run_callFunc_extern func268 rfl rfl rfl (e:=Extern.AbiNoEscape.same) rfl];rw[Lib.run_noEscape];simp[Result.andThen];rw[aFw];go_wp2;rw[Lib.run_from_unsafe w ⟨b,0,none⟩ underlying345 underlying326 hj Kk af];simp[Result.andThen];rw[aFw];go_wp2;go_end0;exact⟨rfl,rfl⟩
set_option maxHeartbeats 1000000 in
set_option maxRecDepth 100000 in
def afq(b g cap)(p)(cur:Array Value)(l:List UInt8)(w:World)(r_:w.heap[b]? =some (.cells #[p,.slice (some ⟨g,0,none⟩) l.length cap] 329 (0,0)))(hg:w.heap[g]? =some (.cells cur 5 (0,0)))(cF:cur.size=cap)(SM:l.length<=cap)(ky:cap<=maxLen)(h0:l≠[])
  (Jc:∀j x,l[j]? =some x->w.cell? ⟨g,j,none⟩=some (.int .u8 x.toNat)):
  Calls prog 239 #[.pointer (some ⟨b,0,none⟩)] w λe w'=>e=.returned (.string ⟨l.toArray⟩)/\w'=w.drew.freeze ⟨g,0,none⟩ l.length:=by
 have KP:l.length≠0:=by simpa using h0
 have c1:w.drew.cell? ⟨b,1,none⟩=some (.slice (some ⟨g,0,none⟩) l.length cap):=by have:w.drew.heap[b]? =some (.cells #[p,.slice (some ⟨g,0,none⟩) l.length cap] 329 (0,0)):=r_;rw[Lib.cell_of_heap this];rfl
 have hSD:(Builtin.unsafeSliceData_ #[327] 339 #[.slice (some ⟨g,0,none⟩) l.length cap]).run prog w.drew=.ok (.pointer (some ⟨g,0,none⟩)) w.drew:=
  Lib.run_unsafeSliceData_row _ _ _ _ _ _ aa
 have hUS:(Builtin.unsafeString_ #[339,3] 9 #[.pointer (some ⟨g,0,none⟩),.i l.length]).run prog w.drew=.ok (.string ⟨l.toArray⟩) (w.drew.freeze ⟨g,0,none⟩ l.length):=by refine Lib.run_unsafeString_row w.drew 339 3 9 5 underlying339 rfl g cur.size (by have Ga:w.drew.heap[g]? =some (.cells cur 5 (0,0)):=hg;simp[World.shape?,Ga]) l h0 aa (by unfold maxLen at ky;omega) ?_;intro j x hx;have:=Jc j x hx;rw[Go.Ab.Addr.ox];simpa using this
 go_enter func239,ntmps239;go_wp2;go_region;all_goals(go_wp2;go_ret;exact⟨rfl,rfl⟩)
set_option maxHeartbeats 1000000 in
set_option maxRecDepth 100000 in
def agj(b)(p)(w:World)(r_:w.heap[b]? =some (.cells #[p,.slice none 0 0] 329 (0,0))):
  Calls prog 239 #[.pointer (some ⟨b,0,none⟩)] w λe w'=>e=.returned (.string ⟨#[]⟩)/\w'=w.drew:=by
 have c1:w.drew.cell? ⟨b,1,none⟩=some (.slice none 0 0):=by have:w.drew.heap[b]? =some (.cells #[p,.slice none 0 0] 329 (0,0)):=r_;rw[Lib.cell_of_heap this];rfl
 have hSD:(Builtin.unsafeSliceData_ #[327] 339 #[.slice none 0 0]).run prog w.drew=.ok (.pointer none) w.drew:=rfl;have hUS:(Builtin.unsafeString_ #[339,3] 9 #[.pointer none,.i 0]).run prog w.drew=.ok (.string ⟨#[]⟩) w.drew:=Lib.run_unsafeString_none w.drew _ _ _ none;go_enter func239,ntmps239;go_wp2;go_region;all_goals(go_wp2;go_ret;exact⟨rfl,rfl⟩)
set_option maxHeartbeats 1000000 in
set_option maxRecDepth 100000 in
def agk(s:ByteArray)(c:Int)(w):Calls prog 257 #[.string s,.int .u8 c] w λe w'=>e=.returned (.i (Lib.indexByte s.data.toList c.toNat.toUInt8))/\w'=w:=by go_enter func257,ntmps257;go_wp2;rw[run_callFunc_extern func267 rfl rfl rfl (e:=Extern.BytealgIndexByte.indexByte) rfl,Lib.run_indexByteString];simp[Result.andThen];rw[aFw];go_wp2;go_ret;exact⟨rfl,rfl⟩
def AK(f)(fn:Func)(h:prog.funcs[f]? =some fn)(a:(fn.name== "runtime.NumGoroutine")=false)(b:fn.body.isNone=false):Go.Ab.kG prog f:=⟨fn,h,a,b⟩
def aky:Go.Ab.dN prog (Go.Ab.tQ 258 329):=Go.Ab.ah6 (AK 258 _ func258 rfl rfl) ahq agi
def ahr:Go.Ab.dN prog (Go.Ab.Ai 257):=Go.Ab.agQ (AK 257 _ func257 rfl rfl) agk
end Go.Proofs.YtmehamiifalmaaaGreatDoor.K
