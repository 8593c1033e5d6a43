/- LintCalls: part 1 of its proof. -/
import Derived.WalkKit
import Derived.Orders
import Derived.Below
import Derived.Lib.FieldsLaws
import Derived.Lib.DecodeN
import Derived.MapKept
import Derived.KernelRfl
set_option linter.all false
namespace Go
abbrev aD0:=@Bool.eq_iff_iff
abbrev aD1:=@List.find?_cons
abbrev aD2:=@Nat.le_of_not_lt
abbrev aD3:=@List.mem_of_find?_eq_some
abbrev aD4:=@List.eq_nil_of_length_eq_zero
abbrev aD5:=@List.length_singleton
abbrev aD6:=@Nat.add_comm
abbrev aD7:=@Bool.or_eq_true
abbrev aD8:=@List.cons_append
abbrev aD9:=@Nat.add_assoc
abbrev aDA:=@List.getElem?_cons_succ
abbrev aDB:=@List.getElem?_drop
abbrev aDC:=@List.getElem?_map
abbrev aDD:=@List.getElem?_of_mem
abbrev aDE:=@List.length_set
abbrev aDF:=@Nat.lt_irrefl
abbrev aDG:=@Bool.true_or
abbrev aDH:=@Go.IntWalk.i64_in
abbrev aDI:=@List.all_cons
abbrev aDJ:=@Nat.add_mul
abbrev aDK:=@Array.getElem?_eq_getElem
abbrev aDL:=@beq_eq_false_iff_ne
abbrev aDM:=@List.cons.inj
abbrev aDN:=@Array.getElem?_setIfInBounds_ne
abbrev aDO:=@List.map_congr_left
abbrev aDP:=@Option.some.inj
abbrev aDQ:=@Array.getElem?_append_left
abbrev aDR:=@Option.getD_some
abbrev aDS:=@Prod.mk.injEq
abbrev aDT:=@Nat.zero_le
abbrev aDU:=@List.mem_range
abbrev aDV:=@List.length_pos_iff
abbrev aDW:=@Array.all_eq_true_iff_forall_mem
abbrev aDX:=@not_false_eq_true
abbrev aDY:=@Option.ne_none_iff_exists'
abbrev aDZ:=@List.pairwise_cons
abbrev aDf:=@if_false
abbrev aDg:=@Option.isSome_some
abbrev aDh:=@Array.getElem?_toList
abbrev aDi:=@List.append_nil
abbrev aDj:=@Nat.le_trans
abbrev aDk:=@List.drop_of_length_le
abbrev aDl:=@List.nil_append
abbrev aDm:=@List.map_cons
abbrev aDn:=@List.all_eq_true
abbrev aDo:=@List.mem_append_left
abbrev aDp:=@if_true
abbrev aDq:=@List.getElem?_eq_none
abbrev aDr:=@Nat.mul_le_mul_right
abbrev aDs:=@decide_eq_true_eq
abbrev aDt:=@List.mem_map
abbrev aDu:=@List.getElem?_cons_zero
abbrev aDv:=@Array.length_toList
abbrev aDw:=@List.size_toArray
abbrev aDx:=@List.length_take
abbrev aDy:=@Option.map_eq_some_iff
abbrev aDz:=@Nat.zero_add
abbrev aE0:=@Array.mapM_eq_mapM_toList
abbrev aE1:=@Nat.add_one_sub_one
abbrev aE2:=@Go.run_firstCells_some
abbrev aE3:=@Int.toNat_of_nonneg
abbrev aE4:=@List.length_reverse
abbrev aE5:=@List.append_toArray
abbrev aE6:=@Bool.false_or
abbrev aE7:=@Array.ext'
abbrev aE8:=@Array.any_eq_true'
abbrev aE9:=@Go.grownCap_ge
abbrev aEA:=@Bool.not_eq_true'
abbrev aEB:=@true_and
abbrev aEC:=@List.pairwise_append
abbrev aED:=@List.pairwise_map
abbrev aEE:=@Go.size_zeroCells
abbrev aEF:=@List.eq_nil_iff_forall_not_mem
abbrev aEG:=@List.pairwise_singleton
abbrev aEH:=@Nat.le_max_right
abbrev aEI:=@List.filter_cons
abbrev aEJ:=@Array.getElem?_eq_none
abbrev aEK:=@Go.setRow_other
abbrev aEL:=@Option.map_some
abbrev aEM:=@Nat.le_max_left
abbrev aEN:=@List.nodup_cons
abbrev aEO:=@Array.getElem?_modify
abbrev aEP:=@List.dropWhile_suffix
abbrev aEQ:=@List.takeWhile_prefix
abbrev aER:=@List.perm_append_comm
abbrev aES:=@Array.size_append
abbrev aET:=@Array.getD_eq_getD_getElem?
abbrev aEU:=@List.take_zero
abbrev aEV:=@List.exists_cons_of_ne_nil
abbrev aEW:=@Array.replicate_succ
abbrev aEX:=@Array.replicate_zero
abbrev aEY:=@Go.mem_ready
abbrev aEZ:=@Nat.sub_self
abbrev aEa:=@Bool.and_self
abbrev aEb:=@List.take_succ_cons
abbrev aEc:=@List.drop_succ_cons
abbrev aEd:=@Go.MapKept.run_getObj_map
abbrev aEe:=@List.pairwise_iff_getElem
abbrev aEf:=@Array.mem_of_getElem?
abbrev aEg:=@List.mem_append_right
abbrev aEh:=@beq_iff_eq
abbrev aEi:=@Go.grownCap_le_maxLen
abbrev aEj:=@List.mem_of_mem_drop
abbrev aEk:=@List.drop_zero
abbrev aEl:=@Nat.lt_trichotomy
abbrev aEm:=@List.dropWhile_cons
abbrev aEn:=@List.takeWhile_cons
abbrev aEo:=@Nat.lt_or_ge
abbrev aEp:=@Nat.add_zero
abbrev aEq:=@List.all_nil
abbrev aEr:=@List.map_nil
abbrev aEs:=@List.take_of_length_le
abbrev aEt:=@List.isEmpty_nil
abbrev aEu:=@List.getElem?_toArray
abbrev aEv:=@Classical.choose_spec
abbrev aEw:=@List.map_append
abbrev aEx:=@UInt8.toNat_inj
abbrev aEy:=@Ne.symm
abbrev aEz:=@List.map_map
abbrev aFA:=@List.mem_filterMap
abbrev aFB:=@and_self
abbrev aFC:=@Nat.add_sub_cancel
abbrev aFD:=@Go.setRow_heap
abbrev aFE:=@Nat.one_mul
abbrev aFF:=@Int.toNat_natCast
abbrev aFG:=@UInt8.ofNat_toNat
abbrev aFH:=@Go.DataW.trod_string
abbrev aFI:=@of_decide_eq_true
abbrev aFJ:=@Array.mem_append
abbrev aFK:=@List.any_eq_true
abbrev aFL:=@List.nil_sublist
abbrev aFM:=@Prod.ext
abbrev aFN:=@beq_self_eq_true
abbrev aFO:=@Option.getD_none
abbrev aFa:=@Nat.add_sub_cancel_left
abbrev aFb:=@List.set_eq_take_append_cons_drop
abbrev aFc:=@Go.run_storeCells_at
abbrev aFd:=@Go.growslice_fits
abbrev aFe:=@Bool.or_true
abbrev aFf:=@List.getLast?_nil
abbrev aFg:=@List.nodup_append
abbrev aFh:=@List.push_toArray
abbrev aFi:=@List.head?_eq_getElem?
abbrev aFj:=@List.takeWhile_append_dropWhile
abbrev aFk:=@List.singleton_append
abbrev aFl:=@Bool.and_eq_false_iff
abbrev aFm:=@Bool.beq_eq_decide_eq
abbrev aFn:=@Array.toList_map
abbrev aFo:=@List.isEmpty_iff
abbrev aFp:=@List.take_length
abbrev aFq:=@List.mem_flatMap
abbrev aFr:=@Go.IntKind.wrap_u64
abbrev aFs:=@Go.wp_mono
abbrev aFt:=@List.mem_of_mem_take
abbrev aFu:=@Go.rounds_succ
abbrev aFv:=@Nat.mul_add
abbrev aFw:=@Go.Oper.upon_value
abbrev aFx:=@List.flatMap_append
abbrev aFy:=@Nat.mul_comm
abbrev aFz:=@Nat.pos_of_ne_zero
abbrev adv:=@List.append_assoc
abbrev ap1:=@List.flatMap_cons
abbrev ap2:=@Bool.and_eq_true
abbrev as1:=@List.mem_cons_self
abbrev atB:=@List.length_drop
abbrev atG:=@Go.Sem.run_pure
abbrev awF:=@Nat.le_succ
abbrev awU:=@Option.isNone_some
abbrev Α:=@Bool.not_false
abbrev Β:=@List.mem_of_getElem?
abbrev Γ:=@Go.Result.andThen_ok
abbrev Δ:=@Array.getElem?_eq_some_iff
abbrev Ε:=@Option.isSome_none
abbrev Ζ:=@Option.some.injEq
abbrev Η:=@List.mem_cons_of_mem
abbrev Θ:=@List.contains_iff_mem
abbrev Ι:=@List.length_cons
abbrev Κ:=@List.drop_eq_nil_iff
abbrev Λ:=@congrArg
abbrev Μ:=@List.mem_singleton
abbrev Ν:=@List.mem_cons
abbrev Ξ:=@List.getElem?_append_left
abbrev Ο:=@List.drop_eq_getElem_cons
abbrev Ρ:=@List.getElem?_append_right
abbrev Τ:=@Go.Sem.run_bind
abbrev Υ:=@List.getElem?_take_of_lt
abbrev Φ:=@List.getElem?_eq_getElem
abbrev Χ:=@List.length_nil
abbrev Ψ:=@List.length_eq_zero_iff
abbrev Ω:=@List.mem_append
abbrev κ:=@if_neg
abbrev μ:=@Nat.le_refl
abbrev ν:=@if_pos
abbrev ξ:=@decide_eq_false
abbrev ο:=@List.getElem?_eq_some_iff
abbrev π:=@decide_eq_true
abbrev τ:=@Bool.false_eq_true
abbrev υ:=@eq_true
abbrev φ:=@List.length_map
abbrev χ:=@List.length_append
abbrev ψ:=@Option.isNone_none
abbrev ω:=@Bool.not_true
end Go
namespace Go
def aa{p:Prop}(h:p:=by omega):p:=h
def af{p:Prop}(h:p:=by kernel_rfl):p:=h
def aA{p:Prop}(h:p:=by decide):p:=h
def ai{p:Prop}(h:p:=by simp):p:=h
def aX{p:Prop}(h:p:=by simp;omega):p:=h
def aK{p:Prop}(h:p:=by first|trivial|rfl):p:=h
def dP{p:Prop}(h:p:=by first|omega|(simp only;omega)):p:=h
abbrev Value.i(n:Int):Value:=.int .i64 n
end Go
namespace Go.Ab
open Go
inductive Own where
 |ro
 |nil
  |full
 |own (k:Nat)
 |cut (z:Bool) (k j s:Nat)
inductive AV where
 |rK
 |any
 |int (k:IntKind) (n:Int)
 |bool (b:Bool)
 |str (l:List UInt8)
 |agg (cs:List AV)
 |tup (cs:List AV)
 |vec (o:Own) (es:List AV)
 |ptr (id off:Nat)
 |rptr (cs:List AV)
 |fn (f:Fn) (first cap:List AV)
 |iface (t:TypeId) (v:AV)
 |val (v:Value)
  |sl (id s off len:Nat)
 |map (id:Nat)
 deriving Inhabited
def aY(p:Prop)(h:p:=by omega):p=True:=υ h
def dw(p:Prop)(h:¬p:=by omega):p=False:=eq_false h
def bJ(p:Prop)[Decidable p](h:p:=by omega):decide p=true:=π h
def bP(p:Prop)[Decidable p](h:¬p:=by omega):decide p=false:=ξ h
def SE(n:Int)(h: -9223372036854775808<=n/\n<=9223372036854775807:=by omega):IntKind.i64.wrap n=n:=aDH n h
def f_(n m:Int)(h:(-9223372036854775808<=n/\n<=9223372036854775807)/\n=m:=by omega):IntKind.i64.wrap n=m:=h.2▸SE n h.1
def xh{α:Sort _}{c:Prop}[Decidable c]{t e:α}(h:c:=by omega):ite c t e=t:=ν h
def bV{α:Sort _}{c:Prop}[Decidable c]{t e:α}(h:¬c:=by omega):ite c t e=e:=κ h
abbrev AV.i(n:Int):AV:=.int .i64 n
def AV.cells:AV->List AV
 | .agg cs=>cs
 |v=>[v]
def AV.width:AV->Option Nat
 | .rK=>none
 | .agg cs=>some cs.length
 | .tup _=>none
 | .val v=>if v.oneCell' then some 1 else none
 |_=>some 1
def AV.one:AV->Bool
 | .rK| .agg _| .tup _=>false
 | .val v=>v.oneCell'
 |_=>true
def Own.bare:Own->Own
 | .own _=>.ro
 | .cut _ _ _ _=>.ro
 | .full=>.ro
 |o=>o
def AV.bare:AV->AV
 | .vec o es=>.vec o.bare es
 |v=>v
def AV.erase:AV->AV
 | .agg cs=>.agg (cs.map AV.bare)
 | .tup cs=>.tup (cs.map λc=>match c with| .agg ds=>.agg (ds.map AV.bare)|c=>c.bare)
 |v=>v.bare
def iG:Value->AV
 | .int k n=>.int k n
 | .bool b=>.bool b
 | .string s=>.str s.data.toList
 | .slice none 0 0=>.vec .nil []
 |v=>.val v
def od:Value->AV
 | .agg cs=>.agg (cs.toList.map iG)
 |v=>iG v
inductive bH where
 |cells (te:Option TypeId) (cs:List AV)
  |bB (n:Nat) (et:TypeId)
  |mf (n:Nat) (et:TypeId)
  |row (n:Nat) (et:TypeId) (s:Nat) (cs:List AV)
  |map (es:List (AV×AV×Nat)) (clock:Nat)
abbrev bH.c(t:Option TypeId)(l:List AV):bH:=.cells t l
abbrev bH.k(t:TypeId)(l:List AV):bH:=.cells (some t) l
abbrev bH.z(l:List AV):bH:=.cells none l
structure ab where
 next:Nat
 jx:List (Nat×bH)
def cq:List (Nat×bH)->Nat->Option bH
 |[],_=>none
 |(k,x)::r,id=>if k=id then some x else cq r id
def aH:List (Nat×bH)->Nat->bH->List (Nat×bH)
 |[],_,_=>[]
 |(k,x)::r,id,y=>if k=id then(k,y)::r else(k,x)::aH r id y
def yD:List (Nat×bH)->Nat->List (Nat×bH)
 |[],_=>[]
 |(k,x)::r,id=>if k=id then yD r id else(k,x)::yD r id
def ab.del(H:ab)(id:Nat):ab:={H with jx:=yD H.jx id}
def ab.get(H:ab)(id:Nat):Option bH:=if id<H.next then cq H.jx id else none
def ab.set(H:ab)(id:Nat)(x:bH):ab:={H with jx:=aH H.jx id x}
def ab.push(H:ab)(x:bH):ab:={next:=H.next+1,jx:=(H.next,x)::H.jx}
def ab.empty:ab:={next:=0,jx:=[]}
def qZ:TypeDesc->Bool
 | .struct _=>true
 | .array .. =>true
 |_=>false
def bF(P:Program)(t:TypeId):Option Nat:=(P.info? t).map (·.size)
def jN(P:Program)(t:TypeId):Option Nat:=(P.info? t).map (·.bytes)
def cu(P:Program)(t:TypeId):Option Bool:=(P.underlying t).map qZ
def eW(P:Program)(t:TypeId):Option TypeId:=match P.underlying t with|some (.slice e)=>some e|_=>none
def yi(P:Program)(t:TypeId):Bool:=match P.underlying t with|some .string=>true|_=>false
def hC(P:Program)(t:TypeId):Option (List (Nat×TypeId)):=match P.underlying t with|some (.struct fs)=>some (fs.toList.map λf=>(f.offset,f.type))|_=>none
def jF(P:Program)(t:TypeId):Option (List (Nat×Nat)):=match P.underlying t with
 |some (.struct fs)=>fs.toList.mapM (λf=>(P.info? f.type).map λi=>(f.offset,i.size))
 |some (.array n el)=>(P.info? el).map λi=>(List.range n).map λj=>(j*i.size,i.size)
 |_=>none
def dq(P:Program)(t:TypeId):Option (List AV):=match P.info? t with|some i=>i.zero.map λv=>v.cells.toList.map iG|_=>none
def AM(P:Program)(t:TypeId):Option (TypeId×TypeId):=match P.underlying t with|some (.map k e)=>some (k,e)|_=>none
def zeroV(P:Program)(t:TypeId):Option AV:=match P.info? t with|some i=>i.zero.map od|_=>none
def acS(P:Program)(t:TypeId):Option (Nat×TypeId):=match P.underlying t with|some (.array n el)=>some (n,el)|_=>none
def Fu(P:Program)(t:TypeId):Option IntKind:=match P.underlying t with|some (.int k)=>some k|_=>none
def iM(P:Program)(t:TypeId)(cs:List AV)(off:Nat):Option AV:=
 match cu P t with
 |some true=>
  match bF P t with
  |some n=>if off+n<=cs.length then some (.agg ((cs.drop off).take n)) else none
  |none=>none
 |some false=>cs[off]?
 |none=>none
def q_(op:BinOp)(k:IntKind)(a b:Int):Option AV:=
 match op with
 | .add=>some (.int k (k.wrap (a+b)))
 | .sub=>some (.int k (k.wrap (a-b)))
 | .mul=>some (.int k (k.wrap (a*b)))
 | .quo=>if b=0 then none else some (.int k (k.wrap (a.tdiv b)))
 | .rem=>if b=0 then none else some (.int k (a.tmod b))
 | .eql=>some (.bool (a==b))
 | .neq=>some (.bool (a != b))
 | .lss=>some (.bool (decide (a<b)))
 | .leq=>some (.bool (decide (a<=b)))
 | .gtr=>some (.bool (decide (a>b)))
 | .geq=>some (.bool (decide (a≥b)))
 |_=>none
def jS(op:BinOp)(x y:List UInt8):Option AV:=
 match op with
 | .add=>if x.length+y.length<=9223372036854775807 then some (.str (x++y)) else none
 | .eql=>some (.bool (x==y))
 | .neq=>some (.bool (!(x==y)))
 | .lss=>some (.bool (Op.bytesLess x y))
 | .leq=>some (.bool (Op.bytesLess x y||x==y))
 | .gtr=>some (.bool (!(Op.bytesLess x y||x==y)))
 | .geq=>some (.bool (!Op.bytesLess x y))
 |_=>none
inductive EK where
 |int
 |bool
 |str
def CT(P:Program)(g:TypeId->Option (List EK)):Nat->List Field->Option (List EK)
 |_,[]=>some []
 |off,f::fs=>
  if f.name= "_" \/f.offset≠off then none else
  match g f.type with
  |some ks=>if bF P f.type=some ks.length/\ks.length≠0/\(cu P f.type=some true\/(cu P f.type=some false/\ks.length=1)) then
    match CT P g (off+ks.length) fs with
    |some r=>some (ks++r)
    |none=>none
   else none
  |none=>none
def sR(P:Program):Nat->TypeId->Option (List EK)
 |0,_=>none
 |d+1,t=>
  match P.underlying t with
  |some .bool=>some [.bool]
  |some (.int _)=>some [.int]
  |some .string=>some [.str]
  |some (.struct fs)=>if P.stoodInHeld t=true\/P.eqGuardType P.depth t=true then none else CT P (sR P d) 0 fs.toList
  |_=>none
def sw:EK->AV->AV->Option Bool
 | .int,.int k a,.int c b=>if k=c then some (a==b) else none
 | .bool,.bool a,.bool b=>some (a==b)
 | .str,.str a,.str b=>some (a==b)
 |_,_,_=>none
def lY:List EK->List AV->List AV->Option Bool
 |[],[],[]=>some true
 |k::ks,x::xs,y::a=>
  match sw k x y with
  |some b=>match lY ks xs a with
   |some r=>some (b&&r)
   |none=>none
  |none=>none
 |_,_,_=>none
def wH(op:BinOp)(r:Option Bool):Option AV:=
 match op with
 | .eql=>match r with|some b=>some (.bool b)|none=>none
 | .neq=>match r with|some b=>some (.bool (!b))|none=>none
 |_=>none
def qx(op:BinOp)(b:Bool):Option AV:=
 match op with
 | .eql=>some (.bool b)
 | .neq=>some (.bool (!b))
 |_=>none
def AN(P:Program)(t:TypeId):Bool:=match P.underlying t with|some (.pointer _)=>true|_=>false
def Il(P:Program)(t:TypeId):Bool:=match P.underlying t with|some (.interface _)=>true|_=>false
def abL(P:Program)(t:TypeId):Bool:=match P.underlying t with|some (.func _ _ _)=>true|_=>false
def xW(P:Program)(t:TypeId):Bool:=match P.underlying t with|some (.slice _)=>true|_=>false
def Im(op:BinOp)(k:IntKind)(a b:Int):Option AV:=
 if b<0 then none else
 match op with
 | .shl=>some (.int k (k.wrap (a*2^min b.toNat k.bits)))
 | .shr=>some (.int k (a.fdiv (2^min b.toNat k.bits)))
 |_=>none
def Fv:Value->Bool
 | .slice (some _) 0 _=>true
 |_=>false
def pN:BinOp->Bool
 | .shl=>true
 | .shr=>true
 |_=>false
def ew(P:Program)(op:BinOp)(t:TypeId)(x y:AV):Option AV:=
 match x,y with
 | .int k a,.int c b=>if pN op=true then Im op k a b else if k=c then q_ op k a b else none
 | .str a,.str b=>jS op a b
 | .bool a,.bool b=>if cu P t=some false then match sR P 4 t with|some [.bool]=>wH op (some (a==b))|_=>none else none
 | .agg xs,.agg d=>if cu P t=some true then match sR P 4 t with|some ks=>wH op (lY ks xs d)|none=>none else none
 | .ptr _ _,.val (.pointer none)=>if AN P t=true then qx op false else none
 | .rptr _,.val (.pointer none)=>if AN P t=true then qx op false else none
 | .val (.pointer none),.val (.pointer none)=>if AN P t=true then qx op true else none
 | .iface _ _,.val .nilIface=>if Il P t=true then qx op false else none
 | .fn _ _ _,.val .nilFunc=>if abL P t=true then qx op false else none
 | .sl _ _ _ _,.vec .nil []=>if xW P t=true then qx op false else none
 | .vec _ (_::_),.vec .nil []=>if xW P t=true then qx op false else none
 | .vec .nil [],.vec .nil []=>if xW P t=true then qx op true else none
 | .val v,.vec .nil []=>if Fv v=true/\xW P t=true then qx op false else none
 |_,_=>none
def xR:Operand->Bool
 | .const _=>true
 |_=>false
def Ep:AV->AV->Bool
 | .val .nilIface,.val .nilIface=>true
 |_,_=>false
def lN(P:Program)(op:BinOp)(t:TypeId)(c:Bool)(x y:AV):Option AV:=
 if Ep x y=true then(if c=true/\Il P t=true then qx op true else none) else ew P op t x y
def eD(cs:List AV)(off:Nat)(a:List AV):List AV:=cs.take off++a++cs.drop (off+a.length)
def aZ(a:Nat->Option (Nat×Nat)):List AV->List (Nat×AV)->Option (List AV)
 |cs,[]=>some cs
 |cs,(i,v)::rest=>
  match a i with
  |none=>none
  |some (off,n)=>if v.width=some n/\off+n<=cs.length then aZ a (eD cs off v.cells) rest else none
def j_(x:Option AV)(d y:Nat):Option Nat:=
 match x with
 |none=>some d
 |some (.int _ i)=>if 0<=i/\i<=(y:Int) then some i.toNat else none
 |some _=>none
def nN(n:Nat)(lo hi:Option AV):Option (Nat×Nat):=
 match j_ hi n n with
 |some h=>match j_ lo 0 h with
  |some l=>some (l,h)
  |none=>none
 |none=>none
def kH(P:Program)(H:ab)(t:TypeId):AV->Option AV
 | .rptr cs=>iM P t cs 0
 | .ptr id off=>match H.get id with|some (.cells _ cs)=>iM P t cs off|some (.row _ _ _ cs)=>iM P t cs off|_=>none
 |_=>none
def cr(P:Program)(s:TypeId)(f:Nat)(a:AV):Option AV:=
 match hC P s with
 |some fs=>match fs[f]? with
  |some (off,b)=>
   if bF P b=some 0\/bF P b=none then none else
   match a with
   | .ptr id o=>some (.ptr id (o+off))
   | .rptr cs=>if off<=cs.length then some (.rptr (cs.drop off)) else none
   |_=>none
  |none=>none
 |none=>none
def dC(P:Program)(t:TypeId):AV->AV->Option AV
 | .vec _ es,.int _ n=>
  if 0<=n then
   match es[n.toNat]? with
   |some e=>match eW P t with
    |some et=>if bF P et=e.width/\bF P et≠none then some (.rptr e.cells) else none
    |none=>none
   |none=>none
  else none
 | .sl id s off len,.int _ n=>
  if 0<=n/\n.toNat<len then
   match eW P t with
   |some et=>if bF P et=some s/\s≠0 then some (.ptr id ((off+n.toNat)*s)) else none
   |none=>none
  else none
 |_,_=>none
def Af(P:Program)(s:TypeId)(f:Nat):AV->Option AV
 | .agg cs=>match hC P s with
  |some fs=>match fs[f]? with
   |some (off,a)=>iM P a cs off
   |none=>none
  |none=>none
 |_=>none
def ni(P:Program)(t:TypeId):AV->AV->Option AV
 | .str l,.int _ n=>if yi P t=true/\0<=n then match l[n.toNat]? with|some b=>some (.int .u8 b.toNat)|none=>none else none
 | .agg cs,.int _ n=>match acS P t with
  |some (len,el)=>if 0<=n/\n<(len:Int)/\cu P el=some false/\bF P el=some 1 then cs[n.toNat]? else none
  |none=>none
 |_,_=>none
def xj:UnOp->AV->Option AV
 | .not,.bool b=>some (.bool (!b))
 | .neg,.int k n=>some (.int k (k.wrap (0-n)))
 |_,_=>none
def rB(P:Program)(a dst:TypeId):AV->Option AV
 | .int _ n=>if cu P a≠none then match Fu P dst with|some k=>some (.int k (k.wrap n))|none=>none else none
 |_=>none
def iz(i:Nat):AV->Option AV
 | .tup l=>l[i]?
 |_=>none
def sx(P:Program)(t:TypeId)(parts:List (Nat×AV)):Option AV:=
 match dq P t,jF P t with
 |some z,some fs=>match aZ (fs[·]?) z parts with|some cs=>some (.agg cs)|none=>none
 |_,_=>none
def ow(P:Program)(t:TypeId)(es:List AV):Bool:=
 match eW P t with
 |some et=>match bF P et with
  |some s=>es.head?.all λe=>e.width==some s
  |none=>false
 |none=>false
def o6(o:Own)(hi:Option AV)(s a:Nat):Own:=
 match hi with
 |some _=>.ro
 |none=>match o with
  | .nil=>.full
  | .full=>.full
  | .own k=>.cut true k a s
  | .cut z k j b=>if b=s then .cut z k (j+a) s else .ro
  | .ro=>.ro
def strOf(P:Program)(t:TypeId):Nat:=match eW P t with
 |some et=>match bF P et with|some s=>s|none=>0
 |none=>0
def jT(P:Program)(t:TypeId)(lo hi:Option AV):AV->Option AV
 | .str l=>if yi P t=true then match nN l.length lo hi with|some (a,b)=>some (.str ((l.take b).drop a))|none=>none else none
 | .vec o es=>if ow P t es=true then match nN es.length lo hi with|some (a,b)=>some (.vec (o6 o hi (strOf P t) a) ((es.take b).drop a))|none=>none else none
 | .sl id s off len=>
  match eW P t with
  |some et=>
   if bF P et=some s then
    match nN len lo hi with
    |some (a,b)=>if a=0 then some (.sl id s off b) else if a<b then some (.sl id s (off+a) (b-a)) else some (.vec .ro [])
    |none=>none
   else none
  |none=>none
 |_=>none
def BJ:AV->Option AV
 | .ptr id o=>some (.ptr id o)
 | .rptr cs=>some (.rptr cs)
 | .fn (.func f) first cap=>some (.fn (.func f) first cap)
 |_=>none
def gD(P:Program)(dV:Array TypeId):List AV->Option AV
 |[.str l]=>match dV[0]? with|some t=>if yi P t=true then some (.int .i64 l.length) else none|none=>none
 |[.vec _ es]=>match dV[0]? with|some t=>if eW P t≠none then some (.int .i64 es.length) else none|none=>none
 |[.sl _ _ _ n]=>match dV[0]? with|some t=>if eW P t≠none then some (.int .i64 n) else none|none=>none
 |[.val v]=>match dV[0]? with|some t=>if Fv v=true/\eW P t≠none then some (.int .i64 0) else none|none=>none
 |_=>none
def CU:List AV->Option AV
 |[.int k a,.int _ b]=>some (.int k (if b>a then b else a))
 |_=>none
def CC(a b:AV):AV->Option AV
 | .bool v=>some (if v then a else b)
 |_=>none
def sA:AV->AV->Option Bool
 | .int k a,.int c b=>if k=c then some (a==b) else none
 | .str a,.str b=>some (a==b)
 | .agg [.str a,.int k x],.agg [.str b,.int c y]=>if k=c then some (a==b&&x==y) else none
 |_,_=>none
def mL(k:AV):List (AV×AV×Nat)->Nat->Option (Option (Nat×AV))
 |[],_=>some none
 |(k',v,_)::es,i=>match sA k k' with
  |some true=>some (some (i,v))
  |some false=>mL k es (i+1)
  |none=>none
def abM:List AV->Bool
 | .str _::_=>false
 |_=>true
def OX(P:Program)(a:TypeId)(fs:Array Field)(q:IntKind):Bool:=
 cu P a==some true&&(match sR P 4 a with|some [.str,.int]=>true|_=>false)&&
 match fs.toList with
 |[f,g]=>decide (f.name≠ "_")&&decide (g.name≠ "_")&&decide (f.offset=0)&&decide (g.offset=1)&&(match P.underlying f.type with|some .string=>true|_=>false)&&(match P.underlying g.type with|some (.int b)=>decide (b=q)|_=>false)
 |_=>false
def yj(P:Program)(a:TypeId)(k:AV):Bool:=
 match P.underlying a with
 |some (.int q)=>match k with| .int b _=>decide (b=q)|_=>false
 |some .string=>match k with| .str _=>true|_=>false
 |some (.array n el)=>match k with
  | .agg cs=>n==cs.length&&(match P.underlying el with|some (.int _)=>true|_=>false)&&bF P el==some 1&&abM cs
  |_=>false
 |some (.struct fs)=>match k with| .agg [.str _,.int q _]=>OX P a fs q|_=>false
 |_=>false
def wo(P:Program)(H:ab)(t:TypeId)(m k:AV)(ok:Bool):Option AV:=
 match m with
 | .map id=>match H.get id with
  |some (.map es _)=>match AM P t with
   |some (a,et)=>if yj P a k=true then
     match mL k es 0 with
     |some (some (_,v))=>some (if ok then .tup [v,.bool true] else v)
     |some none=>match zeroV P et with|some z=>some (if ok then .tup [z,.bool false] else z)|none=>none
     |none=>none
    else none
   |none=>none
  |_=>none
 |_=>none
def lF(P:Program)(o:Op)(ρ:Operand->AV)(H:ab):Option AV:=
 match o with
 | .move x=>some (ρ x)
 | .assign x=>some (ρ x)
 | .pick c a b=>CC (ρ a) (ρ b) (ρ c)
 | .load t a=>kH P H t (ρ a)
 | .fieldAddr s x f=>cr P s f (ρ x)
 | .indexAddr t x i=>dC P t (ρ x) (ρ i)
 | .index t x i=>ni P t (ρ x) (ρ i)
 | .binOp op t x y _=>lN P op t (xR x||xR y) (ρ x) (ρ y)
 | .unOp op _ x=>xj op (ρ x)
 | .convert src dst x=>rB P src dst (ρ x)
 | .extract x i=>iz i (ρ x)
 | .build t parts=>sx P t (parts.toList.map λp=>(p.1,ρ p.2))
 | .slice t x lo hi mx=>match mx with|none=>jT P t (lo.map ρ) (hi.map ρ) (ρ x)|some _=>none
 | .field t x f=>Af P t f (ρ x)
 | .lookup t m k ok=>wo P H t (ρ m) (ρ k) ok
 | .makeFunc f first cap=>some (.fn f (first.toList.map ρ) (cap.toList.map ρ))
 | .nilCheck x=>BJ (ρ x)
 | .call c=>
  match c.callee with
  | .builtin .len=>gD P c.argTypes (c.args.toList.map ρ)
  | .builtin .max=>CU (c.args.toList.map ρ)
  |_=>none
 |_=>none
end Go.Ab
namespace Go.Ab
open Go Go.RowKit
structure St where
 cells:Nat->Nat->Option Value
 loc:Nat->Option Nat
 own:Nat->Nat->Option (Nat×Nat)
structure St.le(σ aR:St):Prop where
 cells:∀b o v,σ.cells b o=some v->aR.cells b o=some v
 loc:∀i b,σ.loc i=some b->aR.loc i=some b
 own:∀k n x,σ.own k n=some x->aR.own k n=some x
def St.le_refl(σ:St):σ.le σ:=⟨λ_ _ _ h=>h,λ_ _ h=>h,λ_ _ _ h=>h⟩
def St.le_trans{a b c:St}(h:a.le b)(k:b.le c):a.le c:=
 ⟨λx y v e=>k.cells x y v (h.cells x y v e),λi x e=>k.loc i x (h.loc i x e),λi n x e=>k.own i n x (h.own i n x e)⟩
def nV(σ:St)(o:Own)(a:Option Addr)(n cap:Nat):Prop:=
 match o with
 | .ro=>True
 | .nil=>a=none/\n=0/\cap=0
 | .full=>cap=n
 | .own k=>∃b,σ.own k n=some (b,cap)/\a=some ⟨b,0,none⟩
 | .cut z k j s=>∃b β,σ.own k (j+n)=some (b,j+cap)/\(z=true/\β=0\/z=false/\σ.loc k=some β)/\(cap≠0->a=some ⟨b,β+j*s,none⟩)
mutual
def ah(σ:St):AV->Value->Prop
 | .rK,_=>True
 | .any,u=>u.oneCell'=true
 | .int k n,u=>u=.int k n
 | .bool b,u=>u=.bool b
 | .str l,u=>u=.string ⟨l.toArray⟩
 | .agg cs,u=>∃us:List Value,u=.agg us.toArray/\aw σ cs us
 | .tup cs,u=>∃us:List Value,u=.tuple us.toArray/\aw σ cs us
 | .vec o es,u=>∃a cap,u=.slice a es.length cap/\es.length<=cap/\nV σ o a es.length cap/\(es=[]\/∃b off s,a=some ⟨b,off,none⟩/\bM σ b s off es)
 | .ptr id off,u=>∃b,σ.loc id=some b/\u=.pointer (some ⟨b,off,none⟩)
 | .rptr cs,u=>∃b off,u=.pointer (some ⟨b,off,none⟩)/\eV σ b off cs
 | .fn f first cap,u=>∃us vs:List Value,u=.func f us.toArray vs.toArray/\aw σ first us/\aw σ cap vs
 | .iface t v,u=>∃x,u=.iface t x/\ah σ v x
 | .val v,u=>u=v
 | .sl id s off len,u=>∃b cap,σ.loc id=some b/\σ.own id 0=some (b,cap)/\u=.slice (some ⟨b,off*s,none⟩) len (cap-off)/\off+len<=cap
 | .map id,u=>∃b,σ.loc id=some b/\u=.map (some b)
def aw(σ:St):List AV->List Value->Prop
 |[],us=>us=[]
 |c::cs,us=>∃u dW,us=u::dW/\ah σ c u/\aw σ cs dW
def eV(σ:St)(b:Nat):Nat->List AV->Prop
 |_,[]=>True
 |off,c::cs=>(∃u,σ.cells b off=some u/\ah σ c u)/\eV σ b (off+1) cs
def bM(σ:St)(b s:Nat):Nat->List AV->Prop
 |_,[]=>True
 |off,e::es=>(∃u,ah σ e u/\u.cells.size=s/\∀j v,u.cells[j]? =some v->σ.cells b (off+j)=some v)/\bM σ b s (off+s) es
end
def nV.mono{σ aR:St}(h:σ.le aR){o:Own}{a:Option Addr}{n cap:Nat}(k:nV σ o a n cap):nV aR o a n cap:=by
 cases o with
 |ro=>trivial
 |nil=>exact k
 |full=>exact k
 |own d=>obtain⟨b,e,c⟩:=k;exact⟨b,h.own _ _ _ e,c⟩
 |cut z d j s=>obtain⟨b,β,e,f,c⟩:=k;exact⟨b,β,h.own _ _ _ e,f.imp_right λq=>⟨q.1,h.loc _ _ q.2⟩,c⟩
mutual
def ah.mono{σ aR:St}(h:σ.le aR):∀(a:AV) (u:Value),ah σ a u->ah aR a u
 | .rK,_,_=>by simp[ah]
 | .any,_,k=>by simpa[ah] using k
 | .int _ _,_,k=>by simpa[ah] using k
 | .bool _,_,k=>by simpa[ah] using k
 | .str _,_,k=>by simpa[ah] using k
 | .agg cs,_,k=>by simp[ah] at k⊢;obtain⟨us,e,r⟩:=k;exact⟨us,e,aw.mono h cs us r⟩
 | .tup cs,_,k=>by simp[ah] at k⊢;obtain⟨us,e,r⟩:=k;exact⟨us,e,aw.mono h cs us r⟩
 | .vec o es,_,k=>by simp only[ah] at k⊢;obtain⟨a,cap,e,hl,ho,r⟩:=k;refine⟨a,cap,e,hl,ho.mono h,r.imp id ?_⟩;rintro⟨b,off,s,ea,r⟩;exact⟨b,off,s,ea,bM.mono h b s off es r⟩
 | .ptr _ _,_,k=>by simp[ah] at k⊢;obtain⟨b,e,ha⟩:=k;exact⟨b,h.loc _ _ e,ha⟩
 | .rptr cs,_,k=>by simp[ah] at k⊢;obtain⟨b,off,e,r⟩:=k;exact⟨b,off,e,eV.mono h b off cs r⟩
 | .fn _ first cap,_,k=>by
  simp[ah] at k⊢;obtain⟨us,vs,e,r,q⟩:=k;exact⟨us,vs,e,aw.mono h first us r,aw.mono h cap vs q⟩
 | .iface _ v,_,k=>by simp[ah] at k⊢;obtain⟨x,e,r⟩:=k;exact⟨x,e,ah.mono h v x r⟩
 | .val _,_,k=>by simpa[ah] using k
 | .sl _ _ _ _,_,k=>by simp only[ah] at k⊢;obtain⟨b,cap,e1,e2,e3,e4⟩:=k;exact⟨b,cap,h.loc _ _ e1,h.own _ _ _ e2,e3,e4⟩
 | .map _,_,k=>by simp[ah] at k⊢;obtain⟨b,e1,e2⟩:=k;exact⟨b,h.loc _ _ e1,e2⟩
def aw.mono{σ aR:St}(h:σ.le aR):∀(cs:List AV) (us:List Value),aw σ cs us->aw aR cs us
 |[],_,k=>by simpa[aw] using k
 |c::cs,_,k=>by simp[aw] at k⊢;obtain⟨u,dW,e,r,q⟩:=k;exact⟨u,dW,e,ah.mono h c u r,aw.mono h cs dW q⟩
def eV.mono{σ aR:St}(h:σ.le aR)(b):∀(off:Nat) (cs:List AV),eV σ b off cs->eV aR b off cs
 |_,[],_=>by simp[eV]
 |off,c::cs,k=>by simp[eV] at k⊢;obtain⟨⟨u,e,r⟩,q⟩:=k;exact⟨⟨u,h.cells _ _ _ e,ah.mono h c u r⟩,eV.mono h b (off+1) cs q⟩
def bM.mono{σ aR:St}(h:σ.le aR)(b s):∀(off:Nat) (es:List AV),bM σ b s off es->bM aR b s off es
 |_,[],_=>by simp[bM]
 |off,e::es,k=>by simp[bM] at k⊢;obtain⟨⟨u,r,hs,hc⟩,q⟩:=k;exact⟨⟨u,ah.mono h e u r,hs,λj v hj=>h.cells _ _ _ (hc j v hj)⟩,bM.mono h b s (off+s) es q⟩
end
def aw.pO{σ}{us}:aw σ [] us↔us=[]:=by simp[aw]
def aw.eC{σ}{c}{cs}{us}:aw σ (c::cs) us↔∃u a,us=u::a/\ah σ c u/\aw σ cs a:=by simp[aw]
def aw.length{σ}:∀{cs:List AV} {us:List Value},aw σ cs us->us.length=cs.length
 |[],_,h=>by rw[aw.pO] at h;subst h;rfl
 |c::cs,_,h=>by rw[aw.eC] at h;obtain⟨u,dW,rfl,_,q⟩:=h;simp[aw.length q]
def aw.get{σ}:∀{cs:List AV} {us:List Value} {i:Nat} {c:AV},aw σ cs us->cs[i]? =some c->∃u,us[i]? =some u/\ah σ c u
 |[],_,_,_,_,e=>by simp at e
 |c::cs,us,i,d,h,e=>by
  rw[aw.eC] at h;obtain⟨u,dW,rfl,r,q⟩:=h
  cases i with
  |zero=>simp at e;subst e;exact⟨u,ai,r⟩
  |succ i=>simp at e⊢;exact aw.get q e
def aw.drop{σ}:∀{cs:List AV} {us:List Value} (n:Nat),aw σ cs us->aw σ (cs.drop n) (us.drop n)
 |[],us,n,h=>by rw[aw.pO] at h;subst h;simp[aw]
 |c::cs,us,n,h=>by
  cases n with
  |zero=>simpa using h
  |succ n=>rw[aw.eC] at h;obtain⟨u,dW,rfl,_,q⟩:=h;simpa using aw.drop n q
def aw.take{σ}:∀{cs:List AV} {us:List Value} (n:Nat),aw σ cs us->aw σ (cs.take n) (us.take n)
 |[],us,n,h=>by rw[aw.pO] at h;subst h;simp[aw]
 |c::cs,us,n,h=>by
  cases n with
  |zero=>simp[aw]
  |succ n=>rw[aw.eC] at h;obtain⟨u,dW,rfl,r,q⟩:=h;simp;exact aw.eC.2 ⟨u,_,rfl,r,aw.take n q⟩
def aw.append{σ}:∀{cs ds:List AV} {us a:List Value},aw σ cs us->aw σ ds a->aw σ (cs++ds) (us++a)
 |[],_,_,_,h,k=>by rw[aw.pO] at h;subst h;simpa using k
 |c::cs,_,_,_,h,k=>by rw[aw.eC] at h;obtain⟨u,dW,rfl,r,q⟩:=h;simp;exact aw.eC.2 ⟨u,_,rfl,r,aw.append q k⟩
def aw.map{σ}{α:Type}(f:α->AV)(g:α->Value):∀(l:List α),(∀x∈l,ah σ (f x) (g x))->aw σ (l.map f) (l.map g)
 |[],_=>by simp[aw]
 |x::l,h=>by simp;exact aw.eC.2 ⟨_,_,rfl,h x ai,aw.map f g l λy a=>h y (by simp[a])⟩
def ah.cells{σ}:∀{a:AV} {u:Value},ah σ a u->a.width≠none->aw σ a.cells u.cells.toList
 | .rK,_,_,e=>absurd rfl e
 | .agg cs,u,h,_=>by simp[ah] at h;obtain⟨us,rfl,r⟩:=h;simpa[AV.cells,Value.cells] using r
 | .any,u,h,_=>by
  have d:u.oneCell'=true:=by simpa[ah] using h
  have:u.cells=#[u]:=by cases u<;>simp[Value.oneCell'] at d<;>rfl
  rw[this];exact aw.eC.2 ⟨u,[],rfl,h,by simp[aw]⟩
 | .int _ _,u,h,_=>by simp[ah] at h;subst h;simp[AV.cells,Value.cells,aw,ah]
 | .bool _,u,h,_=>by simp[ah] at h;subst h;simp[AV.cells,Value.cells,aw,ah]
 | .str _,u,h,_=>by simp[ah] at h;subst h;simp[AV.cells,Value.cells,aw,ah]
 | .tup _,_,_,e=>absurd rfl e
 | .vec o es,u,h,_=>by have c:=h;simp[ah] at c;obtain⟨a,cap,rfl,_⟩:=c;exact aw.eC.2 ⟨_,[],rfl,h,by simp[aw]⟩
 | .ptr _ _,u,h,_=>by have c:=h;simp[ah] at c;obtain⟨b,_,rfl⟩:=c;exact aw.eC.2 ⟨_,[],rfl,h,by simp[aw]⟩
 | .rptr cs,u,h,_=>by have c:=h;simp[ah] at c;obtain⟨b,off,rfl,_⟩:=c;exact aw.eC.2 ⟨_,[],rfl,h,by simp[aw]⟩
 | .fn _ _ _,u,h,_=>by have c:=h;simp[ah] at c;obtain⟨us,vs,rfl,_⟩:=c;exact aw.eC.2 ⟨_,[],rfl,h,by simp[aw]⟩
 | .iface _ _,u,h,_=>by have c:=h;simp[ah] at c;obtain⟨x,rfl,_⟩:=c;exact aw.eC.2 ⟨_,[],rfl,h,by simp[aw]⟩
 | .sl _ _ _ _,u,h,_=>by have c:=h;simp[ah] at c;obtain⟨b,cap,_,_,rfl,_⟩:=c;exact aw.eC.2 ⟨_,[],rfl,h,by simp[aw]⟩
 | .map _,u,h,_=>by have c:=h;simp[ah] at c;obtain⟨b,_,rfl⟩:=c;exact aw.eC.2 ⟨_,[],rfl,h,by simp[aw]⟩
 | .val v,u,h,e=>by
  simp[ah] at h;subst h
  have d:u.oneCell'=true:=by
   by_cases d:u.oneCell'=true
   ·exact d
   ·simp[AV.width,d] at e
  have:u.cells=#[u]:=by cases u<;>simp[Value.oneCell'] at d<;>rfl
  rw[this];exact aw.eC.2 ⟨u,[],rfl,by simp[ah],by simp[aw]⟩
def aS(σ:St)(id:Nat):bH->Option Nat
 | .cells _ _=>σ.loc id
 | .bB n _=>(σ.own id n).map (·.1)
 | .mf n _=>(σ.own id n).map (·.1)
 | .row _ _ _ _=>σ.loc id
 | .map _ _=>σ.loc id
def gv(σ:St):List (AV×AV×Nat)->List MapEntry->Prop
 |[],ms=>ms=[]
 |(k,v,b)::es,ms=>∃m a,ms=m::a/\ah σ k m.key/\ah σ v m.val/\m.born=b/\gv σ es a
def gv.mono{σ aR:St}(h:σ.le aR):∀{es:List (AV×AV×Nat)} {ms:List MapEntry},gv σ es ms->gv aR es ms
 |[],_,k=>by simpa[gv] using k
 |(k,v,b)::es,ms,q=>by simp[gv] at q⊢;obtain⟨m,g,e,f,a,d,c⟩:=q;exact⟨m,g,e,f.mono h,a.mono h,d,c.mono h⟩
structure gL(B:Nat->Prop)(w w':World):Prop where
 os:w'.os=w.os
 tape:w'.tape=w.tape
 output:w'.output=w.output
 size:w.heap.size<=w'.heap.size
 block:∀k,B k->w'.heap[k]? =w.heap[k]?
def gL.refl(B)(w:World):gL B w w:=⟨rfl,rfl,rfl,μ _,λ_ _=>rfl⟩
def gL.trans{B}{a b c:World}(h:gL B a b)(k:gL B b c):gL B a c:=
 ⟨k.os.trans h.os,k.tape.trans h.tape,k.output.trans h.output,aDj h.size k.size,λi hi=>(k.block i hi).trans (h.block i hi)⟩
def gL.mono{A B}{w w':World}(h:gL B w w')(k:∀i,A i->B i):gL A w w':=⟨h.os,h.tape,h.output,h.size,λi hi=>h.block i (k i hi)⟩
def gL.of{B}{n}{w w':World}(h:Below n w w')(k:∀i,B i->i<n):gL B w w':=⟨h.os,h.tape,h.output,h.size,λi hi=>h.block i (k i hi)⟩
def gL.alloc{B}{a w:World}(h:gL B a w)(k:∀i,B i->i<w.heap.size)(o):gL B a (w.alloc o):=
 h.trans ⟨rfl,rfl,rfl,by show w.heap.size<=(w.heap.push o).size;simp,λi hi=>Below.heap_alloc w o i (k i hi)⟩
def gL.drew{B}{a w:World}(h:gL B a w):gL B a w.drew:=h.trans ⟨rfl,rfl,rfl,μ _,λ_ _=>rfl⟩
def tN(P:Program)(B:Nat->Prop)(σ:St)(w:World)(id:Nat):bH->Prop
 | .cells te cs=>∃b c e,σ.loc id=some b/\¬B b/\w.heap[b]? =some (.cells c e (0,0))/\aw σ cs c.toList/\(∀o,σ.cells b o=none)/\∀t,te=some t->e=t
 | .bB n et=>∃b cap c s,σ.own id n=some (b,cap)/\¬B b/\w.heap[b]? =some (.cells c et (0,0))/\bF P et=some s/\c.size=cap*s/\n<=cap/\cap<=maxLen/\(∀o,n*s<=o->σ.cells b o=none)/\
   ∀m,n<m->σ.own id m=none
 | .mf n et=>∃b cap c s β,σ.own id n=some (b,cap)/\σ.loc id=some β/\¬B b/\w.heap[b]? =some (.cells c et (0,0))/\bF P et=some s/\c.size=β+cap*s/\n<=cap/\cap<=maxLen/\∀o,β+n*s<=o->σ.cells b o=none
 | .row n et s cs=>∃b cap c,σ.loc id=some b/\σ.own id 0=some (b,cap)/\¬B b/\w.heap[b]? =some (.cells c et (0,0))/\bF P et=some s/\s≠0/\c.size=cap*s/\n<=cap/\cap<=maxLen/\
   cs.length=n*s/\aw σ cs (c.toList.take (n*s))/\(∀v∈c.toList.take (n*s),v.oneCell'=true)/\∀o,σ.cells b o=none
 | .map es clock=>∃b ms,σ.loc id=some b/\¬B b/\w.heap[b]? =some (.map ms clock)/\gv σ es ms.toList/\∀o,σ.cells b o=none
inductive CD (P:Program):Nat->Nat->(Value->Prop)->Prop where
 |first (g c:Nat):P.globalNamed "unicode/utf8.first" =some g->c<256->CD P g c (λv=>v=.int .u8 (Lib.firstT c))
 |lo (g i:Nat):P.globalNamed "unicode/utf8.acceptRanges" =some g->i<16->CD P g (2*i) (λv=>v=.int .u8 (Lib.accLo i))
 |hi (g i:Nat):P.globalNamed "unicode/utf8.acceptRanges" =some g->i<16->CD P g (2*i+1) (λv=>v=.int .u8 (Lib.accHi i))
 |syn (g:Nat):P.globalNamed "strconv.ErrSyntax" =some g->CD P g 0 (λv=>v=.nilIface\/∃t p,v=.iface t p)
 |ran (g:Nat):P.globalNamed "strconv.ErrRange" =some g->CD P g 0 (λv=>v=.nilIface\/∃t p,v=.iface t p)
structure wQ(P:Program)(B:Nat->Prop)(W0:World):Prop where
 lt:∀k,B k->k<W0.heap.size
 vC:∀b o p,CD P b o p->B b/\∃v,W0.cell? ⟨b,o,none⟩=some v/\p v
structure aW(P:Program)(B:Nat->Prop)(W0:World)(H:ab)(σ:St)(w:World):Prop where
 below:gL B W0 w
 base:wQ P B W0
 cells:∀b o v,σ.cells b o=some v->w.cell? ⟨b,o,none⟩=some v
 one:∀b o v,σ.cells b o=some v->v.oneCell'=true
 fresh:∀id,H.next<=id->σ.loc id=none/\∀n,σ.own id n=none
 keys:∀id x,H.get id=some x->id<H.next
 obj:∀id x,H.get id=some x->tN P B σ w id x
 inj:∀id gg x x',H.get id=some x->H.get gg=some x'->aS σ id x=aS σ gg x'->id=gg
structure Ext(B:Nat->Prop)(σ aR:St):Prop where
 le:σ.le aR
 old:∀b o,B b->aR.cells b o=σ.cells b o
def Ext.refl(B)(σ:St):Ext B σ σ:=⟨σ.le_refl,λ_ _ _=>rfl⟩
def Ext.trans{B}{a b c:St}(h:Ext B a b)(k:Ext B b c):Ext B a c:=⟨St.le_trans h.le k.le,λx o d=>(k.old x o d).trans (h.old x o d)⟩
def eV.get{σ:St}{b}:∀{off:Nat} {cs:List AV},eV σ b off cs->∀j c,cs[j]? =some c->∃u,σ.cells b (off+j)=some u/\ah σ c u
 |_,[],_,j,c,e=>by simp at e
 |off,d::ds,h,j,c,e=>by
  simp[eV] at h
  cases j with
  |zero=>simp at e;subst e;simpa using h.1
  |succ j=>simp at e;have:=eV.get h.2 j c e;simpa[aD9,aD6 1 j] using this
def eV.list{σ:St}{b}:∀{off:Nat} {cs:List AV},eV σ b off cs->∃us:List Value,aw σ cs us/\∀j v,us[j]? =some v->σ.cells b (off+j)=some v
 |_,[],_=>⟨[],by simp[aw],ai⟩
 |off,d::ds,h=>by
  simp[eV] at h;obtain⟨⟨u,e,r⟩,q⟩:=h;obtain⟨us,f,c⟩:=eV.list q;refine⟨u::us,aw.eC.2 ⟨u,us,rfl,r,f⟩,?_⟩;intro j v a
  cases j with
  |zero=>simp at a;subst a;simpa using e
  |succ j=>simp at a;have:=c j v a;simpa[aD9,aD6 1 j] using this
def eV.HI{σ:St}{b}:∀{off:Nat} {cs:List AV} {us:List Value},aw σ cs us->(∀j v,us[j]? =some v->σ.cells b (off+j)=some v)->eV σ b off cs
 |_,[],_,_,_=>by simp[eV]
 |off,d::ds,us,h,a=>by rw[aw.eC] at h;obtain⟨u,dW,rfl,r,q⟩:=h;simp[eV];refine⟨⟨u,by simpa using a 0 u ai,r⟩,eV.HI q ?_⟩;intro j v c;have:=a (j+1) v (by simpa using c);simpa[aD9,aD6 1 j] using this
def eV.drop{σ:St}{b}:∀{off:Nat} {cs:List AV} (n:Nat),eV σ b off cs->eV σ b (off+n) (cs.drop n)
 |_,[],n,_=>by simp[eV]
 |off,d::ds,n,h=>by
  cases n with
  |zero=>simpa using h
  |succ n=>simp[eV] at h;have:=eV.drop n h.2;simpa[aD9,aD6 1 n] using this
def bM.get{σ:St}{b s}:∀{off:Nat} {es:List AV},bM σ b s off es->∀i e,es[i]? =some e->
  ∃u,ah σ e u/\u.cells.size=s/\∀j v,u.cells[j]? =some v->σ.cells b (off+i*s+j)=some v
 |_,[],_,i,e,h=>by simp at h
 |off,d::ds,h,i,e,a=>by
  simp[bM] at h
  cases i with
  |zero=>simp at a;subst a;simpa using h.1
  |succ i=>simp at a;obtain⟨u,r,c,g⟩:=bM.get h.2 i e a;refine⟨u,r,c,λj v f=> ?_⟩;have:=g j v f;rwa [show off+(i+1)*s+j=off+s+i*s+j from by rw[aDJ];omega]
def ah.width{σ}{a:AV}{u:Value}(h:ah σ a u){n}(b:a.width=some n):u.cells.size=n:=by
 have c:=(ah.cells h (by rw[b];simp)).length
 have:a.cells.length=n:=by
  cases a with
  |val v=>simp only[AV.width] at b;split at b<;>simp at b;subst b;rfl
  |_=>simp[AV.width] at b<;>subst b<;>rfl
 simpa[this] using c
section
variable {P:Program} {σ:St} {w:World}
def cell_of_row{b}{c}{e}{z}(h:w.heap[b]? =some (.cells c e z))(o):w.cell? ⟨b,o,none⟩=c[o]? :=by simp[World.cell?,h]
def Mk{t}{b off}{us}(q:∀j v,us[j]? =some v->w.cell? ⟨b,off+j,none⟩=some v)
  {cs} (k:aw σ cs us) {d} {v} (h:iM P t cs d=some v):
  ∃u,(loadVar t ⟨b,off+d,none⟩).run P w=.ok u w/\ah σ v u:=by
 unfold iM at h;have hl:=k.length
 cases ha:cu P t with
 |none=>simp[ha] at h
 |some g=>
  have l:∃a,P.underlying t=some a/\qZ a=g:=by
   unfold cu at ha
   cases e:P.underlying t with
   |none=>simp[e] at ha
   |some a=>exact⟨a,rfl,by simpa[e] using ha⟩
  obtain⟨a,e,hg⟩:=l;have p:(isAgg t).run P w=.ok g w:=by unfold isAgg;simp[Τ,underlying,run_program,Γ,e,atG];cases a<;>simp[qZ] at hg<;>subst hg<;>rfl
  cases g with
  |false=>simp[ha] at h;obtain⟨u,l,s⟩:=k.get h;refine⟨u,?_,s⟩;simp[loadVar,p,q d u l]
  |true=>
   simp[ha] at h
   cases hn:bF P t with
   |none=>simp[hn] at h
   |some n=>
    simp only[hn] at h;split at h
    ·rename_i hle;cases h
     have r:(sizeOf t).run P w=.ok n w:=by
      unfold bF at hn
      cases hi:P.info? t with
      |none=>simp[hi] at hn
      |some i=>simp[hi] at hn;simp[sizeOf,typeInfo,hi,hn]
     refine⟨.agg ((us.drop d).take n).toArray,?_,?_⟩
     ·have c:((us.drop d).take n).length=n:=aX
      have:=run_loadCells_list (P:=P) (w:=w) ⟨b,off+d,none⟩ ((us.drop d).take n) (by
       intro j v f
       have x:j<n:=by
        rcases aEo j n with m|m
        ·exact m
        ·rw[aDq aa] at f;cases f
       rw[Υ x,aDB] at f;have:=q (d+j) v f;by_cases o:j=0
       ·subst o;simpa[Addr.add] using this
       ·simpa[Addr.add,o,aD9] using this)
      rw[c] at this;simp[loadVar,p,r,this]
     ·simp only[ah];exact⟨_,rfl,(k.drop d).take n⟩
    ·cases h
end
section
variable {P:Program} {B:Nat->Prop} {W0:World} {H:ab} {σ:St} {w:World}
def tv{t}{n}(h:bF P t=some n):(sizeOf t).run P w=.ok n w:=by
 unfold bF at h
 cases hi:P.info? t with
 |none=>simp[hi] at h
 |some i=>simp[hi] at h;simp[sizeOf,typeInfo,hi,h]
def eB{t}{d}(h:P.underlying t=some d):(underlying t).run P w=.ok d w:=by simp[underlying,h]
def Ui{t}{fs}(h:hC P t=some fs):∃gs:Array Field,P.underlying t=some (.struct gs)/\fs=gs.toList.map λf=>(f.offset,f.type):=by
 unfold hC at h;split at h
 ·rename_i gs hg;simp at h;exact⟨gs,hg,h.symm⟩
 ·cases h
def td{t e}(h:eW P t=some e):P.underlying t=some (.slice e):=by
 unfold eW at h;split at h
 ·rename_i e' hg;simp at h;subst h;exact hg
 ·cases h
def GQ{t}(h:yi P t=true):P.underlying t=some .string:=by
 unfold yi at h;split at h
 ·rename_i hg;exact hg
 ·cases h
def agv{t}{k}(h:Fu P t=some k):P.underlying t=some (.int k):=by
 unfold Fu at h;split at h
 ·rename_i k' hg;simp at h;subst h;exact hg
 ·cases h
def qy(P:Program)(σ:St)(w:World)(v:AV)(s:Sem Next):Prop:=∃u,s.run P w=.ok (.value u) w/\ah σ v u
def qy.gM{v}{s:Sem Value}{u}(h:s.run P w=.ok u w)(r:ah σ v u):qy P σ w v (do pure (.value (<-s))):=
 ⟨u,by simp[h],r⟩
def VG{t}{a}{u:Value}{v:AV}(o:aW P B W0 H σ w)(l:ah σ a u)
  (h:kH P H t a=some v):qy P σ w v (do pure (.value (<-Instr.loadAt t u))):=by
 cases a with
 |rptr cs=>simp[kH] at h;simp[ah] at l;obtain⟨b,off,rfl,rc⟩:=l;obtain⟨us,f,r⟩:=rc.list;obtain⟨x,k,g⟩:=Mk (P:=P) (w:=w) (λj v d=>o.cells _ _ _ (r j v d)) f h;exact .gM (u:=x) (by simpa[Instr.loadAt,Instr.sureAddr] using k) g
 |ptr id off=>
  simp[kH] at h;simp[ah] at l;obtain⟨b,hb,rfl⟩:=l;split at h
  ·rename_i cs hg;obtain⟨q,c,e,i,_,m,f,_⟩:=o.obj id _ hg;rw[hb] at i;cases i
   obtain⟨x,k,g⟩:=Mk (P:=P) (w:=w) (b:=b) (off:=0) (us:=c.toList) (λj v d=>by
    rw[cell_of_row m];simpa using d) f h
   exact .gM (u:=x) (by simpa[Instr.loadAt,Instr.sureAddr] using k) g
  ·rename_i n et s cs hg;obtain⟨q,cap,c,i,_,_,m,_,_,bZ,hle,_,hl,f,_⟩:=o.obj id _ hg;rw[hb] at i;cases i
   obtain⟨x,k,g⟩:=Mk (P:=P) (w:=w) (b:=b) (off:=0) (us:=c.toList.take (n*s)) (λj v d=>by
    have p:j<n*s:=by have:=(ο.1 d).1;simp at this;omega
    rw[Υ p] at d
    rw[cell_of_row m];simpa using d) f h
   exact .gM (u:=x) (by simpa[Instr.loadAt,Instr.sureAddr] using k) g
  ·cases h
 |_=>simp[kH] at h
def Addr.ox(b o n):(⟨b,o,none⟩:Addr).add n=⟨b,o+n,none⟩:=by
 unfold Addr.add;split
 ·rename_i h;subst h;rfl
 ·rfl
def aef{s}{a}{u}{v}{f:Nat}(c:ah σ a u)
  (h:cr P s f a=some v):qy P σ w v (do pure (.value (<-Instr.fieldAt s u f))):=by
 unfold cr at h;split at h
 ·rename_i fs t;obtain⟨gs,hg,rfl⟩:=Ui t;split at h
  ·rename_i off j m;rw[aDC] at m;obtain⟨g,l,p⟩:=aDy.1 m;rw[aDh] at l;have r:g.offset=off:=Λ Prod.fst p;have y:g.type=j:=Λ Prod.snd p;split at h
   ·cases h
   ·rename_i k
    have i:∃n,bF P j=some n/\n≠0:=by
     cases d:bF P j with
     |none=>exact absurd (.inr d) k
     |some n=>exact⟨n,rfl,λe=>k (.inl (by rw[d,e]))⟩
    obtain⟨n,d,x⟩:=i;have q:∀b o,(Instr.fieldAt s (.pointer (some ⟨b,o,none⟩)) f).run P w=.ok (.pointer (some ⟨b,o+off,none⟩)) w:=by intro b o;simp[Instr.fieldAt,eB hg,l,Instr.sureAddr,fieldPlace,y,tv d,x,r,Addr.ox]
    cases a with
    |ptr id o=>simp only at h;simp[ah] at c;obtain⟨b,hb,rfl⟩:=c;cases h;exact .gM (q b o) (by simp only[ah];exact⟨b,hb,rfl⟩)
    |rptr cs=>
     simp only at h;simp[ah] at c;obtain⟨b,o,rfl,rc⟩:=c;split at h
     ·cases h;exact .gM (q b o) (by simp only[ah];exact⟨b,o+off,rfl,rc.drop off⟩)
     ·cases h
    |_=>simp at h
  ·cases h
 ·cases h
def aeg{t}{a i}{u x}{v}(d:ah σ a u)(hi:ah σ i x)
  (h:dC P t a i=some v):qy P σ w v (do pure (.value (<-Instr.indexAt t u x))):=by
 cases a with
 |vec o es=>
  cases i with
  |int k n=>
  simp only[dC] at h;simp only[ah] at d hi;subst hi;obtain⟨ad,cap,rfl,p,ho,F⟩:=d;split at h
  ·rename_i D;split at h
   ·rename_i e B;split at h
    ·rename_i et g;split at h
     ·rename_i c;cases h;have l:=td g;have J:n.toNat<es.length:=(ο.1 B).1;obtain⟨s,z⟩:=aDY.1 c.2;have r:e.width=some s:=c.1▸z;rcases F with rfl|⟨b,off,q,rfl,row⟩
      ·simp at J
      ·obtain⟨y,A,C,m⟩:=row.get n.toNat e B;have E:q=s:=by rw[<-C];exact A.width r
       subst E;refine .gM (u:=.pointer (some ⟨b,off+n.toNat*q,none⟩)) ?_ ?_
       ·have f:n<(es.length:Int):=aa;simp[Instr.indexAt,asIntOf,eB l,D,f,tv z,Addr.ox]
       ·simp only[ah];refine⟨b,_,rfl,eV.HI (A.cells (by rw[r];simp)) ?_⟩;intro j v I;exact m j v (by simpa using I)
     ·cases h
    ·cases h
   ·cases h
  ·cases h
  |_=>simp[dC] at h
 |sl id s off len=>
  cases i with
  |int k n=>
  simp only[dC] at h;simp only[ah] at d hi;subst hi;obtain⟨b,cap,G,_,rfl,p⟩:=d;split at h
  ·rename_i H;split at h
   ·rename_i et g;split at h
    ·rename_i c;cases h;have l:=td g;refine .gM (u:=.pointer (some ⟨b,(off+n.toNat)*s,none⟩)) ?_ ?_
     ·have f:n<(len:Int):=aa;simp[Instr.indexAt,asIntOf,eB l,H.1,f,tv c.1,Addr.ox,aDJ]
     ·simp only[ah];exact⟨b,G,rfl⟩
    ·cases h
   ·cases h
  ·cases h
  |_=>simp[dC] at h
 |_=>simp[dC] at h
def afy{t}{a i}{u x}{v}(e:ah σ a u)(hi:ah σ i x)
  (h:ni P t a i=some v):qy P σ w v (do pure (.value (<-Instr.index t u x))):=by
 cases a with
 |str l=>
  cases i with
  |int k n=>
  simp only[ni] at h;simp only[ah] at e hi;subst hi e;split at h
  ·rename_i g;split at h
   ·rename_i b hb;cases h;refine .gM (u:=.int .u8 b.toNat) ?_ (by simp[ah]);have B:n.toNat<l.length:=(ο.1 hb).1
    have C:(⟨l.toArray⟩:ByteArray)[n.toNat]? =some b:=by
     have:n.toNat<(⟨l.toArray⟩:ByteArray).size:=by simpa[ByteArray.size] using B
     rw[getElem?_pos (⟨l.toArray⟩:ByteArray) n.toNat this];have c:=(ο.1 hb).2;simp;rw[<-c];rfl
    simp[Instr.index,asIntOf,eB (GQ g.1),g.2,C]
   ·cases h
  ·cases h
  |_=>simp[ni] at h
 |agg cs=>
  cases i with
  |int k n=>
  simp[ni] at h;simp[ah] at e hi;subst hi;obtain⟨us,rfl,o⟩:=e;unfold acS at h;split at h
  ·rename_i len el f;split at f
   ·rename_i aC5 j p;simp at f;obtain⟨rfl,rfl⟩:=f;split at h
    ·rename_i g;obtain⟨z,s,c,A⟩:=g;obtain⟨y,q,D⟩:=o.get h;refine .gM (u:=y) ?_ D;have r:(isAgg j).run P w=.ok false w:=by unfold cu at c;simp at c;obtain⟨d,m,r6⟩:=c;simp[isAgg,eB m];cases d<;>simp_all [qZ]
     simp[Instr.index,asIntOf,eB p,z,s,tv A,part,r,q]
    ·cases h
   ·cases f
  ·cases h
  |_=>simp[ni] at h
 |_=>simp[ni] at h
end
section
variable {P:Program} {B:Nat->Prop} {W0:World} {H:ab} {σ:St} {w:World}
def ah.iG:∀(v:Value),ah σ (iG v) v
 | .int _ _=>by simp[Ab.iG,ah]
 | .bool _=>by simp[Ab.iG,ah]
 | .string s=>by simp[Ab.iG,ah]
 | .slice a n c=>by unfold Ab.iG;split<;>simp_all [ah,nV]
 | .float _ _=>by simp[Ab.iG,ah]
 | .complex _ _ _=>by simp[Ab.iG,ah]
 | .pointer _=>by simp[Ab.iG,ah]
 | .map _=>by simp[Ab.iG,ah]
 | .chan _=>by simp[Ab.iG,ah]
 | .func _ _ _=>by simp[Ab.iG,ah]
 | .nilFunc=>by simp[Ab.iG,ah]
 | .iface _ _=>by simp[Ab.iG,ah]
 | .nilIface=>by simp[Ab.iG,ah]
 | .agg _=>by simp[Ab.iG,ah]
 | .tuple _=>by simp[Ab.iG,ah]
def aw.iG(l:List Value):aw σ (l.map Ab.iG) l:=by have:=aw.map (σ:=σ) Ab.iG id l λx _=>ah.iG x;simpa using this
def ah.od(v):ah σ (od v) v:=by
 cases v with
 |agg cs=>simp[Ab.od,ah];exact⟨cs.toList,ai,aw.iG _⟩
 |_=>unfold Ab.od;exact ah.iG _
def Ml(off):∀(a:List Value) (k:Nat) (cs:Array Value),off+k+a.length<=cs.size->∀(i:Nat),
  ((a.zipIdx k).foldl (λ(cs:Array Value) (p:Value×Nat)=>cs.setIfInBounds (off+p.2) p.1) cs)[i]? =if off+k<=i/\i<off+k+a.length then a[i-(off+k)]? else cs[i]?
 |[],k,cs,_,i=>by simp only[List.zipIdx_nil,List.foldl_nil,Χ];rw[κ aa]
 |v::a,k,cs,h,i=>by
  simp[List.zipIdx_cons,List.foldl_cons] at h⊢;rw[Ml off a (k+1) _ aX];by_cases c:i=off+k
  ·subst c;rw[κ aa,ν aa];simp[show off+k<cs.size from aa]
  ·by_cases b:off+(k+1)<=i/\i<off+(k+1)+a.length
   ·rw[ν b,ν aa,show i-(off+k)=(i-(off+(k+1)))+1 from aa,aDA]
   ·rw[κ b,κ aa,aDN aa]
def Mb(off)(a:List Value)(cs:Array Value)(h:off+a.length<=cs.size):
  ((a.zipIdx 0).foldl (λ(cs:Array Value) (p:Value×Nat)=>cs.setIfInBounds (off+p.2) p.1) cs).toList=cs.toList.take off++a++cs.toList.drop (off+a.length):=by
 apply List.ext_getElem?
 intro i;rw[aDh,Ml off a 0 cs aa];simp only[aEp];by_cases b:i<off
 ·rw[κ aa,adv,Ξ aX,Υ b,aDh]
 ·rw[adv,Ρ aX];simp[aDx,aDv];rw[show min off cs.size=off from aa];by_cases h2:i<off+a.length
  ·rw[ν aa,Ξ aa]
  ·rw[κ aa,Ρ aa,aDB,aDh];congr 1;omega
def Wu(place):∀(parts:List (Nat×AV)) (us:List (Nat×Value)) (cs:List AV) (xs:Array Value) (out:List AV),
  us.map (·.1)=parts.map (·.1)->(∀(i:Nat) (p:Nat×AV) (u:Nat×Value),parts[i]? =some p->us[i]? =some u->ah σ p.2 u.2)->aw σ cs xs.toList->aZ place cs parts=some out->
  ∃g,Instr.fill place xs us=some g/\aw σ out g.toList
 |[],us,cs,xs,out,a,_,b,h=>by simp at a;subst a;simp[aZ] at h;subst h;exact⟨xs,rfl,b⟩
 |(i,v)::parts,us,cs,xs,out,a,e,b,h=>by
  cases us with
  |nil=>simp at a
  |cons u us=>
   obtain⟨j,x⟩:=u;simp at a;obtain⟨rfl,a⟩:=a;have l:ah σ v x:=e 0 (j,v) (j,x) ai ai;simp[aZ] at h;simp only[Instr.fill]
   cases vE:place j with
   |none=>simp[vE] at h
   |some q=>
    obtain⟨off,n⟩:=q;simp only[vE] at h⊢;split at h
    ·rename_i r;obtain⟨d,hle⟩:=r;have s:x.cells.size=n:=l.width d;have c:=b.length;simp only[aDv] at c;rw[κ (by simp[s];omega)];have f:=l.cells (by rw[d];simp);have k:=f.length;simp only[aDv] at k;refine Wu place parts us _ _ out a (λi p u hi o=>e (i+1) p u (by simpa using hi) (by simpa using o)) ?_ h;have m:=Mb off x.cells.toList xs aX;rw[<-Array.foldl_toList,Array.toList_zipIdx];rw[m];unfold eD;refine((b.take _).append f).append ?_;have:=b.drop (off+v.cells.length);rwa [<-k] at this⊢
    ·cases h
def D2{t}{z}(h:dq P t=some z):∃i v,P.info? t=some i/\i.zero=some v/\z=v.cells.toList.map Ab.iG:=by
 unfold dq at h;split at h
 ·rename_i i hi;obtain⟨v,a,e⟩:=aDy.1 h;exact⟨i,v,hi,a,e.symm⟩
 ·cases h
def Ya{p q}(h:∀i x,p i=some x->q i=some x):∀(us:List (Nat×Value)) (cs r:Array Value),Instr.fill p cs us=some r->Instr.fill q cs us=some r
 |[],cs,r,e=>e
 |(i,v)::us,cs,r,e=>by
  simp[Instr.fill] at e⊢
  cases hp:p i with
  |none=>simp[hp] at e
  |some x=>
   obtain⟨off,n⟩:=x;rw[h i _ hp];simp only[hp] at e⊢;split at e
   ·cases e
   ·rename_i a;rw[κ a];exact Ya h us _ r e
def afz{t}{parts:List (Nat×AV)}{us:Array (Nat×Value)}{v}
  (o:us.toList.map (·.1)=parts.map (·.1)) (k:∀(i:Nat) (p:Nat×AV) (u:Nat×Value),parts[i]? =some p->us.toList[i]? =some u->ah σ p.2 u.2)
  (h:sx P t parts=some v):qy P σ w v (do pure (.value (<-Instr.build t us))):=by
 unfold sx at h;split at h
 ·rename_i z fs r a;split at h
  ·rename_i cs m;cases h;obtain⟨i,zv,hi,e,rfl⟩:=D2 r;obtain⟨b,d,q⟩:=Wu (σ:=σ) (fs[·]?) parts us.toList _ zv.cells cs o k (aw.iG _) m
   have hb:P.built t us.toList=some b:=by
    unfold jF at a;split at a
    ·rename_i gs hg;simp[Program.built,hi,hg,e,a];simpa using d
    ·rename_i n el hg;obtain⟨ie,c,rfl⟩:=aDy.1 a;simp[Program.built,hi,hg,e,c];refine Ya (λi x g=> ?_) _ _ _ d;rw[aDC] at g;obtain⟨j,l,rfl⟩:=aDy.1 g;have:=ο.1 l;obtain⟨h1,f⟩:=this;simp at f;rw[f]
    ·cases a
   refine .gM (run_build w t us b hb) ?_;simp[ah];exact⟨b.toList,ai,q⟩
  ·cases h
 ·cases h
def agw{op}{k}{a b}{v}(h:q_ op k a b=some v):∃u,(binOp op 0 (.int k a) (.int k b)).run P w=.ok u w/\ah σ v u:=by
 unfold q_ at h
 cases op<;>simp only[Ζ,reduceCtorEq] at h<;>(try(split at h))<;>(try(simp only[Ζ,reduceCtorEq] at h))<;>(try subst h)<;>
  first
   |(simp_all [binOp,Op.intArith,Op.intDiv,Op.intCmp,ah];done)
   |(cases h)
end
section
variable {P:Program} {B:Nat->Prop} {W0:World} {H:ab} {σ:St} {w:World}
def Na{t}{cs}{us:List Value}(e:aw σ cs us){d}{v}(h:iM P t cs d=some v):∃u,(part t us.toArray d).run P w=.ok u w/\ah σ v u:=by
 unfold iM at h
 cases ha:cu P t with
 |none=>simp[ha] at h
 |some g=>
  have c:∃a,P.underlying t=some a/\qZ a=g:=by
   unfold cu at ha
   cases b:P.underlying t with
   |none=>simp[b] at ha
   |some a=>exact⟨a,rfl,by simpa[b] using ha⟩
  obtain⟨a,b,hg⟩:=c;have f:(isAgg t).run P w=.ok g w:=by unfold isAgg;simp[Τ,underlying,run_program,Γ,b,atG];cases a<;>simp[qZ] at hg<;>subst hg<;>rfl
  cases g with
  |false=>simp[ha] at h;obtain⟨u,c,i⟩:=e.get h;exact⟨u,by simp[part,f,c],i⟩
  |true=>
   simp[ha] at h
   cases hn:bF P t with
   |none=>simp[hn] at h
   |some n=>
    simp only[hn] at h;split at h
    ·rename_i hle;cases h;refine⟨.agg (us.toArray.extract d (d+n)),by simp[part,f,tv hn],?_⟩;simp only[ah];refine⟨(us.drop d).take n,?_,(e.drop d).take n⟩;congr 1;apply aE7;simp
    ·cases h
def kindOk(P:Program)(t:TypeId):EK->Prop
 | .int=>∃k,P.underlying t=some (.int k)
 | .bool=>P.underlying t=some .bool
 | .str=>P.underlying t=some .string
def agx{k}{x y}{b}(h:sw k x y=some b){t}{d}{u z}(c:ah σ x u)(e:ah σ y z)(a:kindOk P t k):(Op.equalIn (d+1) t u z).run P w=.ok b w:=by
 cases k<;>cases x<;>simp[sw] at h<;>cases y<;>simp only[reduceCtorEq] at h<;>simp only[ah] at c e<;>subst c e
 case int.int.int k1 n1 k2 n2=>
  split at h
  ·rename_i f;subst f;cases h;obtain⟨k',g⟩:=a;exact run_equalIn_int w d t _ _ _ _ g
  ·cases h
 case bool.bool.bool=>cases h;exact run_equalIn_bool' w d t _ _ a
 case str.str.str=>
  cases h;rw[run_equalIn_string w d t _ _ a];simp
def Uf:∀{ks c:List EK} {xs a:List AV} {b:Bool},lY (ks++c) xs a=some b->∃b1 b2,lY ks (xs.take ks.length) (a.take ks.length)=some b1/\lY c (xs.drop ks.length) (a.drop ks.length)=some b2/\b=(b1&&b2)/\ks.length<=xs.length/\ks.length<=a.length
 |[],c,xs,a,b,h=>⟨true,b,by simp[lY],by simpa using h,ai,ai,ai⟩
 |k::ks,c,[],a,b,h=>by cases a<;>simp[lY] at h
 |k::ks,c,x::xs,[],b,h=>by simp[lY] at h
 |k::ks,c,x::xs,y::a,b,h=>by
  simp[lY] at h
  cases hc:sw k x y with
  |none=>simp[hc] at h
  |some d=>
   simp[hc] at h
   cases hr:lY (ks++c) xs a with
   |none=>simp[hr] at h
   |some r=>
    simp[hr] at h;obtain⟨b1,b2,f,e,g,h4,h5⟩:=Uf hr;refine⟨d&&b1,b2,?_,by simpa using e,?_,aX,aX⟩
    ·simp[lY,hc,f]
    ·rw[<-h,g,Bool.and_assoc]
def P4(P:Program)(t:TypeId)(ks:List EK)(x y:AV)(b:Bool):Prop:=
 (∃xs a,x=.agg xs/\y=.agg a/\cu P t=some true/\lY ks xs a=some b)\/(∃k,ks=[k]/\cu P t=some false/\sw k x y=some b)
def Yb{g}{d}{xs i:List AV}{us zs:List Value}(E:aw σ xs us)(C:aw σ i zs)
  (ih:∀(t:TypeId) (ks:List EK) (x y:AV) (u z:Value) (b:Bool),g t=some ks->ah σ x u->ah σ y z->P4 P t ks x y b->(Op.equalIn d t u z).run P w=.ok b w):
  ∀(fs:List Field) (off:Nat) (ks:List EK) (b:Bool),CT P g off fs=some ks->lY ks (xs.drop off) (i.drop off)=some b->(Op.eqFields d us.toArray zs.toArray fs).run P w=.ok b w
 |[],off,ks,b,h,hb=>by
  simp[CT] at h;subst h;have:b=true:=by cases o:xs.drop off<;>cases m:i.drop off<;>simp[o,m,lY] at hb;exact hb
  subst this;simp[Op.eqFields]
 |f::fs,off,ks,b,h,hb=>by
  simp only[CT] at h;split at h
  ·cases h
  ·rename_i D
   cases hg:g f.type with
   |none=>simp[hg] at h
   |some k1=>
    simp only[hg] at h;split at h
    ·rename_i H
     cases hr:CT P g (off+k1.length) fs with
     |none=>simp[hr] at h
     |some k2=>
      simp[hr] at h;subst h;obtain⟨b1,b2,a,v,L,A,B⟩:=Uf hb;simp[List.drop_drop] at v;simp[atB] at A B;obtain⟨j,aC6,q⟩:=H;have p:f.name≠ "_" :=λe=>D (.inl e)
      have r:f.offset=off:=by
       rcases Nat.decEq f.offset off with G|s
       ·exact absurd (.inr G) D
       ·exact s
      obtain⟨l,n,N,J,O⟩:∃l n,iM P f.type xs off=some l/\iM P f.type i off=some n/\P4 P f.type k1 l n b1:=by
       rcases q with c|⟨c,Q⟩
       ·refine⟨_,_,by unfold iM;simp only[c,j];rw[ν aa],by unfold iM;simp only[c,j];rw[ν aa],?_⟩;exact .inl ⟨_,_,rfl,rfl,c,a⟩
       ·obtain⟨k,rfl⟩:=List.length_eq_one_iff.1 Q;have o:off<xs.length:=by simp at A;omega
        have m:off<i.length:=by simp at B;omega
        refine⟨xs[off],i[off],by unfold iM;simp[c,o],by unfold iM;simp[c,m],?_⟩;rw[Ο o,Ο m] at a;simp only[aD5,aEb,aEU] at a;simp only[lY] at a
        cases hq:sw k xs[off] i[off] with
        |none=>simp[hq] at a
        |some b'=>simp[hq] at a;subst a;exact .inr ⟨k,rfl,c,hq⟩
      obtain⟨K,p1,F⟩:=Na (P:=P) (w:=w) E N;obtain⟨I,p2,M⟩:=Na (P:=P) (w:=w) C J;have s:=ih f.type k1 l n K I b1 hg F M O;simp[Op.eqFields,p,r,Τ,p1,p2,s,Γ];subst L
      cases b1 with
      |true=>simpa using(Yb E C ih fs (off+k1.length) k2 b2 hr v)
      |false=>simp
    ·cases h
def Ip:∀(d:Nat) (t:TypeId) (ks:List EK) (x y:AV) (u z:Value) (b:Bool) (e:Nat),d<=e->sR P d t=some ks->ah σ x u->ah σ y z->P4 P t ks x y b->(Op.equalIn e t u z).run P w=.ok b w
 |0,t,ks,x,y,u,z,b,e,_,h,_,_,_=>by simp[sR] at h
 |d+1,t,ks,x,y,u,z,b,0,q,_,_,_,_=>by omega
 |d+1,t,ks,x,y,u,z,b,e+1,q,h,j,g,hb=>by
  simp[sR] at h
  have one:∀k,some [k]=some ks->kindOk P t k->cu P t=some false->(Op.equalIn (e+1) t u z).run P w=.ok b w:=by
   rintro k m o v;rcases hb with⟨xs,p,_,_,c,_⟩|⟨A,c,_,l⟩
   ·rw[v] at c;cases c
   ·subst c;simp at m;subst m;exact agx l j g o
  split at h
  ·rename_i a;exact one .bool h a (by simp[cu,a,qZ])
  ·rename_i k a;exact one .int h ⟨k,a⟩ (by simp[cu,a,qZ])
  ·rename_i a;exact one .str h a (by simp[cu,a,qZ])
  ·rename_i fs a;split at h
   ·cases h
   ·rename_i B
    have C:P.stoodInHeld t=false:=by
     cases hs:P.stoodInHeld t
     ·rfl
     ·exact absurd (.inl hs) B
    rcases hb with⟨xs,p,rfl,rfl,_,i⟩|⟨A,_,c,_⟩
    ·simp[ah] at j g;obtain⟨us,rfl,s⟩:=j;obtain⟨zs,rfl,n⟩:=g;have f:P.fieldsOf t=fs:=by simp[Program.fieldsOf,a]
     rw[run_equalIn_struct w e t _ _ (by rw[f];exact a) C,f];exact Yb s n (λt ks x y u z b c i l r=>Ip d t ks x y u z b e aa c i l r) fs.toList 0 ks b h (by simpa using i)
    ·simp[cu,a,qZ] at c
  ·cases h
def Wv{op}{r}{v:AV}(h:wH op r=some v):∃b,r=some b/\((op=.eql/\v=.bool b)\/(op=.neq/\v=.bool (!b))):=by
 cases op<;>simp[wH] at h<;>cases r<;>simp at h
 ·exact⟨_,rfl,.inl ⟨rfl,h.symm⟩⟩
 ·exact⟨_,rfl,.inr ⟨rfl,h.symm⟩⟩
def uJ{op}{b}{v}(h:qx op b=some v):(op=.eql/\v=.bool b)\/(op=.neq/\v=.bool (!b)):=by
 cases op<;>simp[qx] at h
 ·exact .inl ⟨rfl,h.symm⟩
 ·exact .inr ⟨rfl,h.symm⟩
def afA{op}(h:pN op=true):op=.shl\/op=.shr:=by
 cases op<;>simp[pN] at h
 ·exact .inl rfl
 ·exact .inr rfl
def ML{v}(h:Fv v=true):∃a c,v=.slice (some a) 0 c:=by
 unfold Fv at h;split at h
 ·rename_i a c;exact⟨a,c,rfl⟩
 ·cases h
def yu{op}{t}{x y}{u z:Value}{b v}(a:∀d,(Op.equalIn (d+1) t u z).run P w=.ok b w)(c:(do eqGuard .eql t x y u z;binOp .eql t u z:Sem Value).run P w=(do pure (.bool (<-Op.equalIn 10000 t u z)):Sem Value).run P w)
  (e:(do eqGuard .neq t x y u z;binOp .neq t u z:Sem Value).run P w=(do pure (.bool (!(<-Op.equalIn 10000 t u z))):Sem Value).run P w) (f:(op=.eql/\v=.bool b)\/(op=.neq/\v=.bool (!b))):
  qy P σ w v (do pure (.value (<-(do eqGuard op t x y u z;binOp op t u z)))):=by
 have a:=a 9999;rcases f with⟨rfl,rfl⟩|⟨rfl,rfl⟩
 ·exact .gM (u:=.bool b) (by rw[c];simp[a]) (by simp[ah])
 ·exact .gM (u:=.bool (!b)) (by rw[e];simp[a]) (by simp[ah])
def ak0{op}{t}{x y}{a b:AV}{u z:Value}{v:AV}(f:ah σ a u)(g:ah σ b z)(h:ew P op t a b=some v):
  qy P σ w v (do pure (.value (<-(do eqGuard op t x y u z;binOp op t u z)))):=by
 unfold ew at h;split at h
 ·rename_i k m k' n;simp only[ah] at f g;subst f g;split at h
  ·rename_i T;unfold Im at h;split at h
   ·cases h
   ·rename_i B;rcases afA T with rfl|rfl
    ·cases h;exact .gM (by simp only[eqGuard,binOp,Op.shift,κ B];simp;rfl) (by simp[ah])
    ·cases h;exact .gM (by simp only[eqGuard,binOp,Op.shift,κ B];simp;rfl) (by simp[ah])
  ·split at h
   ·rename_i L;subst L;obtain⟨r,C,Q⟩:=agw (P:=P) (w:=w) (σ:=σ) h;have O:(binOp op t (.int k m) (.int k n)).run P w=.ok r w:=by rw[<-C];cases op<;>rfl
    refine .gM (u:=r) ?_ Q;cases op<;>simp[eqGuard,O]
   ·cases h
 ·rename_i m n;simp only[ah] at f g;subst f g;unfold jS at h
  cases op<;>simp only[Ζ,reduceCtorEq] at h<;>
   first
    |(split at h
      ·rename_i hle;cases h;refine .gM (u:=.string ⟨(m++n).toArray⟩) ?_ (by simp[ah]);have M:¬(((⟨m.toArray⟩:ByteArray).size+(⟨n.toArray⟩:ByteArray).size:Nat):Int)>IntKind.i64.max:=by have:IntKind.i64.max=9223372036854775807:=aA;rw[this];simp only[ByteArray.size,aDw];omega
       have S:(⟨m.toArray⟩:ByteArray)++(⟨n.toArray⟩:ByteArray)=⟨(m++n).toArray⟩:=by apply Go.WideShapes.bytes_inj;simp
       simp only[eqGuard,binOp,Op.stringOp,S];simp only[Τ,Sem.run_ite,κ M];simp
      ·cases h)
    |(subst h
      exact .gM (by simp[eqGuard,binOp,Op.stringOp];rfl) (by simp[ah]))
 ·rename_i m n;split at h
  ·rename_i A;split at h
   ·rename_i p;have q:=Ip (P:=P) (w:=w) 4 t [.bool] (.bool m) (.bool n) u z (m==n) 10000 aa p f g (.inr ⟨.bool,rfl,A,rfl⟩);simp only[ah] at f g;subst f g;obtain⟨r,C,l⟩:=Wv h;cases C;rcases l with⟨rfl,rfl⟩|⟨rfl,rfl⟩
    ·refine .gM (u:=.bool (m==n)) ?_ (by simp[ah]);simp only[eqGuard,binOp,Op.equal,Op.maxDepth];simp[q]
    ·refine .gM (u:=.bool (!(m==n))) ?_ (by simp[ah]);simp only[eqGuard,binOp,Op.equal,Op.maxDepth];simp[q]
   ·cases h
  ·cases h
 ·rename_i as bs;split at h
  ·rename_i A;split at h
   ·rename_i ks p;obtain⟨r,C,l⟩:=Wv h;have q:=Ip (P:=P) (w:=w) 4 t ks (.agg as) (.agg bs) u z r 10000 aa p f g (.inl ⟨as,bs,rfl,rfl,A,C⟩)
    have I:P.eqGuardType P.depth t=false:=by
     simp only[sR] at p;split at p
     ·rename_i D;simp[cu,D,qZ] at A
     ·rename_i D;simp[cu,D,qZ] at A
     ·rename_i D;simp[cu,D,qZ] at A
     ·split at p
      ·cases p
      ·rename_i R;cases hs:P.eqGuardType P.depth t
       ·rfl
       ·exact absurd (.inr hs) R
     ·cases p
    simp only[ah] at f g;obtain⟨us,rfl,_⟩:=f;obtain⟨zs,rfl,_⟩:=g;rcases l with⟨rfl,rfl⟩|⟨rfl,rfl⟩
    ·refine .gM (u:=.bool r) ?_ (by simp[ah]);simp only[Τ,run_eqGuard_agg w _ t x y _ _ I,Γ,run_eql_struct,q]
    ·refine .gM (u:=.bool (!r)) ?_ (by simp[ah]);simp only[Τ,run_eqGuard_agg w _ t x y _ _ I,Γ,run_neq_struct,q]
   ·cases h
  ·cases h
 ·rename_i id off;split at h
  ·rename_i c
   obtain⟨e,i⟩:∃e,P.underlying t=some (.pointer e):=by
    unfold AN at c;split at c
    ·rename_i e j;exact⟨e,j⟩
    ·cases c
   simp only[ah] at f g;obtain⟨b,_,rfl⟩:=f;subst g;exact yu (λd=>by simp[Op.equalIn,eB i]) rfl rfl (uJ h)
  ·cases h
 ·rename_i cs;split at h
  ·rename_i c
   obtain⟨e,i⟩:∃e,P.underlying t=some (.pointer e):=by
    unfold AN at c;split at c
    ·rename_i e j;exact⟨e,j⟩
    ·cases c
   simp only[ah] at f g;obtain⟨b,off,rfl,_⟩:=f;subst g;exact yu (λd=>by simp[Op.equalIn,eB i]) rfl rfl (uJ h)
  ·cases h
 ·split at h
  ·rename_i c
   obtain⟨e,i⟩:∃e,P.underlying t=some (.pointer e):=by
    unfold AN at c;split at c
    ·rename_i e j;exact⟨e,j⟩
    ·cases c
   simp only[ah] at f g;subst f g;exact yu (λd=>by simp[Op.equalIn,eB i]) rfl rfl (uJ h)
  ·cases h
 ·rename_i it iv;split at h
  ·rename_i c
   obtain⟨ms,i⟩:∃ms,P.underlying t=some (.interface ms):=by
    unfold Il at c;split at c
    ·rename_i e j;exact⟨e,j⟩
    ·cases c
   simp only[ah] at f g;obtain⟨xv,rfl,_⟩:=f;subst g;exact yu (λd=>by simp[Op.equalIn,eB i]) rfl rfl (uJ h)
  ·cases h
 ·rename_i ff f1 f2;split at h
  ·rename_i c
   obtain⟨E,G,F,i⟩:∃E G F,P.underlying t=some (.func E G F):=by
    unfold abL at c;split at c
    ·rename_i E G F j;exact⟨E,G,F,j⟩
    ·cases c
   simp only[ah] at f g;obtain⟨SF,Df,rfl,_,_⟩:=f;subst g;exact yu (λd=>by simp[Op.equalIn,eB i]) rfl rfl (uJ h)
  ·cases h
 ·rename_i id s off len;split at h
  ·rename_i c
   obtain⟨e,i⟩:∃e,P.underlying t=some (.slice e):=by
    unfold xW at c;split at c
    ·rename_i e j;exact⟨e,j⟩
    ·cases c
   simp only[ah] at f g;obtain⟨b,cap,_,_,rfl,_⟩:=f;obtain⟨H,cp,rfl,_,l,_⟩:=g;simp only[nV] at l;obtain⟨rfl,_,rfl⟩:=l;exact yu (λd=>by simp[Op.equalIn,eB i]) rfl rfl (uJ h)
  ·cases h
 ·rename_i o e1 es1;split at h
  ·rename_i c
   obtain⟨e,i⟩:∃e,P.underlying t=some (.slice e):=by
    unfold xW at c;split at c
    ·rename_i e j;exact⟨e,j⟩
    ·cases c
   simp only[ah] at f g;obtain⟨a0,cap,rfl,_,_,N⟩:=f;obtain⟨H,cp,rfl,_,l,_⟩:=g;simp only[nV] at l;obtain⟨rfl,_,rfl⟩:=l;obtain⟨b,off,s,rfl,_⟩:=N.resolve_left ai;have p:∀d n,(Op.equalIn (d+1) t (.slice (some ⟨b,off,none⟩) n cap) (.slice none 0 0)).run P w=.ok false w:=λd n=>by simp[Op.equalIn,eB i]
   have p:=p 9999;rcases uJ h with⟨rfl,rfl⟩|⟨rfl,rfl⟩
   ·exact .gM (u:=.bool false) (by simp only[eqGuard,binOp,Op.equal,Op.maxDepth];simp[p]) (by simp[ah])
   ·exact .gM (u:=.bool true) (by simp only[eqGuard,binOp,Op.equal,Op.maxDepth];simp[p]) (by simp[ah])
  ·cases h
 ·split at h
  ·rename_i c
   obtain⟨e,i⟩:∃e,P.underlying t=some (.slice e):=by
    unfold xW at c;split at c
    ·rename_i e j;exact⟨e,j⟩
    ·cases c
   simp only[ah] at f g;obtain⟨a0,cap,rfl,_,J,_⟩:=f;obtain⟨H,cp,rfl,_,l,_⟩:=g;simp only[nV] at l J;obtain⟨rfl,_,rfl⟩:=l;obtain⟨rfl,_,rfl⟩:=J;exact yu (λd=>by simp[Op.equalIn,eB i]) rfl rfl (uJ h)
  ·cases h
 ·rename_i v0;split at h
  ·rename_i c;obtain⟨K,c⟩:=c
   obtain⟨e,i⟩:∃e,P.underlying t=some (.slice e):=by
    unfold xW at c;split at c
    ·rename_i e j;exact⟨e,j⟩
    ·cases c
   obtain⟨a0,c0,rfl⟩:=ML K;simp only[ah] at f g;subst f;obtain⟨H,cp,rfl,_,l,_⟩:=g;simp only[nV] at l;obtain⟨rfl,_,rfl⟩:=l;exact yu (λd=>by simp[Op.equalIn,eB i]) rfl rfl (uJ h)
  ·cases h
 ·cases h
def BC{x:Option AV}{d y m:Nat}{u:Option Value}(f:∀a z,x=some a->u=some z->ah σ a z)(b:x.isSome=u.isSome)(h:j_ x d y=some m)(c:BoundsCode):
  (match u with|some z=>Instr.sliceBound z y c|none=>pure d).run P w=.ok m w:=by
 cases x with
 |none=>
  cases u with
  |none=>simp[j_] at h;subst h;simp
  |some z=>simp at b
 |some a=>
  cases u with
  |none=>simp at b
  |some z=>
   have r:=f a z rfl rfl
   cases a with
   |int k i=>
    simp[ah] at r;subst r;simp only[j_] at h;split at h
    ·rename_i e;cases h;simp[Instr.sliceBound,asIntOf,e]
    ·cases h
   |_=>simp[j_] at h
def bM.drop{b s}:∀{off:Nat} {es:List AV} (n:Nat),bM σ b s off es->bM σ b s (off+n*s) (es.drop n)
 |_,[],n,_=>by simp[bM]
 |off,e::es,n,h=>by
  cases n with
  |zero=>simpa using h
  |succ n=>simp[bM] at h;have:=bM.drop n h.2;rw[aEc,show off+(n+1)*s=off+s+n*s from by rw[aDJ];omega];exact this
def bM.take{b s}:∀{off:Nat} {es:List AV} (n:Nat),bM σ b s off es->bM σ b s off (es.take n)
 |_,[],n,_=>by simp[bM]
 |off,e::es,n,h=>by
  cases n with
  |zero=>simp[bM]
  |succ n=>simp[bM] at h;simp[bM];exact⟨h.1,bM.take n h.2⟩
def Mc{t}{es:List AV}(h:ow P t es=true):∃et s,eW P t=some et/\bF P et=some s/\∀e,es.head? =some e->e.width=some s:=by
 unfold ow at h;split at h
 ·rename_i et c;split at h
  ·rename_i s a;refine⟨et,s,c,a,λe b=> ?_⟩;rw[b] at h;simpa using h
  ·cases h
 ·cases h
def bM.jU{b s n}{off}{es:List AV}(h:bM σ b s off es)(c:es≠[])(a:∀e,es.head? =some e->e.width=some n):s=n:=by
 cases es with
 |nil=>exact absurd rfl c
 |cons e es=>simp[bM] at h;obtain⟨⟨u,r,d,_⟩,_⟩:=h;rw[<-d];exact r.width (a e rfl)
def Ux{x}{d y m}(h:j_ x d y=some m)(a:d<=y):m<=y:=by
 unfold j_ at h;split at h
 ·cases h;exact a
 ·split at h
  ·cases h;omega
  ·cases h
 ·cases h
def aeM{x}{d y z m}(h:j_ x d y=some m)(hz:y<=z):j_ x d z=some m:=by
 unfold j_ at h⊢;split at h
 ·exact h
 ·split at h
  ·rename_i i a;rw[ν ⟨a.1,aa⟩];exact h
  ·cases h
 ·cases h
def aep{n}{lo hi}{x y}(h:nN n lo hi=some (x,y)):x<=y/\y<=n/\j_ lo 0 y=some x/\∀c,n<=c->j_ hi n c=some y:=by
 unfold nN at h;split at h
 ·rename_i hh b;split at h
  ·rename_i ll a;cases h;exact⟨Ux a (aDT _),Ux b (μ _),a,λc d=>aeM b d⟩
  ·cases h
 ·cases h
def afB{t}{a}{u}{lo hi:Option AV}{r p:Option Value}{v}(q:ah σ a u)
  (M:∀a z,lo=some a->r=some z->ah σ a z) (O:lo.isSome=r.isSome) (Q:∀a z,hi=some a->p=some z->ah σ a z) (K:hi.isSome=p.isSome)
  (h:jT P t lo hi a=some v):qy P σ w v (do pure (.value (<-Instr.sliceAt t u r p none))):=by
 cases a with
 |vec o es=>
  simp only[jT] at h;simp only[ah] at q;obtain⟨G,cap,rfl,U,n,W⟩:=q;split at h
  ·rename_i C;obtain⟨et,sz,F,A,hw⟩:=Mc C;split at h
   ·rename_i x y m;cases h;unfold nN at m;split at m
    ·rename_i g f;split at m
     ·rename_i c d;simp at m;obtain⟨rfl,rfl⟩:=m;have D:=td F
      have hhn:g<=es.length:=by
       unfold j_ at f;split at f
       ·cases f;exact μ _
       ·split at f
        ·cases f;omega
        ·cases f
       ·cases f
      have oe:c<=g:=by
       unfold j_ at d;split at d
       ·cases d;exact aDT _
       ·split at d
        ·cases d;omega
        ·cases d
       ·cases d
      have V:hi=none->g=es.length:=by rintro rfl;simp[j_] at f;exact f.symm
      have L:j_ hi es.length cap=some g:=by
       unfold j_ at f⊢;split at f
       ·exact f
       ·split at f
        ·rename_i i hc;rw[ν ⟨hc.1,aa⟩];exact f
        ·cases f
       ·cases f
      have T:=BC (P:=P) (w:=w) Q K L .sliceAcap;have R:=BC (P:=P) (w:=w) M O d .sliceB;refine .gM (u:=.slice (if cap=c then G else G.map (·.add (c*sz))) (g-c) (cap-c)) ?_ ?_
      ·cases p<;>cases r<;>simp_all [Instr.sliceAt,Instr.slice,Instr.sliceBounds,eB D,tv A]
      ·simp only[ah];refine⟨(if cap=c then G else G.map (·.add (c*sz))),cap-c,?_,?_,?_,?_⟩
       ·rw[show(List.drop c (List.take g es)).length=g-c from aX]
       ·simp;omega
       ·have B:(List.drop c (List.take g es)).length=g-c:=aX;rw[B];have C:strOf P t=sz:=by simp[strOf,F,A]
        rw[C]
        cases hi with
        |some _=>trivial
        |none=>
         have aC7:=V rfl
         cases o with
         |nil=>simp[nV,o6] at n⊢;omega
         |full=>simp[nV,o6] at n⊢;omega
         |ro=>trivial
         |own k=>obtain⟨b,e,N⟩:=n;refine⟨b,0,by rw[show c+(g-c)=es.length by omega,show c+(cap-c)=cap by omega];exact e,.inl ⟨rfl,rfl⟩,λH=> ?_⟩;rw[κ (by omega),N];simp[Addr.ox]
         |cut z k j s'=>
          unfold o6;simp only;split
          ·rename_i X;subst X;obtain⟨b,β,e,Z,N⟩:=n;refine⟨b,β,by rw[show j+c+(g-c)=j+es.length by omega,show j+c+(cap-c)=j+cap by omega];exact e,Z,λH=> ?_⟩;rw[κ (by omega),N (by omega)];simp[Addr.ox,aDJ,aD9]
          ·trivial
       ·by_cases E:List.drop c (List.take g es)=[]
        ·exact .inl E
        ·refine .inr ?_
         have aN:c<g:=by
          rcases aEo c g with J|J
          ·exact J
          ·exact absurd (List.drop_eq_nil_of_le aX) E
         rcases W with rfl|⟨b,off,s,rfl,row⟩
         ·simp at E
         ·have hs:s=sz:=row.jU (by rintro rfl;simp at E) hw;subst hs;refine⟨b,off+c*s,s,?_,(row.take g).drop c⟩;rw[κ aa];simp[Addr.ox]
     ·cases m
    ·cases m
   ·cases h
  ·cases h
 |sl id s off len=>
  simp[jT] at h;simp only[ah] at q;obtain⟨b,cap,S,n,rfl,U⟩:=q;split at h
  ·rename_i et F;split at h
   ·rename_i A;split at h
    ·rename_i x y m;obtain⟨J,h2,h3,Y⟩:=aep m;have D:=td F;have T:=BC (P:=P) (w:=w) Q K (Y (cap-off) aa) .sliceAcap;have R:=BC (P:=P) (w:=w) M O h3 .sliceB;refine .gM (u:=.slice (some (if cap-off=x then⟨b,off*s,none⟩ else⟨b,off*s+x*s,none⟩)) (y-x) (cap-off-x)) ?_ ?_
     ·have I:(if cap-off=x then some (⟨b,off*s,none⟩:Addr) else(some (⟨b,off*s,none⟩:Addr)).map (·.add (x*s)))=some (if cap-off=x then⟨b,off*s,none⟩ else⟨b,off*s+x*s,none⟩):=by
       split
       ·rfl
       ·simp[Addr.ox]
      rw[<-I];cases p<;>cases r<;>simp_all [Instr.sliceAt,Instr.slice,Instr.sliceBounds,eB D,tv A]
     ·split at h
      ·rename_i H;subst H;cases h;simp only[ah];refine⟨b,cap,S,n,?_,aa⟩;simp
      ·split at h
       ·rename_i aN;cases h;simp only[ah];refine⟨b,cap,S,n,?_,aa⟩;rw[κ aa,aDJ,Nat.sub_sub]
       ·cases h;simp only[ah];refine⟨_,_,by rw[show y-x=([]:List AV).length from aX],ai,trivial,.inl trivial⟩
    ·cases h
   ·cases h
  ·cases h
 |str l=>
  simp only[jT] at h;simp only[ah] at q;subst q;split at h
  ·rename_i C;split at h
   ·rename_i x y m;cases h;unfold nN at m;split at m
    ·rename_i g f;split at m
     ·rename_i c d;simp at m;obtain⟨rfl,rfl⟩:=m;have D:=GQ C;refine .gM (u:=.string ((⟨l.toArray⟩:ByteArray).extract c g)) ?_ ?_
      ·have T:=BC (P:=P) (w:=w) Q K f .sliceAlen;have R:=BC (P:=P) (w:=w) M O d .sliceB;have A:(⟨l.toArray⟩:ByteArray).size=l.length:=by simp[ByteArray.size]
       cases p<;>cases r<;>simp_all [Instr.sliceAt,Instr.slice,Instr.sliceBounds,eB D]
      ·simp[ah];congr 1;apply Go.WideShapes.bytes_inj;simp[List.drop_take]
     ·cases m
    ·cases m
   ·cases h
  ·cases h
 |_=>simp[jT] at h
def aw.of_map{α:Type}(f:α->AV)(g:α->Value)(l:List α)(h:∀x∈l,ah σ (f x) (g x)):aw σ (l.map f) (l.map g):=aw.map f g l h
def Ww{dV}{ty}{as}{us:Array Value}{v}(g:aw σ as us.toList)
  (h:gD P dV as=some v):qy P σ w v (do pure (.value (<-Builtin.len_ dV ty us))):=by
 obtain⟨us⟩:=us
 cases as with
 |nil=>simp[gD] at h
 |cons a as=>
  cases as with
  |cons b as=>cases a<;>simp[gD] at h
  |nil=>
   rw[aw.eC] at g;obtain⟨u,dW,e,r,q⟩:=g;rw[aw.pO] at q;subst q;simp only at e;subst e
   cases a with
   |str l=>
    simp[gD] at h;simp[ah] at r;subst r;split at h
    ·rename_i t d;split at h
     ·rename_i j;cases h;exact .gM (u:=.int .i64 l.length) (by simp[Builtin.len_,d,eB (GQ j),goInt];rfl) (by simp[ah])
     ·cases h
    ·cases h
   |vec o es=>
    simp only[gD] at h;simp only[ah] at r;obtain⟨ad,cap,rfl,_⟩:=r;split at h
    ·rename_i t d;split at h
     ·rename_i c;cases h;obtain⟨e,f⟩:=aDY.1 c;exact .gM (u:=.int .i64 es.length) (by simp[Builtin.len_,d,eB (td f),goInt]) (by simp[ah])
     ·cases h
    ·cases h
   |sl id s off n=>
    simp only[gD] at h;simp only[ah] at r;obtain⟨b,cap,_,_,rfl,_⟩:=r;split at h
    ·rename_i t d;split at h
     ·rename_i c;cases h;obtain⟨e,f⟩:=aDY.1 c;exact .gM (u:=.int .i64 n) (by simp[Builtin.len_,d,eB (td f),goInt]) (by simp[ah])
     ·cases h
    ·cases h
   |val v0=>
    simp[gD] at h;simp[ah] at r;subst r;split at h
    ·rename_i t d;split at h
     ·rename_i c;obtain⟨i,c⟩:=c;cases h;obtain⟨a0,c0,rfl⟩:=ML i;obtain⟨e,f⟩:=aDY.1 c;exact .gM (u:=.int .i64 0) (by simp[Builtin.len_,d,eB (td f),goInt]) (by simp[ah])
     ·cases h
    ·cases h
   |_=>simp[gD] at h
def afC{t}{x}{u}{f}{v}(d:ah σ x u)(h:Af P t f x=some v):qy P σ w v (do pure (.value (<-Instr.field t u f))):=by
 cases x with
 |agg cs=>
  simp[Af] at h;split at h
  ·rename_i fs i;obtain⟨gs,hg,rfl⟩:=Ui i;split at h
   ·rename_i off e b;rw[aDC] at b;obtain⟨g,a,c⟩:=aDy.1 b;rw[aDh] at a;have j:g.offset=off:=Λ Prod.fst c;have l:g.type=e:=Λ Prod.snd c;simp[ah] at d;obtain⟨us,rfl,r⟩:=d;obtain⟨y,k,m⟩:=Na (P:=P) (w:=w) r h;exact .gM (u:=y) (by simp[Instr.field,eB hg,a,asAgg,j,l,k]) m
   ·cases h
  ·cases h
 |_=>simp[Af] at h
def agy{d}{k c}{u e}{r}(b:ah σ k u)(a:ah σ c e)(f:(∃q,d=.int q)/\(∃q n,k=.int q n)\/d=.string/\∃l,k=.str l)(h:sA k c=some r):
  Instr.sameNow d u e=some r:=by
 rcases f with⟨⟨q,rfl⟩,q',n,rfl⟩|⟨rfl,l,rfl⟩
 ·cases c<;>simp[sA] at h;simp[ah] at b a;subst b a;simpa[Instr.sameNow] using h
 ·cases c<;>simp[sA] at h;simp[ah] at b a;subst b a;simp only[Instr.sameNow];simp only[Ζ] at h⊢;rw[<-h];rw[aD0,Go.MapKept.bytes_beq];simp
def Ei{d}{k}{u}(f:ah σ k u)(e:(∃q,d=.int q)/\(∃q n,k=.int q n)\/d=.string/\∃l,k=.str l):∀(es:List (AV×AV×Nat)) (ms:List MapEntry) (i:Nat) (r:Option (Nat×AV)),gv σ es ms->mL k es i=some r->
  ∃c,Instr.findNow d u ms i=some c/\((r=none/\c=none)\/∃j v x,r=some (j,v)/\c=some (j,x)/\ah σ v x)
 |[],ms,i,r,a,h=>by simp[gv] at a;subst a;simp[mL] at h;exact⟨none,rfl,.inl ⟨h.symm,rfl⟩⟩
 |(k',v,b)::es,ms,i,r,a,h=>by
  simp[gv] at a;obtain⟨m,s,rfl,p,o,r3,g⟩:=a;simp[mL] at h
  cases hk:sA k k' with
  |none=>simp[hk] at h
  |some q=>
   simp only[Instr.findNow,agy f p e hk]
   cases q with
   |true=>simp only[hk,Ζ] at h;exact⟨_,rfl,.inr ⟨i,v,m.val,h.symm,rfl,o⟩⟩
   |false=>simp[hk] at h;exact Ei f e es s (i+1) r g h
def ahI{t}{z}(h:zeroV P t=some z):∃u,(zeroValue t).run P w=.ok u w/\ah σ z u:=by
 unfold zeroV at h;split at h
 ·rename_i i hi;obtain⟨u,a,rfl⟩:=aDy.1 h;exact⟨u,by simp[zeroValue,typeInfo,hi,a],ah.od u⟩
 ·cases h
def MM{t a et}(h:AM P t=some (a,et)):P.underlying t=some (.map a et):=by
 unfold AM at h;split at h
 ·rename_i k e b;cases h;exact b
 ·cases h
def aeN{b fs q}(h:OX P b fs q=true):cu P b=some true/\sR P 4 b=some [.str,.int]/\∃f g,fs=#[f,g]/\f.name≠ "_" /\g.name≠ "_" /\f.offset=0/\g.offset=1/\P.underlying f.type=some .string/\P.underlying g.type=some (.int q):=by
 unfold OX at h;simp only[ap2,aEh] at h;obtain⟨⟨i,c⟩,a⟩:=h;refine⟨i,?_,?_⟩
 ·split at c
  ·assumption
  ·cases c
 ·split at a
  ·rename_i f g d;simp only[ap2,aDs] at a;obtain⟨⟨⟨⟨⟨a1,a2⟩,a3⟩,a4⟩,a5⟩,a6⟩:=a;refine⟨f,g,Array.toList_inj.1 d,a1,a2,a3,a4,?_,?_⟩
   ·split at a5
    ·assumption
    ·cases a5
   ·split at a6
    ·rename_i q' e;simp at a6;rw[e,a6]
    ·cases a6
  ·cases a
def U5{c}{a:List UInt8}{q:IntKind}{n:Int}{u}(o:ah σ (.agg [.str a,.int q n]) u)(l:cu P c=some true)(k:sR P 4 c=some [.str,.int]):∀(es:List (AV×AV×Nat)) (ms:List MapEntry) (i:Nat) (r:Option (Nat×AV)),gv σ es ms->mL (.agg [.str a,.int q n]) es i=some r->
  ∃d,(Instr.findAsking c u ms i).run P w=.ok d w/\((r=none/\d=none)\/∃j v x,r=some (j,v)/\d=some (j,x)/\ah σ v x)
 |[],ms,i,r,e,h=>by simp[gv] at e;subst e;simp[mL] at h;exact⟨none,by simp[Instr.findAsking],.inl ⟨h.symm,rfl⟩⟩
 |(k',v,b)::es,ms,i,r,e,h=>by
  simp[gv] at e;obtain⟨m,B,rfl,A,p,r3,s⟩:=e;rw[mL] at h
  cases hk:sA (.agg [.str a,.int q n]) k' with
  |none=>simp[hk] at h
  |some z=>
   have f:(Op.equal c u m.key).run P w=.ok z w:=by
    unfold sA at hk;split at hk
    ·simp_all
    ·simp_all
    ·rename_i g;cases g;split at hk
     ·rename_i y;subst y;cases hk;exact Ip (P:=P) (w:=w) 4 c _ _ _ u m.key _ 10000 aa k o A (.inl ⟨_,_,rfl,rfl,l,by simp[lY,sw]⟩)
     ·cases hk
    ·cases hk
   rw[hk] at h
   cases z with
   |true=>simp at h;exact⟨_,by simp[Instr.findAsking,Τ,f,Γ],.inr ⟨i,v,m.val,h.symm,rfl,p⟩⟩
   |false=>simp only at h;obtain⟨d,g,t⟩:=U5 o l k es B (i+1) r s h;exact⟨d,by simp[Instr.findAsking,Τ,f,Γ,g],t⟩
def Ir{y}{k}{u}(o:ah σ k u)(c:yj P y k=true){es}{ms}(D:gv σ es ms){r}(h:mL k es 0=some r)(em):
  (Instr.checkKey em 10000 y u).run P w=.ok () w/\∃s,(Instr.findKey y u ms).run P w=.ok s w/\((r=none/\s=none)\/∃j v x,r=some (j,v)/\s=some (j,x)/\ah σ v x):=by
 unfold yj at c
 cases hu:P.underlying y with
 |none=>simp[hu] at c
 |some d=>
  cases d<;>simp[hu] at c
  case int q=>
   cases k<;>simp at c;rename_i Q n;obtain⟨s,t,A⟩:=Ei (d:=.int q) o (.inl ⟨⟨q,rfl⟩,Q,n,rfl⟩) es ms 0 r D h;refine⟨?_,s,by simp[Instr.findKey,eB hu,t],A⟩;simp[ah] at o;subst o;exact Go.MapKept.run_checkKey (n:=9999) hu (by simpa[Go.MapKept.IsKey] using c) em
  case string=>
   cases k<;>simp at c;rename_i l;obtain⟨s,t,A⟩:=Ei (d:=.string) o (.inr ⟨rfl,l,rfl⟩) es ms 0 r D h;refine⟨?_,s,by simp[Instr.findKey,eB hu,t],A⟩;simp[ah] at o;subst o;exact Go.MapKept.run_checkKey (n:=9999) hu (by simp[Go.MapKept.IsKey]) em
  case struct fs=>
   split at c
   ·rename_i a q n;obtain⟨G,z,f,g,rfl,F,K,M,O,B,C⟩:=aeN c;constructor
    ·simp[ah,aw] at o;subst o;have p1:(part f.type #[Value.string ⟨a.toArray⟩,.int q n] 0).run P w=.ok (.string ⟨a.toArray⟩) w:=by simp[part,isAgg,eB B]
     have p2:(part g.type #[Value.string ⟨a.toArray⟩,.int q n] 1).run P w=.ok (.int q n) w:=by simp[part,isAgg,eB C]
     have J:(Instr.checkKey em 9999 f.type (.string ⟨a.toArray⟩)).run P w=.ok () w:=by show(Instr.checkKey em (9998+1) f.type _).run P w=_;rw[Instr.checkKey];simp[eB B]
     have T:(Instr.checkKey em 9999 g.type (.int q n)).run P w=.ok () w:=by show(Instr.checkKey em (9998+1) g.type _).run P w=_;rw[Instr.checkKey];simp[eB C]
     show(Instr.checkKey em (9999+1) y _).run P w=_;rw[Instr.checkKey];simp[eB hu,F,K,M,O,Τ,Γ,p1,p2,J,T]
    ·obtain⟨s,t,A⟩:=U5 (w:=w) o G z es ms 0 r D h;refine⟨s,?_,A⟩
     cases ms with
     |nil=>
      have:s=none:=by simp[Instr.findAsking] at t;exact t.symm
      subst this;simp[Instr.findKey,eB hu,Instr.findNow]
     |cons m ms=>simp[Instr.findKey,eB hu,Instr.findNow,Instr.sameNow,t]
   ·cases c
  case array n el=>
   cases k<;>simp only[τ] at c;rename_i cs;simp only[ap2,aEh] at c;obtain⟨⟨⟨hn,E⟩,I⟩,Km⟩:=c
   obtain⟨q,z⟩:∃q,P.underlying el=some (.int q):=by
    split at E
    ·rename_i q z;exact⟨q,z⟩
    ·cases E
   simp[ah] at o;obtain⟨us,rfl,N⟩:=o;have hl:=N.length;constructor
   ·show(Instr.checkKey em (9999+1) y (.agg us.toArray)).run P w=_;rw[Instr.checkKey];simp only[Τ,eB hu,Γ];simp only[Std.Legacy.Range.forIn_eq_forIn_range',Std.Legacy.Range.size,Nat.sub_zero,aE1,Nat.div_one];have p:∀i∈List.range' 0 n,i<n:=λi hi=>by simpa using hi
    generalize List.range' 0 n=is at p
    induction is with
    |nil=>simp
    |cons j is ih=>
     have hj:=p j ai;have S:j<us.length:=aa;have R:(isAgg el).run P w=.ok false w:=by simp[isAgg,eB z]
     have p1:(part el us.toArray (j*1)).run P w=.ok us[j] w:=by simp[part,R,S]
     have p2:(Instr.checkKey em 9999 el us[j]).run P w=.ok () w:=by show(Instr.checkKey em (9998+1) el us[j]).run P w=_;rw[Instr.checkKey];simp[eB z]
     simp only[List.forIn_cons,Τ,tv I,Γ,p1,p2,atG];exact ih λi hi=>p i (by simp[hi])
   ·cases es with
    |nil=>simp[gv] at D;subst D;simp[mL] at h;exact⟨none,by simp[Instr.findKey,eB hu,Instr.findNow],.inl ⟨h.symm,rfl⟩⟩
    |cons e es=>
     obtain⟨L,v,b⟩:=e;have H:sA (.agg cs) L=none:=by unfold sA;split<;>simp_all [abM]
     simp[mL,H] at h
def aeO(D:aW P B W0 H σ w){t:TypeId}{m k:AV}{r e:Value}{ok:Bool}{v:AV}(p:ah σ m r)(i:ah σ k e)(h:wo P H t m k ok=some v):
  qy P σ w v (do pure (.value (<-Instr.lookup t r e ok))):=by
 unfold wo at h;split at h
 ·rename_i id;split at h
  ·rename_i es clock hg;split at h
   ·rename_i kt et y;split at h
    ·rename_i g;have o:=MM y;obtain⟨b,ms,hb,_,l,n,_⟩:=D.obj id _ hg;simp[ah] at p;obtain⟨b',q,rfl⟩:=p;rw[hb] at q;cases q;split at h
     ·rename_i j v1 d;obtain⟨k1,f,k2,c⟩:=Ir (w:=w) i g n d (em:=ms.isEmpty);obtain⟨j',v',x,F,rfl,a⟩:=c.resolve_left ai;cases F;cases h;refine .gM (u:=if ok then .tuple #[x,.bool true] else x) ?_ ?_
      ·simp[Instr.lookup,eB o,aEd l,k1,k2]
      ·cases ok
       ·simpa using a
       ·simp only[aDp,ah];exact⟨[x,.bool true],rfl,aw.eC.2 ⟨_,_,rfl,a,aw.eC.2 ⟨_,_,rfl,by simp[ah],by simp[aw]⟩⟩⟩
     ·rename_i d;obtain⟨k1,f,k2,c⟩:=Ir (w:=w) i g n d (em:=ms.isEmpty)
      have:f=none:=by
       rcases c with⟨_,s⟩|⟨j,v,x,A,_⟩
       ·exact s
       ·simp at A
      subst this;split at h
      ·rename_i z C;obtain⟨x,E,a⟩:=ahI (σ:=σ) (w:=w) C;cases h;refine .gM (u:=if ok then .tuple #[x,.bool false] else x) ?_ ?_
       ·simp[Instr.lookup,eB o,aEd l,k1,k2,E]
       ·cases ok
        ·simpa using a
        ·simp only[aDp,ah];exact⟨[x,.bool false],rfl,aw.eC.2 ⟨_,_,rfl,a,aw.eC.2 ⟨_,_,rfl,by simp[ah],by simp[aw]⟩⟩⟩
      ·cases h
     ·cases h
    ·cases h
   ·cases h
  ·cases h
 ·cases h
def ahJ{as}{us:Array Value}(d:aw σ as us.toList){k g}{a b}(h:as=[.int k a,.int g b]):us=#[.int k a,.int g b]:=by obtain⟨us⟩:=us;subst h;rw[aw.eC] at d;obtain⟨u,dW,e,r,q⟩:=d;rw[aw.eC] at q;obtain⟨u2,Df,i,c,f⟩:=q;rw[aw.pO] at f;simp[ah] at r c;subst f i r c;simp only at e;subst e;rfl
def agz{as}{v}(h:CU as=some v):∃k c a b,as=[.int k a,.int c b]/\v=.int k (if b>a then b else a):=by
 unfold CU at h;split at h
 ·cases h;exact⟨_,_,_,_,rfl,rfl⟩
 ·cases h
def aeq(U:aW P B W0 H σ w)(o:Oper)(l:Operand->AV)(ρ:Operand->Value)(g:∀x∈o.op.operands,ah σ (l x) (ρ x)){v:AV}
  (h:lF P o.op l H=some v):qy P σ w v (execOp ρ o):=by
 obtain⟨dst,op,ty,pos,after,guard⟩:=o;simp only at h g;cases op<;>simp[lF] at h;case move x=>cases h;exact⟨ρ x,rfl,g x (by simp[Op.operands])⟩
 case assign x=>cases h;exact⟨ρ x,rfl,g x (by simp[Op.operands])⟩
 case pick c a b=>
  have rc:=g c (by simp[Op.operands]);have ra:=g a (by simp[Op.operands]);have rb:=g b (by simp[Op.operands])
  cases K:l c with
  |bool t=>simp[K,CC] at h rc;simp[ah] at rc;cases h;refine⟨if t then ρ a else ρ b,by cases t<;>simp[execOp,rc,asBool],?_⟩;cases t<;>simpa
  |_=>simp[K,CC] at h
 case load t a=>exact VG U (g a (by simp[Op.operands])) h
 case fieldAddr s x f=>exact aef (g x (by simp[Op.operands])) h
 case indexAddr t x i=>exact aeg (g x (by simp[Op.operands])) (g i (by simp[Op.operands])) h
 case index t x i=>exact afy (g x (by simp[Op.operands])) (g i (by simp[Op.operands])) h
 case binOp op t x y t'=>
  unfold lN at h;split at h
  ·rename_i hb;have j:=g x (by simp[Op.operands]);have J:=g y (by simp[Op.operands]);generalize l x=X at hb j;generalize l y=Y at hb J;unfold Ep at hb;split at hb
   ·simp[ah] at j J;split at h
    ·rename_i K;obtain⟨Q,M⟩:=K
     obtain⟨ms,Z⟩:∃ms,P.underlying t=some (.interface ms):=by
      unfold Il at M;split at M
      ·rename_i e he;exact⟨e,he⟩
      ·cases M
     have T:(x matches .const _)||(y matches .const _):=by
      simp only[aD7] at Q⊢;rcases Q with D|D
      ·left;cases x<;>simp[xR] at D⊢
      ·right;cases y<;>simp[xR] at D⊢
     have hg:(eqGuard op t x y .nilIface .nilIface).run P w=.ok () w:=by
      simp only[aD7] at T;rcases T with D|D
      ·cases op<;>cases x<;>simp at D<;>simp[eqGuard]
      ·cases op<;>cases y<;>simp at D<;>cases x<;>simp[eqGuard]
     have C:∀d,(Op.equalIn (d+1) t .nilIface .nilIface).run P w=.ok true w:=λd=>by simp[Op.equalIn,eB Z]
     have C:=C 9999;rcases uJ h with⟨rfl,rfl⟩|⟨rfl,rfl⟩
     ·exact .gM (u:=.bool true) (by rw[j,J];simp[Τ,hg,Γ,binOp,Op.equal,Op.maxDepth];simp[C]) (by simp[ah])
     ·exact .gM (u:=.bool false) (by rw[j,J];simp[Τ,hg,Γ,binOp,Op.equal,Op.maxDepth];simp[C]) (by simp[ah])
    ·cases h
   ·cases hb
  ·exact ak0 (g x (by simp[Op.operands])) (g y (by simp[Op.operands])) h
 case unOp op t x=>
  have j:=g x (by simp[Op.operands]);generalize l x=y at h j;unfold xj at h;split at h
  ·rename_i b;simp[ah] at j;cases h;exact⟨.bool (!b),by simp[execOp,j,Op.unary],by simp[ah]⟩
  ·rename_i k n;simp[ah] at j;cases h;exact⟨.int k (k.wrap (0-n)),by simp[execOp,j,Op.unary,Op.intArith],by simp[ah]⟩
  ·cases h
 case convert s d x=>
  have j:=g x (by simp[Op.operands]);generalize l x=y at h j;unfold rB at h;split at h
  ·rename_i k n;simp[ah] at j;split at h
   ·rename_i S;split at h
    ·rename_i L V;cases h
     obtain⟨ds,W⟩:∃ds,P.underlying s=some ds:=by
      unfold cu at S
      cases A:P.underlying s with
      |none=>simp[A] at S
      |some ds=>exact⟨ds,rfl⟩
     exact⟨.int L (L.wrap n),by simp[execOp,Go.convert,j,eB (agv V),eB W,Conv.intToInt],by simp[ah]⟩
    ·cases h
   ·cases h
  ·cases h
 case extract x i=>
  have j:=g x (by simp[Op.operands]);generalize l x=y at h j;unfold iz at h;split at h
  ·simp[ah] at j;obtain⟨us,e,r⟩:=j;obtain⟨u,A,N⟩:=r.get h;exact⟨u,by simp[execOp,e,Instr.extract,A],N⟩
  ·cases h
 case build t parts=>
  refine afz (us:=parts.map λ(i,x)=>(i,ρ x)) ai ?_ h;intro i p u R A;simp only[aDC] at R;simp only[aFn,aDC] at A;obtain⟨q,C,rfl⟩:=aDy.1 R;rw[C] at A;simp at A;subst A;refine g q.2 ?_;simp only[Op.operands];have:q∈parts.toList:=Β C;simp;exact⟨q.1,by simpa using this⟩
 case slice t x lo hi mx=>
  cases mx with
  |some m=>cases h
  |none=>
   simp only at h;refine afB (g x (by simp[Op.operands])) ?_ ai ?_ ai h
   ·intro a z E F
    cases lo with
    |none=>simp at E
    |some y=>simp at E F;subst E F;exact g y (by simp[Op.operands])
   ·intro a z E F
    cases hi with
    |none=>simp at E
    |some y=>simp at E F;subst E F;exact g y (by simp[Op.operands])
 case field t x f=>exact afC (g x (by simp[Op.operands])) h
 case lookup t m k ok=>exact aeO U (g m (by simp[Op.operands])) (g k (by simp[Op.operands])) h
 case makeFunc f first cap=>
  cases h;refine⟨.func f (first.map ρ) (cap.map ρ),rfl,?_⟩
  simp[ah];refine⟨first.toList.map ρ,cap.toList.map ρ,by simp[<-Array.toList_map],?_,?_⟩
  ·exact aw.map _ _ _ λx G=>g x (by simp[Op.operands];exact .inl (by simpa using G))
  ·exact aw.map _ _ _ λx G=>g x (by simp[Op.operands];exact .inr (by simpa using G))
 case nilCheck x=>
  have j:=g x (by simp[Op.operands]);generalize l x=y at h j;unfold BJ at h;split at h
  ·cases h;have I:=j;simp[ah] at j;obtain⟨b,hb,e⟩:=j;exact⟨ρ x,by simp[execOp,e],I⟩
  ·cases h;have I:=j;simp[ah] at j;obtain⟨b,o,e,_⟩:=j;exact⟨ρ x,by simp[execOp,e],I⟩
  ·cases h;have I:=j;simp[ah] at j;obtain⟨us,vs,e,_⟩:=j;exact⟨ρ x,by simp[execOp,e],I⟩
  ·cases h
 case call c=>
  cases pT:c.callee with
  |builtin b=>
   have O:aw σ (c.args.toList.map l) (c.args.map ρ).toList:=by simp[aFn];exact aw.map _ _ _ λx G=>g x (by simp[Op.operands,Call.operands,pT];exact by simpa using G)
   simp[pT] at h;cases b<;>simp at h
   case len=>
    have:=Ww (P:=P) (w:=w) (ty:=ty) O h;obtain⟨u,A,N⟩:=this;exact⟨u,by simpa[execOp,resolve,pT,invoke,builtin] using A,N⟩
   case max=>
    obtain⟨k,L,a,b,e,rfl⟩:=agz h;exact⟨.int k (if b>a then b else a),by simp[execOp,resolve,pT,invoke,builtin,ahJ O e,Builtin.max_,Builtin.max2],by simp[ah]⟩
  |_=>simp[pT] at h
end
end Go.Ab
