/- LintFinds: part 1 of its proof. -/
import Derived.WalkKit
import Derived.Orders
import Derived.Below
import Derived.Lib.FieldsLaws
import Derived.Lib.DecodeN
import Derived.MapKept
import Derived.KernelRfl
set_option linter.all false
namespace Go
abbrev aE0:=@List.find?_cons
abbrev aE1:=@Option.getD_some
abbrev aE2:=@List.mem_of_find?_eq_some
abbrev aE3:=@List.length_pos_iff
abbrev aE4:=@List.eq_nil_of_length_eq_zero
abbrev aE5:=@Int.toNat_natCast
abbrev aE6:=@List.length_singleton
abbrev aE7:=@Bool.eq_iff_iff
abbrev aE8:=@List.mem_singleton
abbrev aE9:=@List.cons_append
abbrev aEA:=@of_decide_eq_false
abbrev aEB:=@List.all_cons
abbrev aEC:=@Go.IntWalk.i64_in
abbrev aED:=@List.drop_eq_nil_iff
abbrev aEE:=@Array.getElem?_eq_getElem
abbrev aEF:=@Nat.zero_add
abbrev aEG:=@List.getElem?_of_mem
abbrev aEH:=@List.length_take
abbrev aEI:=@List.mem_map
abbrev aEJ:=@List.cons.inj
abbrev aEK:=@List.pairwise_cons
abbrev aEL:=@Array.getElem?_setIfInBounds_ne
abbrev aEM:=@Nat.add_mul
abbrev aEN:=@List.map_congr_left
abbrev aEO:=@Bool.true_or
abbrev aEP:=@Option.some.inj
abbrev aEQ:=@List.drop_zero
abbrev aER:=@List.mem_range
abbrev aES:=@Prod.mk.injEq
abbrev aET:=@Nat.le_of_not_lt
abbrev aEU:=@List.filter_cons
abbrev aEV:=@Array.all_eq_true_iff_forall_mem
abbrev aEW:=@not_false_eq_true
abbrev aEX:=@List.getElem?_cons_succ
abbrev aEY:=@Option.ne_none_iff_exists'
abbrev aEZ:=@Array.getElem?_append_left
abbrev aEf:=@Option.isSome_some
abbrev aEg:=@Nat.le_succ
abbrev aEh:=@List.getElem?_eq_none
abbrev aEi:=@List.all_eq_true
abbrev aEj:=@Option.map_eq_some_iff
abbrev aEk:=@List.drop_of_length_le
abbrev aEl:=@if_true
abbrev aEm:=@Array.getElem?_toList
abbrev aEn:=@decide_eq_true_eq
abbrev aEo:=@List.mem_append
abbrev aEp:=@beq_eq_false_iff_ne
abbrev aEq:=@Nat.mul_le_mul_right
abbrev aEr:=@of_decide_eq_true
abbrev aEs:=@List.contains_iff_mem
abbrev aEt:=@List.getElem?_map
abbrev aEu:=@Nat.lt_irrefl
abbrev aEv:=@List.map_cons
abbrev aEw:=@List.size_toArray
abbrev aEx:=@Array.length_toList
abbrev aEy:=@List.length_set
abbrev aEz:=@List.getElem?_drop
abbrev aF0:=@Bool.or_true
abbrev aF1:=@Array.mapM_eq_mapM_toList
abbrev aF2:=@List.pairwise_iff_getElem
abbrev aF3:=@Nat.add_one_sub_one
abbrev aF4:=@Int.toNat_of_nonneg
abbrev aF5:=@List.append_toArray
abbrev aF6:=@Bool.true_and
abbrev aF7:=@List.map_append
abbrev aF8:=@List.nodup_cons
abbrev aF9:=@Array.ext'
abbrev aFA:=@List.length_reverse
abbrev aFB:=@List.take_zero
abbrev aFC:=@List.eq_nil_iff_forall_not_mem
abbrev aFD:=@decide_eq_false_iff_not
abbrev aFE:=@Nat.le_max_right
abbrev aFF:=@List.isEmpty_nil
abbrev aFG:=@Nat.add_zero
abbrev aFH:=@Array.getElem?_eq_none
abbrev aFI:=@Nat.sub_self
abbrev aFJ:=@Option.map_some
abbrev aFK:=@Nat.le_max_left
abbrev aFL:=@List.singleton_append
abbrev aFM:=@List.getElem?_toArray
abbrev aFN:=@Array.getElem?_modify
abbrev aFO:=@List.dropWhile_suffix
abbrev aFP:=@List.takeWhile_prefix
abbrev aFQ:=@List.perm_append_comm
abbrev aFR:=@Classical.choose_spec
abbrev aFS:=@List.pairwise_reverse
abbrev aFT:=@Array.getD_eq_getD_getElem?
abbrev aFU:=@Go.size_zeroCells
abbrev aFV:=@Go.wp_loop_rounds
abbrev aFW:=@List.exists_cons_of_ne_nil
abbrev aFX:=@Array.replicate_succ
abbrev aFY:=@Array.replicate_zero
abbrev aFZ:=@Go.mem_ready
abbrev aFa:=@List.take_succ_cons
abbrev aFb:=@List.drop_succ_cons
abbrev aFc:=@Nat.zero_le
abbrev aFd:=@Go.rounds_succ
abbrev aFe:=@Go.MapKept.run_getObj_map
abbrev aFf:=@Array.mem_of_getElem?
abbrev aFg:=@List.all_nil
abbrev aFh:=@List.mem_of_mem_drop
abbrev aFi:=@List.getElem?_cons_zero
abbrev aFj:=@Nat.lt_trichotomy
abbrev aFk:=@Bool.not_eq_true'
abbrev aFl:=@beq_iff_eq
abbrev aFm:=@Bool.or_eq_true
abbrev aFn:=@List.dropWhile_cons
abbrev aFo:=@List.takeWhile_cons
abbrev aFp:=@Nat.add_comm
abbrev aFq:=@List.take_of_length_le
abbrev aFr:=@Bool.false_or
abbrev aFs:=@Go.grownCap_le_maxLen
abbrev aFt:=@List.mem_filter
abbrev aFu:=@UInt8.toNat_inj
abbrev aFv:=@Nat.lt_or_ge
abbrev aFw:=@Ne.symm
abbrev aFx:=@List.mem_append_left
abbrev aFy:=@List.map_nil
abbrev aFz:=@Nat.add_assoc
abbrev aGA:=@List.flatMap_append
abbrev aGB:=@List.mergeSort_perm
abbrev aGC:=@List.map_map
abbrev aGD:=@Go.growslice_fits
abbrev aGE:=@Nat.pos_of_ne_zero
abbrev aGF:=@List.mem_filterMap
abbrev aGG:=@and_self
abbrev aGH:=@Nat.add_sub_cancel
abbrev aGI:=@List.drop_left
abbrev aGJ:=@List.take_left
abbrev aGK:=@Go.run_storeCells_at
abbrev aGL:=@Nat.one_mul
abbrev aGM:=@Nat.mul_add
abbrev aGN:=@Nat.lt_succ_of_lt
abbrev aGO:=@UInt8.ofNat_toNat
abbrev aGP:=@Array.mem_append
abbrev aGQ:=@List.nil_sublist
abbrev aGR:=@Option.getD_none
abbrev aGS:=@Nat.zero_mul
abbrev aGa:=@Array.any_eq_true'
abbrev aGb:=@Nat.add_sub_cancel_left
abbrev aGc:=@List.set_eq_take_append_cons_drop
abbrev aGd:=@List.findIdx?_eq_some_iff_getElem
abbrev aGe:=@Go.setRow_other
abbrev aGf:=@Array.size_append
abbrev aGg:=@Nat.mul_comm
abbrev aGh:=@true_and
abbrev aGi:=@Bool.false_and
abbrev aGj:=@List.getLast?_nil
abbrev aGk:=@List.push_toArray
abbrev aGl:=@List.head?_eq_getElem?
abbrev aGm:=@List.takeWhile_append_dropWhile
abbrev aGn:=@Bool.and_eq_false_iff
abbrev aGo:=@Bool.beq_eq_decide_eq
abbrev aGp:=@List.set_append_right
abbrev aGq:=@List.length_mergeSort
abbrev aGr:=@Array.toList_map
abbrev aGs:=@List.isEmpty_iff
abbrev aGt:=@List.take_length
abbrev aGu:=@Go.IntKind.wrap_u64
abbrev aGv:=@Go.wp_mono
abbrev aGw:=@eq_false
abbrev aGx:=@List.mem_of_mem_take
abbrev aGy:=@Go.grownCap_ge
abbrev aGz:=@Go.Oper.upon_value
abbrev adv:=@List.length_drop
abbrev agX:=@List.flatMap_cons
abbrev ap1:=@if_false
abbrev ap2:=@Option.isNone_some
abbrev as1:=@Go.Sem.run_pure
abbrev atB:=@Nat.le_trans
abbrev atI:=@List.getElem?_append_left
abbrev Α:=@Array.getElem?_eq_some_iff
abbrev Β:=@Option.isSome_none
abbrev Γ:=@List.length_cons
abbrev Δ:=@List.mem_of_getElem?
abbrev Ε:=@Go.Result.andThen_ok
abbrev Ζ:=@Option.some.injEq
abbrev Η:=@List.append_nil
abbrev Θ:=@List.length_map
abbrev Ι:=@congrArg
abbrev Κ:=@List.mem_cons_of_mem
abbrev Λ:=@List.append_assoc
abbrev Μ:=@List.drop_eq_getElem_cons
abbrev Ν:=@List.getElem?_eq_getElem
abbrev Ξ:=@List.length_eq_zero_iff
abbrev Ο:=@List.nil_append
abbrev Ρ:=@List.mem_cons_self
abbrev Τ:=@List.getElem?_take_of_lt
abbrev Υ:=@List.mem_cons
abbrev Φ:=@Go.Sem.run_bind
abbrev Χ:=@List.length_nil
abbrev Ψ:=@List.getElem?_append_right
abbrev Ω:=@Bool.and_eq_true
abbrev κ:=@if_neg
abbrev μ:=@if_pos
abbrev ν:=@Nat.le_refl
abbrev ξ:=@decide_eq_false
abbrev ο:=@eq_true
abbrev π:=@decide_eq_true
abbrev τ:=@List.length_append
abbrev υ:=@Bool.false_eq_true
abbrev φ:=@List.getElem?_eq_some_iff
abbrev χ:=@Bool.not_false
abbrev ψ:=@Option.isNone_none
abbrev ω:=@Bool.not_true
end Go
namespace Go
def aa{p:Prop}(h:p:=by omega):p:=h
def af{p:Prop}(h:p:=by kernel_rfl):p:=h
def aA{p:Prop}(h:p:=by decide):p:=h
def ah{p:Prop}(h:p:=by simp):p:=h
def aP{p:Prop}(h:p:=by simp;omega):p:=h
def aI{p:Prop}(h:p:=by first|trivial|rfl):p:=h
def dV{p:Prop}(h:p:=by first|omega|(simp only;omega)):p:=h
abbrev Value.i(n:Int):Value:=.int .i64 n
end Go
namespace Go.Ab
open Go
inductive Own where
 |ro
 |nil
  |full
 |own (k:Nat)
inductive AV where
 |ts
 |any
 |int (k:IntKind) (n:Int)
 |bool (b:Bool)
 |str (l:List UInt8)
 |agg (cs:List AV)
 |tup (cs:List AV)
 |vec (o:Own) (es:List AV)
 |ptr (id off:Nat)
 |rptr (cs:List AV)
 |fn (f:Fn) (first cap:List AV)
 |iface (t:TypeId) (v:AV)
 |val (v:Value)
  |sl (id s off len:Nat)
 |map (id:Nat)
 deriving Inhabited
def bf(p:Prop)(h:p:=by omega):p=True:=ο h
def dJ(p:Prop)(h:¬p:=by omega):p=False:=aGw h
def bH(p:Prop)[Decidable p](h:p:=by omega):decide p=true:=π h
def bU(p:Prop)[Decidable p](h:¬p:=by omega):decide p=false:=ξ h
def S0(n:Int)(h: -9223372036854775808<=n/\n<=9223372036854775807:=by omega):IntKind.i64.wrap n=n:=aEC n h
def gK(n m:Int)(h:(-9223372036854775808<=n/\n<=9223372036854775807)/\n=m:=by omega):IntKind.i64.wrap n=m:=h.2▸S0 n h.1
def xD{α:Sort _}{c:Prop}[Decidable c]{t e:α}(h:c:=by omega):ite c t e=t:=μ h
def bM{α:Sort _}{c:Prop}[Decidable c]{t e:α}(h:¬c:=by omega):ite c t e=e:=κ h
abbrev AV.i(n:Int):AV:=.int .i64 n
def AV.cells:AV->List AV
 | .agg cs=>cs
 |v=>[v]
def AV.width:AV->Option Nat
 | .ts=>none
 | .agg cs=>some cs.length
 | .tup _=>none
 | .val v=>if v.oneCell' then some 1 else none
 |_=>some 1
def AV.one:AV->Bool
 | .ts| .agg _| .tup _=>false
 | .val v=>v.oneCell'
 |_=>true
def Own.bare:Own->Own
 | .own _=>.ro
 | .full=>.ro
 |o=>o
def AV.bare:AV->AV
 | .vec o es=>.vec o.bare es
 |v=>v
def AV.erase:AV->AV
 | .agg cs=>.agg (cs.map AV.bare)
 | .tup cs=>.tup (cs.map λc=>match c with| .agg ds=>.agg (ds.map AV.bare)|c=>c.bare)
 |v=>v.bare
def ix:Value->AV
 | .int k n=>.int k n
 | .bool b=>.bool b
 | .string s=>.str s.data.toList
 | .slice none 0 0=>.vec .nil []
 |v=>.val v
def mX:Value->AV
 | .agg cs=>.agg (cs.toList.map ix)
 |v=>ix v
inductive bB where
 |cells (te:Option TypeId) (cs:List AV)
  |bQ (n:Nat) (et:TypeId)
  |row (n:Nat) (et:TypeId) (s:Nat) (cs:List AV)
  |map (es:List (AV×AV×Nat)) (clock:Nat)
abbrev bB.c(t:Option TypeId)(l:List AV):bB:=.cells t l
abbrev bB.k(t:TypeId)(l:List AV):bB:=.cells (some t) l
abbrev bB.z(l:List AV):bB:=.cells none l
structure ab where
 next:Nat
 jo:List (Nat×bB)
def cg:List (Nat×bB)->Nat->Option bB
 |[],_=>none
 |(k,x)::r,id=>if k=id then some x else cg r id
def aH:List (Nat×bB)->Nat->bB->List (Nat×bB)
 |[],_,_=>[]
 |(k,x)::r,id,y=>if k=id then(k,y)::r else(k,x)::aH r id y
def ze:List (Nat×bB)->Nat->List (Nat×bB)
 |[],_=>[]
 |(k,x)::r,id=>if k=id then ze r id else(k,x)::ze r id
def ab.del(H:ab)(id:Nat):ab:={H with jo:=ze H.jo id}
def ab.get(H:ab)(id:Nat):Option bB:=if id<H.next then cg H.jo id else none
def ab.set(H:ab)(id:Nat)(x:bB):ab:={H with jo:=aH H.jo id x}
def ab.push(H:ab)(x:bB):ab:={next:=H.next+1,jo:=(H.next,x)::H.jo}
def ab.empty:ab:={next:=0,jo:=[]}
def rL:TypeDesc->Bool
 | .struct _=>true
 | .array .. =>true
 |_=>false
def bX(P:Program)(t:TypeId):Option Nat:=(P.info? t).map (·.size)
def jS(P:Program)(t:TypeId):Option Nat:=(P.info? t).map (·.bytes)
def cv(P:Program)(t:TypeId):Option Bool:=(P.underlying t).map rL
def fk(P:Program)(t:TypeId):Option TypeId:=match P.underlying t with|some (.slice e)=>some e|_=>none
def yF(P:Program)(t:TypeId):Bool:=match P.underlying t with|some .string=>true|_=>false
def gY(P:Program)(t:TypeId):Option (List (Nat×TypeId)):=match P.underlying t with|some (.struct fs)=>some (fs.toList.map λf=>(f.offset,f.type))|_=>none
def jl(P:Program)(t:TypeId):Option (List (Nat×Nat)):=match P.underlying t with
 |some (.struct fs)=>fs.toList.mapM (λf=>(P.info? f.type).map λi=>(f.offset,i.size))
 |some (.array n el)=>(P.info? el).map λi=>(List.range n).map λj=>(j*i.size,i.size)
 |_=>none
def dz(P:Program)(t:TypeId):Option (List AV):=match P.info? t with|some i=>i.zero.map λv=>v.cells.toList.map ix|_=>none
def Dp(P:Program)(t:TypeId):Option (TypeId×TypeId):=match P.underlying t with|some (.map k e)=>some (k,e)|_=>none
def zeroV(P:Program)(t:TypeId):Option AV:=match P.info? t with|some i=>i.zero.map mX|_=>none
def adt(P:Program)(t:TypeId):Option (Nat×TypeId):=match P.underlying t with|some (.array n el)=>some (n,el)|_=>none
def FZ(P:Program)(t:TypeId):Option IntKind:=match P.underlying t with|some (.int k)=>some k|_=>none
def iP(P:Program)(t:TypeId)(cs:List AV)(off:Nat):Option AV:=
 match cv P t with
 |some true=>
  match bX P t with
  |some n=>if off+n<=cs.length then some (.agg ((cs.drop off).take n)) else none
  |none=>none
 |some false=>cs[off]?
 |none=>none
def rM(op:BinOp)(k:IntKind)(a b:Int):Option AV:=
 match op with
 | .add=>some (.int k (k.wrap (a+b)))
 | .sub=>some (.int k (k.wrap (a-b)))
 | .mul=>some (.int k (k.wrap (a*b)))
 | .quo=>if b=0 then none else some (.int k (k.wrap (a.tdiv b)))
 | .rem=>if b=0 then none else some (.int k (a.tmod b))
 | .eql=>some (.bool (a==b))
 | .neq=>some (.bool (a != b))
 | .lss=>some (.bool (decide (a<b)))
 | .leq=>some (.bool (decide (a<=b)))
 | .gtr=>some (.bool (decide (a>b)))
 | .geq=>some (.bool (decide (a≥b)))
 |_=>none
def jM(op:BinOp)(x y:List UInt8):Option AV:=
 match op with
 | .add=>if x.length+y.length<=9223372036854775807 then some (.str (x++y)) else none
 | .eql=>some (.bool (x==y))
 | .neq=>some (.bool (!(x==y)))
 | .lss=>some (.bool (Op.bytesLess x y))
 | .leq=>some (.bool (Op.bytesLess x y||x==y))
 | .gtr=>some (.bool (!(Op.bytesLess x y||x==y)))
 | .geq=>some (.bool (!Op.bytesLess x y))
 |_=>none
inductive EK where
 |int
 |bool
 |str
def Dq(P:Program)(g:TypeId->Option (List EK)):Nat->List Field->Option (List EK)
 |_,[]=>some []
 |off,f::fs=>
  if f.name= "_" \/f.offset≠off then none else
  match g f.type with
  |some ks=>if bX P f.type=some ks.length/\ks.length≠0/\(cv P f.type=some true\/(cv P f.type=some false/\ks.length=1)) then
    match Dq P g (off+ks.length) fs with
    |some r=>some (ks++r)
    |none=>none
   else none
  |none=>none
def xE(P:Program):Nat->TypeId->Option (List EK)
 |0,_=>none
 |d+1,t=>
  match P.underlying t with
  |some .bool=>some [.bool]
  |some (.int _)=>some [.int]
  |some .string=>some [.str]
  |some (.struct fs)=>if P.stoodInHeld t=true\/P.eqGuardType P.depth t=true then none else Dq P (xE P d) 0 fs.toList
  |_=>none
def yG:EK->AV->AV->Option Bool
 | .int,.int k a,.int c b=>if k=c then some (a==b) else none
 | .bool,.bool a,.bool b=>some (a==b)
 | .str,.str a,.str b=>some (a==b)
 |_,_,_=>none
def ot:List EK->List AV->List AV->Option Bool
 |[],[],[]=>some true
 |k::ks,x::xs,y::a=>
  match yG k x y with
  |some b=>match ot ks xs a with
   |some r=>some (b&&r)
   |none=>none
  |none=>none
 |_,_,_=>none
def C5(op:BinOp)(r:Option Bool):Option AV:=
 match op with
 | .eql=>match r with|some b=>some (.bool b)|none=>none
 | .neq=>match r with|some b=>some (.bool (!b))|none=>none
 |_=>none
def qD(op:BinOp)(b:Bool):Option AV:=
 match op with
 | .eql=>some (.bool b)
 | .neq=>some (.bool (!b))
 |_=>none
def Ba(P:Program)(t:TypeId):Bool:=match P.underlying t with|some (.pointer _)=>true|_=>false
def Jd(P:Program)(t:TypeId):Bool:=match P.underlying t with|some (.interface _)=>true|_=>false
def acu(P:Program)(t:TypeId):Bool:=match P.underlying t with|some (.func _ _ _)=>true|_=>false
def yu(P:Program)(t:TypeId):Bool:=match P.underlying t with|some (.slice _)=>true|_=>false
def Je(op:BinOp)(k:IntKind)(a b:Int):Option AV:=
 if b<0 then none else
 match op with
 | .shl=>some (.int k (k.wrap (a*2^min b.toNat k.bits)))
 | .shr=>some (.int k (a.fdiv (2^min b.toNat k.bits)))
 |_=>none
def F0:Value->Bool
 | .slice (some _) 0 _=>true
 |_=>false
def pQ:BinOp->Bool
 | .shl=>true
 | .shr=>true
 |_=>false
def fH(P:Program)(op:BinOp)(t:TypeId)(x y:AV):Option AV:=
 match x,y with
 | .int k a,.int c b=>if pQ op=true then Je op k a b else if k=c then rM op k a b else none
 | .str a,.str b=>jM op a b
 | .bool a,.bool b=>if cv P t=some false then match xE P 4 t with|some [.bool]=>C5 op (some (a==b))|_=>none else none
 | .agg xs,.agg d=>if cv P t=some true then match xE P 4 t with|some ks=>C5 op (ot ks xs d)|none=>none else none
 | .ptr _ _,.val (.pointer none)=>if Ba P t=true then qD op false else none
 | .rptr _,.val (.pointer none)=>if Ba P t=true then qD op false else none
 | .val (.pointer none),.val (.pointer none)=>if Ba P t=true then qD op true else none
 | .iface _ _,.val .nilIface=>if Jd P t=true then qD op false else none
 | .fn _ _ _,.val .nilFunc=>if acu P t=true then qD op false else none
 | .sl _ _ _ _,.vec .nil []=>if yu P t=true then qD op false else none
 | .vec _ (_::_),.vec .nil []=>if yu P t=true then qD op false else none
 | .vec .nil [],.vec .nil []=>if yu P t=true then qD op true else none
 | .val v,.vec .nil []=>if F0 v=true/\yu P t=true then qD op false else none
 |_,_=>none
def yo:Operand->Bool
 | .const _=>true
 |_=>false
def EY:AV->AV->Bool
 | .val .nilIface,.val .nilIface=>true
 |_,_=>false
def nS(P:Program)(op:BinOp)(t:TypeId)(c:Bool)(x y:AV):Option AV:=
 if EY x y=true then(if c=true/\Jd P t=true then qD op true else none) else fH P op t x y
def eg(cs:List AV)(off:Nat)(a:List AV):List AV:=cs.take off++a++cs.drop (off+a.length)
def aQ(a:Nat->Option (Nat×Nat)):List AV->List (Nat×AV)->Option (List AV)
 |cs,[]=>some cs
 |cs,(i,v)::rest=>
  match a i with
  |none=>none
  |some (off,n)=>if v.width=some n/\off+n<=cs.length then aQ a (eg cs off v.cells) rest else none
def j9(x:Option AV)(d y:Nat):Option Nat:=
 match x with
 |none=>some d
 |some (.int _ i)=>if 0<=i/\i<=(y:Int) then some i.toNat else none
 |some _=>none
def nI(n:Nat)(lo hi:Option AV):Option (Nat×Nat):=
 match j9 hi n n with
 |some h=>match j9 lo 0 h with
  |some l=>some (l,h)
  |none=>none
 |none=>none
def qK(P:Program)(H:ab)(t:TypeId):AV->Option AV
 | .rptr cs=>iP P t cs 0
 | .ptr id off=>match H.get id with|some (.cells _ cs)=>iP P t cs off|some (.row _ _ _ cs)=>iP P t cs off|_=>none
 |_=>none
def bV(P:Program)(s:TypeId)(f:Nat)(a:AV):Option AV:=
 match gY P s with
 |some fs=>match fs[f]? with
  |some (off,b)=>
   if bX P b=some 0\/bX P b=none then none else
   match a with
   | .ptr id o=>some (.ptr id (o+off))
   | .rptr cs=>if off<=cs.length then some (.rptr (cs.drop off)) else none
   |_=>none
  |none=>none
 |none=>none
def dW(P:Program)(t:TypeId):AV->AV->Option AV
 | .vec _ es,.int _ n=>
  if 0<=n then
   match es[n.toNat]? with
   |some e=>match fk P t with
    |some et=>if bX P et=e.width/\bX P et≠none then some (.rptr e.cells) else none
    |none=>none
   |none=>none
  else none
 | .sl id s off len,.int _ n=>
  if 0<=n/\n.toNat<len then
   match fk P t with
   |some et=>if bX P et=some s/\s≠0 then some (.ptr id ((off+n.toNat)*s)) else none
   |none=>none
  else none
 |_,_=>none
def AN(P:Program)(s:TypeId)(f:Nat):AV->Option AV
 | .agg cs=>match gY P s with
  |some fs=>match fs[f]? with
   |some (off,a)=>iP P a cs off
   |none=>none
  |none=>none
 |_=>none
def mI(P:Program)(t:TypeId):AV->AV->Option AV
 | .str l,.int _ n=>if yF P t=true/\0<=n then match l[n.toNat]? with|some b=>some (.int .u8 b.toNat)|none=>none else none
 | .agg cs,.int _ n=>match adt P t with
  |some (len,el)=>if 0<=n/\n<(len:Int)/\cv P el=some false/\bX P el=some 1 then cs[n.toNat]? else none
  |none=>none
 |_,_=>none
def xF:UnOp->AV->Option AV
 | .not,.bool b=>some (.bool (!b))
 | .neg,.int k n=>some (.int k (k.wrap (0-n)))
 |_,_=>none
def rR(P:Program)(a dst:TypeId):AV->Option AV
 | .int _ n=>if cv P a≠none then match FZ P dst with|some k=>some (.int k (k.wrap n))|none=>none else none
 |_=>none
def ij(i:Nat):AV->Option AV
 | .tup l=>l[i]?
 |_=>none
def sU(P:Program)(t:TypeId)(parts:List (Nat×AV)):Option AV:=
 match dz P t,jl P t with
 |some z,some fs=>match aQ (fs[·]?) z parts with|some cs=>some (.agg cs)|none=>none
 |_,_=>none
def ou(P:Program)(t:TypeId)(es:List AV):Bool:=
 match fk P t with
 |some et=>match bX P et with
  |some s=>es.head?.all λe=>e.width==some s
  |none=>false
 |none=>false
def yH:Own->Option AV->Own
 | .nil,none=>.full
 | .full,none=>.full
 |_,_=>.ro
def kg(P:Program)(t:TypeId)(lo hi:Option AV):AV->Option AV
 | .str l=>if yF P t=true then match nI l.length lo hi with|some (a,b)=>some (.str ((l.take b).drop a))|none=>none else none
 | .vec o es=>if ou P t es=true then match nI es.length lo hi with|some (a,b)=>some (.vec (yH o hi) ((es.take b).drop a))|none=>none else none
 | .sl id s off len=>
  match fk P t with
  |some et=>
   if bX P et=some s then
    match nI len lo hi with
    |some (a,b)=>if a=0 then some (.sl id s off b) else if a<b then some (.sl id s (off+a) (b-a)) else some (.vec .ro [])
    |none=>none
   else none
  |none=>none
 |_=>none
def Ca:AV->Option AV
 | .ptr id o=>some (.ptr id o)
 | .rptr cs=>some (.rptr cs)
 | .fn (.func f) first cap=>some (.fn (.func f) first cap)
 |_=>none
def gB(P:Program)(d_:Array TypeId):List AV->Option AV
 |[.str l]=>match d_[0]? with|some t=>if yF P t=true then some (.int .i64 l.length) else none|none=>none
 |[.vec _ es]=>match d_[0]? with|some t=>if fk P t≠none then some (.int .i64 es.length) else none|none=>none
 |[.sl _ _ _ n]=>match d_[0]? with|some t=>if fk P t≠none then some (.int .i64 n) else none|none=>none
 |[.val v]=>match d_[0]? with|some t=>if F0 v=true/\fk P t≠none then some (.int .i64 0) else none|none=>none
 |_=>none
def Dr:List AV->Option AV
 |[.int k a,.int _ b]=>some (.int k (if b>a then b else a))
 |_=>none
def C6(a b:AV):AV->Option AV
 | .bool v=>some (if v then a else b)
 |_=>none
def yI:AV->AV->Option Bool
 | .int k a,.int c b=>if k=c then some (a==b) else none
 | .str a,.str b=>some (a==b)
 |_,_=>none
def rS(k:AV):List (AV×AV×Nat)->Nat->Option (Option (Nat×AV))
 |[],_=>some none
 |(k',v,_)::es,i=>match yI k k' with
  |some true=>some (some (i,v))
  |some false=>rS k es (i+1)
  |none=>none
def AO(P:Program)(a:TypeId)(k:AV):Bool:=
 match P.underlying a with
 |some (.int q)=>match k with| .int b _=>decide (b=q)|_=>false
 |some .string=>match k with| .str _=>true|_=>false
 |some (.array n el)=>match k with
  | .agg cs=>n==cs.length&&(match P.underlying el with|some (.int _)=>true|_=>false)&&bX P el==some 1
  |_=>false
 |_=>false
def Aw(P:Program)(H:ab)(t:TypeId)(m k:AV)(ok:Bool):Option AV:=
 match m with
 | .map id=>match H.get id with
  |some (.map es _)=>match Dp P t with
   |some (a,et)=>if AO P a k=true then
     match rS k es 0 with
     |some (some (_,v))=>some (if ok then .tup [v,.bool true] else v)
     |some none=>match zeroV P et with|some z=>some (if ok then .tup [z,.bool false] else z)|none=>none
     |none=>none
    else none
   |none=>none
  |_=>none
 |_=>none
def lq(P:Program)(o:Op)(ρ:Operand->AV)(H:ab):Option AV:=
 match o with
 | .move x=>some (ρ x)
 | .assign x=>some (ρ x)
 | .pick c a b=>C6 (ρ a) (ρ b) (ρ c)
 | .load t a=>qK P H t (ρ a)
 | .fieldAddr s x f=>bV P s f (ρ x)
 | .indexAddr t x i=>dW P t (ρ x) (ρ i)
 | .index t x i=>mI P t (ρ x) (ρ i)
 | .binOp op t x y _=>nS P op t (yo x||yo y) (ρ x) (ρ y)
 | .unOp op _ x=>xF op (ρ x)
 | .convert src dst x=>rR P src dst (ρ x)
 | .extract x i=>ij i (ρ x)
 | .build t parts=>sU P t (parts.toList.map λp=>(p.1,ρ p.2))
 | .slice t x lo hi mx=>match mx with|none=>kg P t (lo.map ρ) (hi.map ρ) (ρ x)|some _=>none
 | .field t x f=>AN P t f (ρ x)
 | .lookup t m k ok=>Aw P H t (ρ m) (ρ k) ok
 | .makeFunc f first cap=>some (.fn f (first.toList.map ρ) (cap.toList.map ρ))
 | .nilCheck x=>Ca (ρ x)
 | .call c=>
  match c.callee with
  | .builtin .len=>gB P c.argTypes (c.args.toList.map ρ)
  | .builtin .max=>Dr (c.args.toList.map ρ)
  |_=>none
 |_=>none
end Go.Ab
namespace Go.Ab
open Go Go.RowKit
structure St where
 cells:Nat->Nat->Option Value
 loc:Nat->Option Nat
 own:Nat->Nat->Option (Nat×Nat)
structure St.le(σ aS:St):Prop where
 cells:∀b o v,σ.cells b o=some v->aS.cells b o=some v
 loc:∀i b,σ.loc i=some b->aS.loc i=some b
 own:∀k n x,σ.own k n=some x->aS.own k n=some x
def St.le_refl(σ:St):σ.le σ:=⟨λ_ _ _ h=>h,λ_ _ h=>h,λ_ _ _ h=>h⟩
def St.le_trans{a b c:St}(h:a.le b)(k:b.le c):a.le c:=
 ⟨λx y v e=>k.cells x y v (h.cells x y v e),λi x e=>k.loc i x (h.loc i x e),λi n x e=>k.own i n x (h.own i n x e)⟩
def nO(σ:St)(o:Own)(a:Option Addr)(n cap:Nat):Prop:=
 match o with
 | .ro=>True
 | .nil=>a=none/\n=0/\cap=0
 | .full=>cap=n
 | .own k=>∃b,σ.own k n=some (b,cap)/\a=some ⟨b,0,none⟩
mutual
def aj(σ:St):AV->Value->Prop
 | .ts,_=>True
 | .any,u=>u.oneCell'=true
 | .int k n,u=>u=.int k n
 | .bool b,u=>u=.bool b
 | .str l,u=>u=.string ⟨l.toArray⟩
 | .agg cs,u=>∃us:List Value,u=.agg us.toArray/\au σ cs us
 | .tup cs,u=>∃us:List Value,u=.tuple us.toArray/\au σ cs us
 | .vec o es,u=>∃a cap,u=.slice a es.length cap/\es.length<=cap/\nO σ o a es.length cap/\(es=[]\/∃b off s,a=some ⟨b,off,none⟩/\b_ σ b s off es)
 | .ptr id off,u=>∃b,σ.loc id=some b/\u=.pointer (some ⟨b,off,none⟩)
 | .rptr cs,u=>∃b off,u=.pointer (some ⟨b,off,none⟩)/\fe σ b off cs
 | .fn f first cap,u=>∃us vs:List Value,u=.func f us.toArray vs.toArray/\au σ first us/\au σ cap vs
 | .iface t v,u=>∃x,u=.iface t x/\aj σ v x
 | .val v,u=>u=v
 | .sl id s off len,u=>∃b cap,σ.loc id=some b/\σ.own id 0=some (b,cap)/\u=.slice (some ⟨b,off*s,none⟩) len (cap-off)/\off+len<=cap
 | .map id,u=>∃b,σ.loc id=some b/\u=.map (some b)
def au(σ:St):List AV->List Value->Prop
 |[],us=>us=[]
 |c::cs,us=>∃u eG,us=u::eG/\aj σ c u/\au σ cs eG
def fe(σ:St)(b:Nat):Nat->List AV->Prop
 |_,[]=>True
 |off,c::cs=>(∃u,σ.cells b off=some u/\aj σ c u)/\fe σ b (off+1) cs
def b_(σ:St)(b s:Nat):Nat->List AV->Prop
 |_,[]=>True
 |off,e::es=>(∃u,aj σ e u/\u.cells.size=s/\∀j v,u.cells[j]? =some v->σ.cells b (off+j)=some v)/\b_ σ b s (off+s) es
end
def nO.mono{σ aS:St}(h:σ.le aS){o:Own}{a:Option Addr}{n cap:Nat}(k:nO σ o a n cap):nO aS o a n cap:=by
 cases o with
 |ro=>trivial
 |nil=>exact k
 |full=>exact k
 |own k'=>obtain⟨b,e,c⟩:=k;exact⟨b,h.own _ _ _ e,c⟩
mutual
def aj.mono{σ aS:St}(h:σ.le aS):∀(a:AV) (u:Value),aj σ a u->aj aS a u
 | .ts,_,_=>by simp[aj]
 | .any,_,k=>by simpa[aj] using k
 | .int _ _,_,k=>by simpa[aj] using k
 | .bool _,_,k=>by simpa[aj] using k
 | .str _,_,k=>by simpa[aj] using k
 | .agg cs,_,k=>by simp[aj] at k⊢;obtain⟨us,e,r⟩:=k;exact⟨us,e,au.mono h cs us r⟩
 | .tup cs,_,k=>by simp[aj] at k⊢;obtain⟨us,e,r⟩:=k;exact⟨us,e,au.mono h cs us r⟩
 | .vec o es,_,k=>by simp only[aj] at k⊢;obtain⟨a,cap,e,hl,ho,r⟩:=k;refine⟨a,cap,e,hl,ho.mono h,r.imp id ?_⟩;rintro⟨b,off,s,ea,r⟩;exact⟨b,off,s,ea,b_.mono h b s off es r⟩
 | .ptr _ _,_,k=>by simp[aj] at k⊢;obtain⟨b,e,ha⟩:=k;exact⟨b,h.loc _ _ e,ha⟩
 | .rptr cs,_,k=>by simp[aj] at k⊢;obtain⟨b,off,e,r⟩:=k;exact⟨b,off,e,fe.mono h b off cs r⟩
 | .fn _ first cap,_,k=>by
  simp[aj] at k⊢;obtain⟨us,vs,e,r,q⟩:=k;exact⟨us,vs,e,au.mono h first us r,au.mono h cap vs q⟩
 | .iface _ v,_,k=>by simp[aj] at k⊢;obtain⟨x,e,r⟩:=k;exact⟨x,e,aj.mono h v x r⟩
 | .val _,_,k=>by simpa[aj] using k
 | .sl _ _ _ _,_,k=>by simp only[aj] at k⊢;obtain⟨b,cap,e1,e2,e3,e4⟩:=k;exact⟨b,cap,h.loc _ _ e1,h.own _ _ _ e2,e3,e4⟩
 | .map _,_,k=>by simp[aj] at k⊢;obtain⟨b,e1,e2⟩:=k;exact⟨b,h.loc _ _ e1,e2⟩
def au.mono{σ aS:St}(h:σ.le aS):∀(cs:List AV) (us:List Value),au σ cs us->au aS cs us
 |[],_,k=>by simpa[au] using k
 |c::cs,_,k=>by simp[au] at k⊢;obtain⟨u,eG,e,r,q⟩:=k;exact⟨u,eG,e,aj.mono h c u r,au.mono h cs eG q⟩
def fe.mono{σ aS:St}(h:σ.le aS)(b):∀(off:Nat) (cs:List AV),fe σ b off cs->fe aS b off cs
 |_,[],_=>by simp[fe]
 |off,c::cs,k=>by simp[fe] at k⊢;obtain⟨⟨u,e,r⟩,q⟩:=k;exact⟨⟨u,h.cells _ _ _ e,aj.mono h c u r⟩,fe.mono h b (off+1) cs q⟩
def b_.mono{σ aS:St}(h:σ.le aS)(b s):∀(off:Nat) (es:List AV),b_ σ b s off es->b_ aS b s off es
 |_,[],_=>by simp[b_]
 |off,e::es,k=>by simp[b_] at k⊢;obtain⟨⟨u,r,hs,hc⟩,q⟩:=k;exact⟨⟨u,aj.mono h e u r,hs,λj v hj=>h.cells _ _ _ (hc j v hj)⟩,b_.mono h b s (off+s) es q⟩
end
def au.pR{σ}{us}:au σ [] us↔us=[]:=by simp[au]
def au.eC{σ}{c}{cs}{us}:au σ (c::cs) us↔∃u a,us=u::a/\aj σ c u/\au σ cs a:=by simp[au]
def au.length{σ}:∀{cs:List AV} {us:List Value},au σ cs us->us.length=cs.length
 |[],_,h=>by rw[au.pR] at h;subst h;rfl
 |c::cs,_,h=>by rw[au.eC] at h;obtain⟨u,eG,rfl,_,q⟩:=h;simp[au.length q]
def au.get{σ}:∀{cs:List AV} {us:List Value} {i:Nat} {c:AV},au σ cs us->cs[i]? =some c->∃u,us[i]? =some u/\aj σ c u
 |[],_,_,_,_,e=>by simp at e
 |c::cs,us,i,d,h,e=>by
  rw[au.eC] at h;obtain⟨u,eG,rfl,r,q⟩:=h
  cases i with
  |zero=>simp at e;subst e;exact⟨u,ah,r⟩
  |succ i=>simp at e⊢;exact au.get q e
def au.drop{σ}:∀{cs:List AV} {us:List Value} (n:Nat),au σ cs us->au σ (cs.drop n) (us.drop n)
 |[],us,n,h=>by rw[au.pR] at h;subst h;simp[au]
 |c::cs,us,n,h=>by
  cases n with
  |zero=>simpa using h
  |succ n=>rw[au.eC] at h;obtain⟨u,eG,rfl,_,q⟩:=h;simpa using au.drop n q
def au.take{σ}:∀{cs:List AV} {us:List Value} (n:Nat),au σ cs us->au σ (cs.take n) (us.take n)
 |[],us,n,h=>by rw[au.pR] at h;subst h;simp[au]
 |c::cs,us,n,h=>by
  cases n with
  |zero=>simp[au]
  |succ n=>rw[au.eC] at h;obtain⟨u,eG,rfl,r,q⟩:=h;simp;exact au.eC.2 ⟨u,_,rfl,r,au.take n q⟩
def au.append{σ}:∀{cs ds:List AV} {us a:List Value},au σ cs us->au σ ds a->au σ (cs++ds) (us++a)
 |[],_,_,_,h,k=>by rw[au.pR] at h;subst h;simpa using k
 |c::cs,_,_,_,h,k=>by rw[au.eC] at h;obtain⟨u,eG,rfl,r,q⟩:=h;simp;exact au.eC.2 ⟨u,_,rfl,r,au.append q k⟩
def au.map{σ}{α:Type}(f:α->AV)(g:α->Value):∀(l:List α),(∀x∈l,aj σ (f x) (g x))->au σ (l.map f) (l.map g)
 |[],_=>by simp[au]
 |x::l,h=>by simp;exact au.eC.2 ⟨_,_,rfl,h x ah,au.map f g l λy a=>h y (by simp[a])⟩
def aj.cells{σ}:∀{a:AV} {u:Value},aj σ a u->a.width≠none->au σ a.cells u.cells.toList
 | .ts,_,_,e=>absurd rfl e
 | .agg cs,u,h,_=>by simp[aj] at h;obtain⟨us,rfl,r⟩:=h;simpa[AV.cells,Value.cells] using r
 | .any,u,h,_=>by
  have d:u.oneCell'=true:=by simpa[aj] using h
  have:u.cells=#[u]:=by cases u<;>simp[Value.oneCell'] at d<;>rfl
  rw[this];exact au.eC.2 ⟨u,[],rfl,h,by simp[au]⟩
 | .int _ _,u,h,_=>by simp[aj] at h;subst h;simp[AV.cells,Value.cells,au,aj]
 | .bool _,u,h,_=>by simp[aj] at h;subst h;simp[AV.cells,Value.cells,au,aj]
 | .str _,u,h,_=>by simp[aj] at h;subst h;simp[AV.cells,Value.cells,au,aj]
 | .tup _,_,_,e=>absurd rfl e
 | .vec o es,u,h,_=>by have c:=h;simp[aj] at c;obtain⟨a,cap,rfl,_⟩:=c;exact au.eC.2 ⟨_,[],rfl,h,by simp[au]⟩
 | .ptr _ _,u,h,_=>by have c:=h;simp[aj] at c;obtain⟨b,_,rfl⟩:=c;exact au.eC.2 ⟨_,[],rfl,h,by simp[au]⟩
 | .rptr cs,u,h,_=>by have c:=h;simp[aj] at c;obtain⟨b,off,rfl,_⟩:=c;exact au.eC.2 ⟨_,[],rfl,h,by simp[au]⟩
 | .fn _ _ _,u,h,_=>by have c:=h;simp[aj] at c;obtain⟨us,vs,rfl,_⟩:=c;exact au.eC.2 ⟨_,[],rfl,h,by simp[au]⟩
 | .iface _ _,u,h,_=>by have c:=h;simp[aj] at c;obtain⟨x,rfl,_⟩:=c;exact au.eC.2 ⟨_,[],rfl,h,by simp[au]⟩
 | .sl _ _ _ _,u,h,_=>by have c:=h;simp[aj] at c;obtain⟨b,cap,_,_,rfl,_⟩:=c;exact au.eC.2 ⟨_,[],rfl,h,by simp[au]⟩
 | .map _,u,h,_=>by have c:=h;simp[aj] at c;obtain⟨b,_,rfl⟩:=c;exact au.eC.2 ⟨_,[],rfl,h,by simp[au]⟩
 | .val v,u,h,e=>by
  simp[aj] at h;subst h
  have d:u.oneCell'=true:=by
   by_cases d:u.oneCell'=true
   ·exact d
   ·simp[AV.width,d] at e
  have:u.cells=#[u]:=by cases u<;>simp[Value.oneCell'] at d<;>rfl
  rw[this];exact au.eC.2 ⟨u,[],rfl,by simp[aj],by simp[au]⟩
def aX(σ:St)(id:Nat):bB->Option Nat
 | .cells _ _=>σ.loc id
 | .bQ n _=>(σ.own id n).map (·.1)
 | .row _ _ _ _=>σ.loc id
 | .map _ _=>σ.loc id
def gR(σ:St):List (AV×AV×Nat)->List MapEntry->Prop
 |[],ms=>ms=[]
 |(k,v,b)::es,ms=>∃m a,ms=m::a/\aj σ k m.key/\aj σ v m.val/\m.born=b/\gR σ es a
def gR.mono{σ aS:St}(h:σ.le aS):∀{es:List (AV×AV×Nat)} {ms:List MapEntry},gR σ es ms->gR aS es ms
 |[],_,k=>by simpa[gR] using k
 |(k,v,b)::es,ms,q=>by simp[gR] at q⊢;obtain⟨m,g,e,f,a,d,c⟩:=q;exact⟨m,g,e,f.mono h,a.mono h,d,c.mono h⟩
structure gN(B:Nat->Prop)(w w':World):Prop where
 os:w'.os=w.os
 tape:w'.tape=w.tape
 output:w'.output=w.output
 size:w.heap.size<=w'.heap.size
 block:∀k,B k->w'.heap[k]? =w.heap[k]?
def gN.refl(B)(w:World):gN B w w:=⟨rfl,rfl,rfl,ν _,λ_ _=>rfl⟩
def gN.trans{B}{a b c:World}(h:gN B a b)(k:gN B b c):gN B a c:=
 ⟨k.os.trans h.os,k.tape.trans h.tape,k.output.trans h.output,atB h.size k.size,λi hi=>(k.block i hi).trans (h.block i hi)⟩
def gN.mono{A B}{w w':World}(h:gN B w w')(k:∀i,A i->B i):gN A w w':=⟨h.os,h.tape,h.output,h.size,λi hi=>h.block i (k i hi)⟩
def gN.of{B}{n}{w w':World}(h:Below n w w')(k:∀i,B i->i<n):gN B w w':=⟨h.os,h.tape,h.output,h.size,λi hi=>h.block i (k i hi)⟩
def gN.alloc{B}{a w:World}(h:gN B a w)(k:∀i,B i->i<w.heap.size)(o):gN B a (w.alloc o):=
 h.trans ⟨rfl,rfl,rfl,by show w.heap.size<=(w.heap.push o).size;simp,λi hi=>Below.heap_alloc w o i (k i hi)⟩
def gN.drew{B}{a w:World}(h:gN B a w):gN B a w.drew:=h.trans ⟨rfl,rfl,rfl,ν _,λ_ _=>rfl⟩
def uu(P:Program)(B:Nat->Prop)(σ:St)(w:World)(id:Nat):bB->Prop
 | .cells te cs=>∃b c e,σ.loc id=some b/\¬B b/\w.heap[b]? =some (.cells c e (0,0))/\au σ cs c.toList/\(∀o,σ.cells b o=none)/\∀t,te=some t->e=t
 | .bQ n et=>∃b cap c s,σ.own id n=some (b,cap)/\¬B b/\w.heap[b]? =some (.cells c et (0,0))/\bX P et=some s/\c.size=cap*s/\n<=cap/\cap<=maxLen/\(∀o,n*s<=o->σ.cells b o=none)/\
   ∀m,n<m->σ.own id m=none
 | .row n et s cs=>∃b cap c,σ.loc id=some b/\σ.own id 0=some (b,cap)/\¬B b/\w.heap[b]? =some (.cells c et (0,0))/\bX P et=some s/\s≠0/\c.size=cap*s/\n<=cap/\cap<=maxLen/\
   cs.length=n*s/\au σ cs (c.toList.take (n*s))/\(∀v∈c.toList.take (n*s),v.oneCell'=true)/\∀o,σ.cells b o=none
 | .map es clock=>∃b ms,σ.loc id=some b/\¬B b/\w.heap[b]? =some (.map ms clock)/\gR σ es ms.toList/\∀o,σ.cells b o=none
inductive C7 (P:Program):Nat->Nat->(Value->Prop)->Prop where
 |first (g c:Nat):P.globalNamed "unicode/utf8.first" =some g->c<256->C7 P g c (λv=>v=.int .u8 (Lib.firstT c))
 |lo (g i:Nat):P.globalNamed "unicode/utf8.acceptRanges" =some g->i<16->C7 P g (2*i) (λv=>v=.int .u8 (Lib.accLo i))
 |hi (g i:Nat):P.globalNamed "unicode/utf8.acceptRanges" =some g->i<16->C7 P g (2*i+1) (λv=>v=.int .u8 (Lib.accHi i))
 |syn (g:Nat):P.globalNamed "strconv.ErrSyntax" =some g->C7 P g 0 (λv=>v=.nilIface\/∃t p,v=.iface t p)
 |ran (g:Nat):P.globalNamed "strconv.ErrRange" =some g->C7 P g 0 (λv=>v=.nilIface\/∃t p,v=.iface t p)
structure xm(P:Program)(B:Nat->Prop)(W0:World):Prop where
 lt:∀k,B k->k<W0.heap.size
 vY:∀b o p,C7 P b o p->B b/\∃v,W0.cell? ⟨b,o,none⟩=some v/\p v
structure aY(P:Program)(B:Nat->Prop)(W0:World)(H:ab)(σ:St)(w:World):Prop where
 below:gN B W0 w
 base:xm P B W0
 cells:∀b o v,σ.cells b o=some v->w.cell? ⟨b,o,none⟩=some v
 one:∀b o v,σ.cells b o=some v->v.oneCell'=true
 fresh:∀id,H.next<=id->σ.loc id=none/\∀n,σ.own id n=none
 keys:∀id x,H.get id=some x->id<H.next
 obj:∀id x,H.get id=some x->uu P B σ w id x
 inj:∀id gD x x',H.get id=some x->H.get gD=some x'->aX σ id x=aX σ gD x'->id=gD
structure Ext(B:Nat->Prop)(σ aS:St):Prop where
 le:σ.le aS
 old:∀b o,B b->aS.cells b o=σ.cells b o
def Ext.refl(B)(σ:St):Ext B σ σ:=⟨σ.le_refl,λ_ _ _=>rfl⟩
def Ext.trans{B}{a b c:St}(h:Ext B a b)(k:Ext B b c):Ext B a c:=⟨St.le_trans h.le k.le,λx o d=>(k.old x o d).trans (h.old x o d)⟩
def fe.get{σ:St}{b}:∀{off:Nat} {cs:List AV},fe σ b off cs->∀j c,cs[j]? =some c->∃u,σ.cells b (off+j)=some u/\aj σ c u
 |_,[],_,j,c,e=>by simp at e
 |off,d::ds,h,j,c,e=>by
  simp[fe] at h
  cases j with
  |zero=>simp at e;subst e;simpa using h.1
  |succ j=>simp at e;have:=fe.get h.2 j c e;simpa[aFz,aFp 1 j] using this
def fe.list{σ:St}{b}:∀{off:Nat} {cs:List AV},fe σ b off cs->∃us:List Value,au σ cs us/\∀j v,us[j]? =some v->σ.cells b (off+j)=some v
 |_,[],_=>⟨[],by simp[au],ah⟩
 |off,d::ds,h=>by
  simp[fe] at h;obtain⟨⟨u,e,r⟩,q⟩:=h;obtain⟨us,f,c⟩:=fe.list q;refine⟨u::us,au.eC.2 ⟨u,us,rfl,r,f⟩,?_⟩;intro j v a
  cases j with
  |zero=>simp at a;subst a;simpa using e
  |succ j=>simp at a;have:=c j v a;simpa[aFz,aFp 1 j] using this
def fe.IC{σ:St}{b}:∀{off:Nat} {cs:List AV} {us:List Value},au σ cs us->(∀j v,us[j]? =some v->σ.cells b (off+j)=some v)->fe σ b off cs
 |_,[],_,_,_=>by simp[fe]
 |off,d::ds,us,h,a=>by rw[au.eC] at h;obtain⟨u,eG,rfl,r,q⟩:=h;simp[fe];refine⟨⟨u,by simpa using a 0 u ah,r⟩,fe.IC q ?_⟩;intro j v c;have:=a (j+1) v (by simpa using c);simpa[aFz,aFp 1 j] using this
def fe.drop{σ:St}{b}:∀{off:Nat} {cs:List AV} (n:Nat),fe σ b off cs->fe σ b (off+n) (cs.drop n)
 |_,[],n,_=>by simp[fe]
 |off,d::ds,n,h=>by
  cases n with
  |zero=>simpa using h
  |succ n=>simp[fe] at h;have:=fe.drop n h.2;simpa[aFz,aFp 1 n] using this
def b_.get{σ:St}{b s}:∀{off:Nat} {es:List AV},b_ σ b s off es->∀i e,es[i]? =some e->
  ∃u,aj σ e u/\u.cells.size=s/\∀j v,u.cells[j]? =some v->σ.cells b (off+i*s+j)=some v
 |_,[],_,i,e,h=>by simp at h
 |off,d::ds,h,i,e,a=>by
  simp[b_] at h
  cases i with
  |zero=>simp at a;subst a;simpa using h.1
  |succ i=>simp at a;obtain⟨u,r,c,g⟩:=b_.get h.2 i e a;refine⟨u,r,c,λj v f=> ?_⟩;have:=g j v f;rwa [show off+(i+1)*s+j=off+s+i*s+j from by rw[aEM];omega]
def aj.width{σ}{a:AV}{u:Value}(h:aj σ a u){n}(b:a.width=some n):u.cells.size=n:=by
 have c:=(aj.cells h (by rw[b];simp)).length
 have:a.cells.length=n:=by
  cases a with
  |val v=>simp only[AV.width] at b;split at b<;>simp at b;subst b;rfl
  |_=>simp[AV.width] at b<;>subst b<;>rfl
 simpa[this] using c
section
variable {P:Program} {σ:St} {w:World}
def cell_of_row{b}{c}{e}{z}(h:w.heap[b]? =some (.cells c e z))(o):w.cell? ⟨b,o,none⟩=c[o]? :=by simp[World.cell?,h]
def M0{t}{b off}{us}(p:∀j v,us[j]? =some v->w.cell? ⟨b,off+j,none⟩=some v)
  {cs} (k:au σ cs us) {d} {v} (h:iP P t cs d=some v):
  ∃u,(loadVar t ⟨b,off+d,none⟩).run P w=.ok u w/\aj σ v u:=by
 unfold iP at h;have hl:=k.length
 cases ha:cv P t with
 |none=>simp[ha] at h
 |some g=>
  have l:∃a,P.underlying t=some a/\rL a=g:=by
   unfold cv at ha
   cases e:P.underlying t with
   |none=>simp[e] at ha
   |some a=>exact⟨a,rfl,by simpa[e] using ha⟩
  obtain⟨a,e,hg⟩:=l;have o:(isAgg t).run P w=.ok g w:=by unfold isAgg;simp[Φ,underlying,run_program,Ε,e,as1];cases a<;>simp[rL] at hg<;>subst hg<;>rfl
  cases g with
  |false=>simp[ha] at h;obtain⟨u,l,r⟩:=k.get h;refine⟨u,?_,r⟩;simp[loadVar,o,p d u l]
  |true=>
   simp[ha] at h
   cases hn:bX P t with
   |none=>simp[hn] at h
   |some n=>
    simp only[hn] at h;split at h
    ·rename_i hle;cases h
     have s:(sizeOf t).run P w=.ok n w:=by
      unfold bX at hn
      cases hi:P.info? t with
      |none=>simp[hi] at hn
      |some i=>simp[hi] at hn;simp[sizeOf,typeInfo,hi,hn]
     refine⟨.agg ((us.drop d).take n).toArray,?_,?_⟩
     ·have c:((us.drop d).take n).length=n:=aP
      have:=run_loadCells_list (P:=P) (w:=w) ⟨b,off+d,none⟩ ((us.drop d).take n) (by
       intro j v f
       have x:j<n:=by
        rcases aFv j n with m|m
        ·exact m
        ·rw[aEh aa] at f;cases f
       rw[Τ x,aEz] at f;have:=p (d+j) v f;by_cases q:j=0
       ·subst q;simpa[Addr.add] using this
       ·simpa[Addr.add,q,aFz] using this)
      rw[c] at this;simp[loadVar,o,s,this]
     ·simp only[aj];exact⟨_,rfl,(k.drop d).take n⟩
    ·cases h
end
section
variable {P:Program} {B:Nat->Prop} {W0:World} {H:ab} {σ:St} {w:World}
def tZ{t}{n}(h:bX P t=some n):(sizeOf t).run P w=.ok n w:=by
 unfold bX at h
 cases hi:P.info? t with
 |none=>simp[hi] at h
 |some i=>simp[hi] at h;simp[sizeOf,typeInfo,hi,h]
def fE{t}{d}(h:P.underlying t=some d):(underlying t).run P w=.ok d w:=by simp[underlying,h]
def UH{t}{fs}(h:gY P t=some fs):∃gs:Array Field,P.underlying t=some (.struct gs)/\fs=gs.toList.map λf=>(f.offset,f.type):=by
 unfold gY at h;split at h
 ·rename_i gs hg;simp at h;exact⟨gs,hg,h.symm⟩
 ·cases h
def tT{t e}(h:fk P t=some e):P.underlying t=some (.slice e):=by
 unfold fk at h;split at h
 ·rename_i e' hg;simp at h;subst h;exact hg
 ·cases h
def HB{t}(h:yF P t=true):P.underlying t=some .string:=by
 unfold yF at h;split at h
 ·rename_i hg;exact hg
 ·cases h
def ag6{t}{k}(h:FZ P t=some k):P.underlying t=some (.int k):=by
 unfold FZ at h;split at h
 ·rename_i k' hg;simp at h;subst h;exact hg
 ·cases h
def qE(P:Program)(σ:St)(w:World)(v:AV)(s:Sem Next):Prop:=∃u,s.run P w=.ok (.value u) w/\aj σ v u
def qE.gG{v}{s:Sem Value}{u}(h:s.run P w=.ok u w)(r:aj σ v u):qE P σ w v (do pure (.value (<-s))):=
 ⟨u,by simp[h],r⟩
def V2{t}{a}{u:Value}{v:AV}(o:aY P B W0 H σ w)(l:aj σ a u)
  (h:qK P H t a=some v):qE P σ w v (do pure (.value (<-Instr.loadAt t u))):=by
 cases a with
 |rptr cs=>simp[qK] at h;simp[aj] at l;obtain⟨b,off,rfl,rc⟩:=l;obtain⟨us,f,r⟩:=rc.list;obtain⟨x,k,g⟩:=M0 (P:=P) (w:=w) (λj v d=>o.cells _ _ _ (r j v d)) f h;exact .gG (u:=x) (by simpa[Instr.loadAt,Instr.sureAddr] using k) g
 |ptr id off=>
  simp[qK] at h;simp[aj] at l;obtain⟨b,hb,rfl⟩:=l;split at h
  ·rename_i cs hg;obtain⟨q,c,e,i,_,m,f,_⟩:=o.obj id _ hg;rw[hb] at i;cases i
   obtain⟨x,k,g⟩:=M0 (P:=P) (w:=w) (b:=b) (off:=0) (us:=c.toList) (λj v d=>by
    rw[cell_of_row m];simpa using d) f h
   exact .gG (u:=x) (by simpa[Instr.loadAt,Instr.sureAddr] using k) g
  ·rename_i n et s cs hg;obtain⟨q,cap,c,i,_,_,m,_,_,cz,hle,_,hl,f,_⟩:=o.obj id _ hg;rw[hb] at i;cases i
   obtain⟨x,k,g⟩:=M0 (P:=P) (w:=w) (b:=b) (off:=0) (us:=c.toList.take (n*s)) (λj v d=>by
    have p:j<n*s:=by have:=(φ.1 d).1;simp at this;omega
    rw[Τ p] at d
    rw[cell_of_row m];simpa using d) f h
   exact .gG (u:=x) (by simpa[Instr.loadAt,Instr.sureAddr] using k) g
  ·cases h
 |_=>simp[qK] at h
def Addr.qF(b o n):(⟨b,o,none⟩:Addr).add n=⟨b,o+n,none⟩:=by
 unfold Addr.add;split
 ·rename_i h;subst h;rfl
 ·rfl
def aeQ{s}{a}{u}{v}{f:Nat}(c:aj σ a u)
  (h:bV P s f a=some v):qE P σ w v (do pure (.value (<-Instr.fieldAt s u f))):=by
 unfold bV at h;split at h
 ·rename_i fs t;obtain⟨gs,hg,rfl⟩:=UH t;split at h
  ·rename_i off i hf;rw[aEt] at hf;obtain⟨g,m,k⟩:=aEj.1 hf;rw[aEm] at m;have q:g.offset=off:=Ι Prod.fst k;have x:g.type=i:=Ι Prod.snd k;split at h
   ·cases h
   ·rename_i l
    have j:∃n,bX P i=some n/\n≠0:=by
     cases d:bX P i with
     |none=>exact absurd (.inr d) l
     |some n=>exact⟨n,rfl,λe=>l (.inl (by rw[d,e]))⟩
    obtain⟨n,d,r⟩:=j;have p:∀b o,(Instr.fieldAt s (.pointer (some ⟨b,o,none⟩)) f).run P w=.ok (.pointer (some ⟨b,o+off,none⟩)) w:=by intro b o;simp[Instr.fieldAt,fE hg,m,Instr.sureAddr,fieldPlace,x,tZ d,r,q,Addr.qF]
    cases a with
    |ptr id o=>simp only at h;simp[aj] at c;obtain⟨b,hb,rfl⟩:=c;cases h;exact .gG (p b o) (by simp only[aj];exact⟨b,hb,rfl⟩)
    |rptr cs=>
     simp only at h;simp[aj] at c;obtain⟨b,o,rfl,rc⟩:=c;split at h
     ·cases h;exact .gG (p b o) (by simp only[aj];exact⟨b,o+off,rfl,rc.drop off⟩)
     ·cases h
    |_=>simp at h
  ·cases h
 ·cases h
def aeR{t}{a i}{u x}{v}(d:aj σ a u)(hi:aj σ i x)
  (h:dW P t a i=some v):qE P σ w v (do pure (.value (<-Instr.indexAt t u x))):=by
 cases a with
 |vec o es=>
  cases i with
  |int k n=>
  simp only[dW] at h;simp only[aj] at d hi;subst hi;obtain⟨ad,cap,rfl,p,ho,C⟩:=d;split at h
  ·rename_i G;split at h
   ·rename_i e B;split at h
    ·rename_i et f;split at h
     ·rename_i c;cases h;have l:=tT f;have E:n.toNat<es.length:=(φ.1 B).1;obtain⟨s,z⟩:=aEY.1 c.2;have r:e.width=some s:=c.1▸z;rcases C with rfl|⟨b,off,q,rfl,row⟩
      ·simp at E
      ·obtain⟨y,A,D,m⟩:=row.get n.toNat e B;have F:q=s:=by rw[<-D];exact A.width r
       subst F;refine .gG (u:=.pointer (some ⟨b,off+n.toNat*q,none⟩)) ?_ ?_
       ·have g:n<(es.length:Int):=aa;simp[Instr.indexAt,asIntOf,fE l,G,g,tZ z,Addr.qF]
       ·simp only[aj];refine⟨b,_,rfl,fe.IC (A.cells (by rw[r];simp)) ?_⟩;intro j v I;exact m j v (by simpa using I)
     ·cases h
    ·cases h
   ·cases h
  ·cases h
  |_=>simp[dW] at h
 |sl id s off len=>
  cases i with
  |int k n=>
  simp only[dW] at h;simp only[aj] at d hi;subst hi;obtain⟨b,cap,J,_,rfl,p⟩:=d;split at h
  ·rename_i H;split at h
   ·rename_i et f;split at h
    ·rename_i c;cases h;have l:=tT f;refine .gG (u:=.pointer (some ⟨b,(off+n.toNat)*s,none⟩)) ?_ ?_
     ·have g:n<(len:Int):=aa;simp[Instr.indexAt,asIntOf,fE l,H.1,g,tZ c.1,Addr.qF,aEM]
     ·simp only[aj];exact⟨b,J,rfl⟩
    ·cases h
   ·cases h
  ·cases h
  |_=>simp[dW] at h
 |_=>simp[dW] at h
def agb{t}{a i}{u x}{v}(e:aj σ a u)(hi:aj σ i x)
  (h:mI P t a i=some v):qE P σ w v (do pure (.value (<-Instr.index t u x))):=by
 cases a with
 |str l=>
  cases i with
  |int k n=>
  simp only[mI] at h;simp only[aj] at e hi;subst hi e;split at h
  ·rename_i g;split at h
   ·rename_i b hb;cases h;refine .gG (u:=.int .u8 b.toNat) ?_ (by simp[aj]);have C:n.toNat<l.length:=(φ.1 hb).1
    have B:(⟨l.toArray⟩:ByteArray)[n.toNat]? =some b:=by
     have:n.toNat<(⟨l.toArray⟩:ByteArray).size:=by simpa[ByteArray.size] using C
     rw[getElem?_pos (⟨l.toArray⟩:ByteArray) n.toNat this];have c:=(φ.1 hb).2;simp;rw[<-c];rfl
    simp[Instr.index,asIntOf,fE (HB g.1),g.2,B]
   ·cases h
  ·cases h
  |_=>simp[mI] at h
 |agg cs=>
  cases i with
  |int k n=>
  simp[mI] at h;simp[aj] at e hi;subst hi;obtain⟨us,rfl,p⟩:=e;unfold adt at h;split at h
  ·rename_i len el f;split at f
   ·rename_i aD5 j o;simp at f;obtain⟨rfl,rfl⟩:=f;split at h
    ·rename_i g;obtain⟨z,s,c,h3⟩:=g;obtain⟨y,r,A⟩:=p.get h;refine .gG (u:=y) ?_ A;have q:(isAgg j).run P w=.ok false w:=by unfold cv at c;simp at c;obtain⟨d,m,mY⟩:=c;simp[isAgg,fE m];cases d<;>simp_all [rL]
     simp[Instr.index,asIntOf,fE o,z,s,tZ h3,part,q,r]
    ·cases h
   ·cases f
  ·cases h
  |_=>simp[mI] at h
 |_=>simp[mI] at h
end
section
variable {P:Program} {B:Nat->Prop} {W0:World} {H:ab} {σ:St} {w:World}
def aj.ix:∀(v:Value),aj σ (ix v) v
 | .int _ _=>by simp[Ab.ix,aj]
 | .bool _=>by simp[Ab.ix,aj]
 | .string s=>by simp[Ab.ix,aj]
 | .slice a n c=>by unfold Ab.ix;split<;>simp_all [aj,nO]
 | .float _ _=>by simp[Ab.ix,aj]
 | .complex _ _ _=>by simp[Ab.ix,aj]
 | .pointer _=>by simp[Ab.ix,aj]
 | .map _=>by simp[Ab.ix,aj]
 | .chan _=>by simp[Ab.ix,aj]
 | .func _ _ _=>by simp[Ab.ix,aj]
 | .nilFunc=>by simp[Ab.ix,aj]
 | .iface _ _=>by simp[Ab.ix,aj]
 | .nilIface=>by simp[Ab.ix,aj]
 | .agg _=>by simp[Ab.ix,aj]
 | .tuple _=>by simp[Ab.ix,aj]
def au.ix(l:List Value):au σ (l.map Ab.ix) l:=by have:=au.map (σ:=σ) Ab.ix id l λx _=>aj.ix x;simpa using this
def aj.mX(v):aj σ (mX v) v:=by
 cases v with
 |agg cs=>simp[Ab.mX,aj];exact⟨cs.toList,ah,au.ix _⟩
 |_=>unfold Ab.mX;exact aj.ix _
def M1(off):∀(a:List Value) (k:Nat) (cs:Array Value),off+k+a.length<=cs.size->∀(i:Nat),
  ((a.zipIdx k).foldl (λ(cs:Array Value) (p:Value×Nat)=>cs.setIfInBounds (off+p.2) p.1) cs)[i]? =if off+k<=i/\i<off+k+a.length then a[i-(off+k)]? else cs[i]?
 |[],k,cs,_,i=>by simp only[List.zipIdx_nil,List.foldl_nil,Χ];rw[κ aa]
 |v::a,k,cs,h,i=>by
  simp[List.zipIdx_cons,List.foldl_cons] at h⊢;rw[M1 off a (k+1) _ aP];by_cases c:i=off+k
  ·subst c;rw[κ aa,μ aa];simp[show off+k<cs.size from aa]
  ·by_cases b:off+(k+1)<=i/\i<off+(k+1)+a.length
   ·rw[μ b,μ aa,show i-(off+k)=(i-(off+(k+1)))+1 from aa,aEX]
   ·rw[κ b,κ aa,aEL aa]
def MS(off)(a:List Value)(cs:Array Value)(h:off+a.length<=cs.size):
  ((a.zipIdx 0).foldl (λ(cs:Array Value) (p:Value×Nat)=>cs.setIfInBounds (off+p.2) p.1) cs).toList=cs.toList.take off++a++cs.toList.drop (off+a.length):=by
 apply List.ext_getElem?
 intro i;rw[aEm,M1 off a 0 cs aa];simp only[aFG];by_cases b:i<off
 ·rw[κ aa,Λ,atI aP,Τ b,aEm]
 ·rw[Λ,Ψ aP];simp[aEH,aEx];rw[show min off cs.size=off from aa];by_cases h2:i<off+a.length
  ·rw[μ aa,atI aa]
  ·rw[κ aa,Ψ aa,aEz,aEm];congr 1;omega
def W7(place):∀(parts:List (Nat×AV)) (us:List (Nat×Value)) (cs:List AV) (xs:Array Value) (out:List AV),
  us.map (·.1)=parts.map (·.1)->(∀(i:Nat) (p:Nat×AV) (u:Nat×Value),parts[i]? =some p->us[i]? =some u->aj σ p.2 u.2)->au σ cs xs.toList->aQ place cs parts=some out->
  ∃k,Instr.fill place xs us=some k/\au σ out k.toList
 |[],us,cs,xs,out,a,_,b,h=>by simp at a;subst a;simp[aQ] at h;subst h;exact⟨xs,rfl,b⟩
 |(i,v)::parts,us,cs,xs,out,a,f,b,h=>by
  cases us with
  |nil=>simp at a
  |cons u us=>
   obtain⟨j,x⟩:=u;simp at a;obtain⟨rfl,a⟩:=a;have l:aj σ v x:=f 0 (j,v) (j,x) ah ah;simp[aQ] at h;simp only[Instr.fill]
   cases qg:place j with
   |none=>simp[qg] at h
   |some q=>
    obtain⟨off,n⟩:=q;simp only[qg] at h⊢;split at h
    ·rename_i r;obtain⟨e,hle⟩:=r;have m:x.cells.size=n:=l.width e;have c:=b.length;simp only[aEx] at c;rw[κ (by simp[m];omega)];have d:=l.cells (by rw[e];simp);have g:=d.length;simp only[aEx] at g;refine W7 place parts us _ _ out a (λi p u hi o=>f (i+1) p u (by simpa using hi) (by simpa using o)) ?_ h;have hf:=MS off x.cells.toList xs aP;rw[<-Array.foldl_toList,Array.toList_zipIdx];rw[hf];unfold eg;refine((b.take _).append d).append ?_;have:=b.drop (off+v.cells.length);rwa [<-g] at this⊢
    ·cases h
def Ey{t}{z}(h:dz P t=some z):∃i v,P.info? t=some i/\i.zero=some v/\z=v.cells.toList.map Ab.ix:=by
 unfold dz at h;split at h
 ·rename_i i hi;obtain⟨v,a,e⟩:=aEj.1 h;exact⟨i,v,hi,a,e.symm⟩
 ·cases h
def YJ{p q}(h:∀i x,p i=some x->q i=some x):∀(us:List (Nat×Value)) (cs r:Array Value),Instr.fill p cs us=some r->Instr.fill q cs us=some r
 |[],cs,r,e=>e
 |(i,v)::us,cs,r,e=>by
  simp[Instr.fill] at e⊢
  cases hp:p i with
  |none=>simp[hp] at e
  |some x=>
   obtain⟨off,n⟩:=x;rw[h i _ hp];simp only[hp] at e⊢;split at e
   ·cases e
   ·rename_i a;rw[κ a];exact YJ h us _ r e
def agc{t}{parts:List (Nat×AV)}{us:Array (Nat×Value)}{v}
  (o:us.toList.map (·.1)=parts.map (·.1)) (k:∀(i:Nat) (p:Nat×AV) (u:Nat×Value),parts[i]? =some p->us.toList[i]? =some u->aj σ p.2 u.2)
  (h:sU P t parts=some v):qE P σ w v (do pure (.value (<-Instr.build t us))):=by
 unfold sU at h;split at h
 ·rename_i z fs r a;split at h
  ·rename_i cs l;cases h;obtain⟨i,zv,hi,g,rfl⟩:=Ey r;obtain⟨b,e,q⟩:=W7 (σ:=σ) (fs[·]?) parts us.toList _ zv.cells cs o k (au.ix _) l
   have hb:P.built t us.toList=some b:=by
    unfold jl at a;split at a
    ·rename_i gs hg;simp[Program.built,hi,hg,g,a];simpa using e
    ·rename_i n el hg;obtain⟨ie,c,rfl⟩:=aEj.1 a;simp[Program.built,hi,hg,g,c];refine YJ (λi x f=> ?_) _ _ _ e;rw[aEt] at f;obtain⟨j,m,rfl⟩:=aEj.1 f;have:=φ.1 m;obtain⟨h1,d⟩:=this;simp at d;rw[d]
    ·cases a
   refine .gG (run_build w t us b hb) ?_;simp[aj];exact⟨b.toList,ah,q⟩
  ·cases h
 ·cases h
def ag7{op}{k}{a b}{v}(h:rM op k a b=some v):∃u,(binOp op 0 (.int k a) (.int k b)).run P w=.ok u w/\aj σ v u:=by
 unfold rM at h
 cases op<;>simp only[Ζ,reduceCtorEq] at h<;>(try(split at h))<;>(try(simp only[Ζ,reduceCtorEq] at h))<;>(try subst h)<;>
  first
   |(simp_all [binOp,Op.intArith,Op.intDiv,Op.intCmp,aj];done)
   |(cases h)
end
section
variable {P:Program} {B:Nat->Prop} {W0:World} {H:ab} {σ:St} {w:World}
def NY{t}{cs}{us:List Value}(e:au σ cs us){d}{v}(h:iP P t cs d=some v):∃u,(part t us.toArray d).run P w=.ok u w/\aj σ v u:=by
 unfold iP at h
 cases ha:cv P t with
 |none=>simp[ha] at h
 |some g=>
  have c:∃a,P.underlying t=some a/\rL a=g:=by
   unfold cv at ha
   cases b:P.underlying t with
   |none=>simp[b] at ha
   |some a=>exact⟨a,rfl,by simpa[b] using ha⟩
  obtain⟨a,b,hg⟩:=c;have f:(isAgg t).run P w=.ok g w:=by unfold isAgg;simp[Φ,underlying,run_program,Ε,b,as1];cases a<;>simp[rL] at hg<;>subst hg<;>rfl
  cases g with
  |false=>simp[ha] at h;obtain⟨u,c,i⟩:=e.get h;exact⟨u,by simp[part,f,c],i⟩
  |true=>
   simp[ha] at h
   cases hn:bX P t with
   |none=>simp[hn] at h
   |some n=>
    simp only[hn] at h;split at h
    ·rename_i hle;cases h;refine⟨.agg (us.toArray.extract d (d+n)),by simp[part,f,tZ hn],?_⟩;simp only[aj];refine⟨(us.drop d).take n,?_,(e.drop d).take n⟩;congr 1;apply aF9;simp
    ·cases h
def kindOk(P:Program)(t:TypeId):EK->Prop
 | .int=>∃k,P.underlying t=some (.int k)
 | .bool=>P.underlying t=some .bool
 | .str=>P.underlying t=some .string
def ag8{k}{x y}{b}(h:yG k x y=some b){t}{d}{u z}(c:aj σ x u)(e:aj σ y z)(a:kindOk P t k):(Op.equalIn (d+1) t u z).run P w=.ok b w:=by
 cases k<;>cases x<;>simp[yG] at h<;>cases y<;>simp only[reduceCtorEq] at h<;>simp only[aj] at c e<;>subst c e
 case int.int.int k1 n1 k2 n2=>
  split at h
  ·rename_i f;subst f;cases h;obtain⟨k',g⟩:=a;exact run_equalIn_int w d t _ _ _ _ g
  ·cases h
 case bool.bool.bool=>cases h;exact run_equalIn_bool' w d t _ _ a
 case str.str.str=>
  cases h;rw[run_equalIn_string w d t _ _ a];simp
def UE:∀{ks c:List EK} {xs a:List AV} {b:Bool},ot (ks++c) xs a=some b->∃b1 b2,ot ks (xs.take ks.length) (a.take ks.length)=some b1/\ot c (xs.drop ks.length) (a.drop ks.length)=some b2/\b=(b1&&b2)/\ks.length<=xs.length/\ks.length<=a.length
 |[],c,xs,a,b,h=>⟨true,b,by simp[ot],by simpa using h,ah,ah,ah⟩
 |k::ks,c,[],a,b,h=>by cases a<;>simp[ot] at h
 |k::ks,c,x::xs,[],b,h=>by simp[ot] at h
 |k::ks,c,x::xs,y::a,b,h=>by
  simp[ot] at h
  cases hc:yG k x y with
  |none=>simp[hc] at h
  |some d=>
   simp[hc] at h
   cases hr:ot (ks++c) xs a with
   |none=>simp[hr] at h
   |some r=>
    simp[hr] at h;obtain⟨b1,b2,f,e,h3,h4,h5⟩:=UE hr;refine⟨d&&b1,b2,?_,by simpa using e,?_,aP,aP⟩
    ·simp[ot,hc,f]
    ·rw[<-h,h3,Bool.and_assoc]
def Qy(P:Program)(t:TypeId)(ks:List EK)(x y:AV)(b:Bool):Prop:=
 (∃xs a,x=.agg xs/\y=.agg a/\cv P t=some true/\ot ks xs a=some b)\/(∃k,ks=[k]/\cv P t=some false/\yG k x y=some b)
def YK{g}{d}{xs i:List AV}{us zs:List Value}(D:au σ xs us)(B:au σ i zs)
  (ih:∀(t:TypeId) (ks:List EK) (x y:AV) (u z:Value) (b:Bool),g t=some ks->aj σ x u->aj σ y z->Qy P t ks x y b->(Op.equalIn d t u z).run P w=.ok b w):
  ∀(fs:List Field) (off:Nat) (ks:List EK) (b:Bool),Dq P g off fs=some ks->ot ks (xs.drop off) (i.drop off)=some b->(Op.eqFields d us.toArray zs.toArray fs).run P w=.ok b w
 |[],off,ks,b,h,hb=>by
  simp[Dq] at h;subst h;have:b=true:=by cases o:xs.drop off<;>cases m:i.drop off<;>simp[o,m,ot] at hb;exact hb
  subst this;simp[Op.eqFields]
 |f::fs,off,ks,b,h,hb=>by
  simp only[Dq] at h;split at h
  ·cases h
  ·rename_i C
   cases hg:g f.type with
   |none=>simp[hg] at h
   |some k1=>
    simp only[hg] at h;split at h
    ·rename_i G
     cases hr:Dq P g (off+k1.length) fs with
     |none=>simp[hr] at h
     |some k2=>
      simp[hr] at h;subst h;obtain⟨b1,b2,a,v,h3,A,h5⟩:=UE hb;simp[List.drop_drop] at v;simp[adv] at A h5;obtain⟨j,aD6,p⟩:=G;have q:f.name≠ "_" :=λe=>C (.inl e)
      have r:f.offset=off:=by
       rcases Nat.decEq f.offset off with K|s
       ·exact absurd (.inr K) C
       ·exact s
      obtain⟨l,n,N,I,O⟩:∃l n,iP P f.type xs off=some l/\iP P f.type i off=some n/\Qy P f.type k1 l n b1:=by
       rcases p with c|⟨c,L⟩
       ·refine⟨_,_,by unfold iP;simp only[c,j];rw[μ aa],by unfold iP;simp only[c,j];rw[μ aa],?_⟩;exact .inl ⟨_,_,rfl,rfl,c,a⟩
       ·obtain⟨k,rfl⟩:=List.length_eq_one_iff.1 L;have o:off<xs.length:=by simp at A;omega
        have m:off<i.length:=by simp at h5;omega
        refine⟨xs[off],i[off],by unfold iP;simp[c,o],by unfold iP;simp[c,m],?_⟩;rw[Μ o,Μ m] at a;simp only[aE6,aFa,aFB] at a;simp only[ot] at a
        cases hq:yG k xs[off] i[off] with
        |none=>simp[hq] at a
        |some b'=>simp[hq] at a;subst a;exact .inr ⟨k,rfl,c,hq⟩
      obtain⟨J,p1,F⟩:=NY (P:=P) (w:=w) D N;obtain⟨H,E,M⟩:=NY (P:=P) (w:=w) B I;have s:=ih f.type k1 l n J H b1 hg F M O;simp[Op.eqFields,q,r,Φ,p1,E,s,Ε];subst h3
      cases b1 with
      |true=>simpa using(YK D B ih fs (off+k1.length) k2 b2 hr v)
      |false=>simp
    ·cases h
def PE:∀(d:Nat) (t:TypeId) (ks:List EK) (x y:AV) (u z:Value) (b:Bool) (e:Nat),d<=e->xE P d t=some ks->aj σ x u->aj σ y z->Qy P t ks x y b->(Op.equalIn e t u z).run P w=.ok b w
 |0,t,ks,x,y,u,z,b,e,_,h,_,_,_=>by simp[xE] at h
 |d+1,t,ks,x,y,u,z,b,0,q,_,_,_,_=>by omega
 |d+1,t,ks,x,y,u,z,b,e+1,q,h,j,g,hb=>by
  simp[xE] at h
  have one:∀k,some [k]=some ks->kindOk P t k->cv P t=some false->(Op.equalIn (e+1) t u z).run P w=.ok b w:=by
   rintro k l o n;rcases hb with⟨xs,p,_,_,c,_⟩|⟨A,c,_,h3⟩
   ·rw[n] at c;cases c
   ·subst c;simp at l;subst l;exact ag8 h3 j g o
  split at h
  ·rename_i a;exact one .bool h a (by simp[cv,a,rL])
  ·rename_i k a;exact one .int h ⟨k,a⟩ (by simp[cv,a,rL])
  ·rename_i a;exact one .str h a (by simp[cv,a,rL])
  ·rename_i fs a;split at h
   ·cases h
   ·rename_i B
    have v:P.stoodInHeld t=false:=by
     cases hs:P.stoodInHeld t
     ·rfl
     ·exact absurd (.inl hs) B
    rcases hb with⟨xs,p,rfl,rfl,_,i⟩|⟨A,_,c,_⟩
    ·simp[aj] at j g;obtain⟨us,rfl,s⟩:=j;obtain⟨zs,rfl,m⟩:=g;have f:P.fieldsOf t=fs:=by simp[Program.fieldsOf,a]
     rw[run_equalIn_struct w e t _ _ (by rw[f];exact a) v,f];exact YK s m (λt ks x y u z b c i h3 r=>PE d t ks x y u z b e aa c i h3 r) fs.toList 0 ks b h (by simpa using i)
    ·simp[cv,a,rL] at c
  ·cases h
def W8{op}{r}{v:AV}(h:C5 op r=some v):∃b,r=some b/\((op=.eql/\v=.bool b)\/(op=.neq/\v=.bool (!b))):=by
 cases op<;>simp[C5] at h<;>cases r<;>simp at h
 ·exact⟨_,rfl,.inl ⟨rfl,h.symm⟩⟩
 ·exact⟨_,rfl,.inr ⟨rfl,h.symm⟩⟩
def vh{op}{b}{v}(h:qD op b=some v):(op=.eql/\v=.bool b)\/(op=.neq/\v=.bool (!b)):=by
 cases op<;>simp[qD] at h
 ·exact .inl ⟨rfl,h.symm⟩
 ·exact .inr ⟨rfl,h.symm⟩
def agd{op}(h:pQ op=true):op=.shl\/op=.shr:=by
 cases op<;>simp[pQ] at h
 ·exact .inl rfl
 ·exact .inr rfl
def Ns{v}(h:F0 v=true):∃a c,v=.slice (some a) 0 c:=by
 unfold F0 at h;split at h
 ·rename_i a c;exact⟨a,c,rfl⟩
 ·cases h
def yV{op}{t}{x y}{u z:Value}{b v}(a:∀d,(Op.equalIn (d+1) t u z).run P w=.ok b w)(c:(do eqGuard .eql t x y u z;binOp .eql t u z:Sem Value).run P w=(do pure (.bool (<-Op.equalIn 10000 t u z)):Sem Value).run P w)
  (e:(do eqGuard .neq t x y u z;binOp .neq t u z:Sem Value).run P w=(do pure (.bool (!(<-Op.equalIn 10000 t u z))):Sem Value).run P w) (f:(op=.eql/\v=.bool b)\/(op=.neq/\v=.bool (!b))):
  qE P σ w v (do pure (.value (<-(do eqGuard op t x y u z;binOp op t u z)))):=by
 have a:=a 9999;rcases f with⟨rfl,rfl⟩|⟨rfl,rfl⟩
 ·exact .gG (u:=.bool b) (by rw[c];simp[a]) (by simp[aj])
 ·exact .gG (u:=.bool (!b)) (by rw[e];simp[a]) (by simp[aj])
def alI{op}{t}{x y}{a b:AV}{u z:Value}{v:AV}(f:aj σ a u)(g:aj σ b z)(h:fH P op t a b=some v):
  qE P σ w v (do pure (.value (<-(do eqGuard op t x y u z;binOp op t u z)))):=by
 unfold fH at h;split at h
 ·rename_i k m k' n;simp only[aj] at f g;subst f g;split at h
  ·rename_i O;unfold Je at h;split at h
   ·cases h
   ·rename_i B;rcases agd O with rfl|rfl
    ·cases h;exact .gG (by simp only[eqGuard,binOp,Op.shift,κ B];simp;rfl) (by simp[aj])
    ·cases h;exact .gG (by simp only[eqGuard,binOp,Op.shift,κ B];simp;rfl) (by simp[aj])
  ·split at h
   ·rename_i L;subst L;obtain⟨r,C,N⟩:=ag7 (P:=P) (w:=w) (σ:=σ) h;have T:(binOp op t (.int k m) (.int k n)).run P w=.ok r w:=by rw[<-C];cases op<;>rfl
    refine .gG (u:=r) ?_ N;cases op<;>simp[eqGuard,T]
   ·cases h
 ·rename_i m n;simp only[aj] at f g;subst f g;unfold jM at h
  cases op<;>simp only[Ζ,reduceCtorEq] at h<;>
   first
    |(split at h
      ·rename_i hle;cases h;refine .gG (u:=.string ⟨(m++n).toArray⟩) ?_ (by simp[aj]);have M:¬(((⟨m.toArray⟩:ByteArray).size+(⟨n.toArray⟩:ByteArray).size:Nat):Int)>IntKind.i64.max:=by have:IntKind.i64.max=9223372036854775807:=aA;rw[this];simp only[ByteArray.size,aEw];omega
       have R:(⟨m.toArray⟩:ByteArray)++(⟨n.toArray⟩:ByteArray)=⟨(m++n).toArray⟩:=by apply Go.WideShapes.bytes_inj;simp
       simp only[eqGuard,binOp,Op.stringOp,R];simp only[Φ,Sem.run_ite,κ M];simp
      ·cases h)
    |(subst h
      exact .gG (by simp[eqGuard,binOp,Op.stringOp];rfl) (by simp[aj]))
 ·rename_i m n;split at h
  ·rename_i A;split at h
   ·rename_i p;have q:=PE (P:=P) (w:=w) 4 t [.bool] (.bool m) (.bool n) u z (m==n) 10000 aa p f g (.inr ⟨.bool,rfl,A,rfl⟩);simp only[aj] at f g;subst f g;obtain⟨r,C,l⟩:=W8 h;cases C;rcases l with⟨rfl,rfl⟩|⟨rfl,rfl⟩
    ·refine .gG (u:=.bool (m==n)) ?_ (by simp[aj]);simp only[eqGuard,binOp,Op.equal,Op.maxDepth];simp[q]
    ·refine .gG (u:=.bool (!(m==n))) ?_ (by simp[aj]);simp only[eqGuard,binOp,Op.equal,Op.maxDepth];simp[q]
   ·cases h
  ·cases h
 ·rename_i as bs;split at h
  ·rename_i A;split at h
   ·rename_i ks p;obtain⟨r,C,l⟩:=W8 h;have q:=PE (P:=P) (w:=w) 4 t ks (.agg as) (.agg bs) u z r 10000 aa p f g (.inl ⟨as,bs,rfl,rfl,A,C⟩)
    have J:P.eqGuardType P.depth t=false:=by
     simp only[xE] at p;split at p
     ·rename_i D;simp[cv,D,rL] at A
     ·rename_i D;simp[cv,D,rL] at A
     ·rename_i D;simp[cv,D,rL] at A
     ·split at p
      ·cases p
      ·rename_i S;cases hs:P.eqGuardType P.depth t
       ·rfl
       ·exact absurd (.inr hs) S
     ·cases p
    simp only[aj] at f g;obtain⟨us,rfl,_⟩:=f;obtain⟨zs,rfl,_⟩:=g;rcases l with⟨rfl,rfl⟩|⟨rfl,rfl⟩
    ·refine .gG (u:=.bool r) ?_ (by simp[aj]);simp only[Φ,run_eqGuard_agg w _ t x y _ _ J,Ε,run_eql_struct,q]
    ·refine .gG (u:=.bool (!r)) ?_ (by simp[aj]);simp only[Φ,run_eqGuard_agg w _ t x y _ _ J,Ε,run_neq_struct,q]
   ·cases h
  ·cases h
 ·rename_i id off;split at h
  ·rename_i c
   obtain⟨e,i⟩:∃e,P.underlying t=some (.pointer e):=by
    unfold Ba at c;split at c
    ·rename_i e j;exact⟨e,j⟩
    ·cases c
   simp only[aj] at f g;obtain⟨b,_,rfl⟩:=f;subst g;exact yV (λd=>by simp[Op.equalIn,fE i]) rfl rfl (vh h)
  ·cases h
 ·rename_i cs;split at h
  ·rename_i c
   obtain⟨e,i⟩:∃e,P.underlying t=some (.pointer e):=by
    unfold Ba at c;split at c
    ·rename_i e j;exact⟨e,j⟩
    ·cases c
   simp only[aj] at f g;obtain⟨b,off,rfl,_⟩:=f;subst g;exact yV (λd=>by simp[Op.equalIn,fE i]) rfl rfl (vh h)
  ·cases h
 ·split at h
  ·rename_i c
   obtain⟨e,i⟩:∃e,P.underlying t=some (.pointer e):=by
    unfold Ba at c;split at c
    ·rename_i e j;exact⟨e,j⟩
    ·cases c
   simp only[aj] at f g;subst f g;exact yV (λd=>by simp[Op.equalIn,fE i]) rfl rfl (vh h)
  ·cases h
 ·rename_i it iv;split at h
  ·rename_i c
   obtain⟨ms,i⟩:∃ms,P.underlying t=some (.interface ms):=by
    unfold Jd at c;split at c
    ·rename_i e j;exact⟨e,j⟩
    ·cases c
   simp only[aj] at f g;obtain⟨xv,rfl,_⟩:=f;subst g;exact yV (λd=>by simp[Op.equalIn,fE i]) rfl rfl (vh h)
  ·cases h
 ·rename_i ff f1 f2;split at h
  ·rename_i c
   obtain⟨E,G,F,i⟩:∃E G F,P.underlying t=some (.func E G F):=by
    unfold acu at c;split at c
    ·rename_i E G F j;exact⟨E,G,F,j⟩
    ·cases c
   simp only[aj] at f g;obtain⟨S3,Lf,rfl,_,_⟩:=f;subst g;exact yV (λd=>by simp[Op.equalIn,fE i]) rfl rfl (vh h)
  ·cases h
 ·rename_i id s off len;split at h
  ·rename_i c
   obtain⟨e,i⟩:∃e,P.underlying t=some (.slice e):=by
    unfold yu at c;split at c
    ·rename_i e j;exact⟨e,j⟩
    ·cases c
   simp only[aj] at f g;obtain⟨b,cap,_,_,rfl,_⟩:=f;obtain⟨H,cp,rfl,_,l,_⟩:=g;simp only[nO] at l;obtain⟨rfl,_,rfl⟩:=l;exact yV (λd=>by simp[Op.equalIn,fE i]) rfl rfl (vh h)
  ·cases h
 ·rename_i o e1 es1;split at h
  ·rename_i c
   obtain⟨e,i⟩:∃e,P.underlying t=some (.slice e):=by
    unfold yu at c;split at c
    ·rename_i e j;exact⟨e,j⟩
    ·cases c
   simp only[aj] at f g;obtain⟨a0,cap,rfl,_,_,K⟩:=f;obtain⟨H,cp,rfl,_,l,_⟩:=g;simp only[nO] at l;obtain⟨rfl,_,rfl⟩:=l;obtain⟨b,off,s,rfl,_⟩:=K.resolve_left ah;have p:∀d n,(Op.equalIn (d+1) t (.slice (some ⟨b,off,none⟩) n cap) (.slice none 0 0)).run P w=.ok false w:=λd n=>by simp[Op.equalIn,fE i]
   have p:=p 9999;rcases vh h with⟨rfl,rfl⟩|⟨rfl,rfl⟩
   ·exact .gG (u:=.bool false) (by simp only[eqGuard,binOp,Op.equal,Op.maxDepth];simp[p]) (by simp[aj])
   ·exact .gG (u:=.bool true) (by simp only[eqGuard,binOp,Op.equal,Op.maxDepth];simp[p]) (by simp[aj])
  ·cases h
 ·split at h
  ·rename_i c
   obtain⟨e,i⟩:∃e,P.underlying t=some (.slice e):=by
    unfold yu at c;split at c
    ·rename_i e j;exact⟨e,j⟩
    ·cases c
   simp only[aj] at f g;obtain⟨a0,cap,rfl,_,I,_⟩:=f;obtain⟨H,cp,rfl,_,l,_⟩:=g;simp only[nO] at l I;obtain⟨rfl,_,rfl⟩:=l;obtain⟨rfl,_,rfl⟩:=I;exact yV (λd=>by simp[Op.equalIn,fE i]) rfl rfl (vh h)
  ·cases h
 ·rename_i v0;split at h
  ·rename_i c;obtain⟨Q,c⟩:=c
   obtain⟨e,i⟩:∃e,P.underlying t=some (.slice e):=by
    unfold yu at c;split at c
    ·rename_i e j;exact⟨e,j⟩
    ·cases c
   obtain⟨a0,c0,rfl⟩:=Ns Q;simp only[aj] at f g;subst f;obtain⟨H,cp,rfl,_,l,_⟩:=g;simp only[nO] at l;obtain⟨rfl,_,rfl⟩:=l;exact yV (λd=>by simp[Op.equalIn,fE i]) rfl rfl (vh h)
  ·cases h
 ·cases h
def BX{x:Option AV}{d y m:Nat}{u:Option Value}(f:∀a z,x=some a->u=some z->aj σ a z)(b:x.isSome=u.isSome)(h:j9 x d y=some m)(c:BoundsCode):
  (match u with|some z=>Instr.sliceBound z y c|none=>pure d).run P w=.ok m w:=by
 cases x with
 |none=>
  cases u with
  |none=>simp[j9] at h;subst h;simp
  |some z=>simp at b
 |some a=>
  cases u with
  |none=>simp at b
  |some z=>
   have r:=f a z rfl rfl
   cases a with
   |int k i=>
    simp[aj] at r;subst r;simp only[j9] at h;split at h
    ·rename_i e;cases h;simp[Instr.sliceBound,asIntOf,e]
    ·cases h
   |_=>simp[j9] at h
def b_.drop{b s}:∀{off:Nat} {es:List AV} (n:Nat),b_ σ b s off es->b_ σ b s (off+n*s) (es.drop n)
 |_,[],n,_=>by simp[b_]
 |off,e::es,n,h=>by
  cases n with
  |zero=>simpa using h
  |succ n=>simp[b_] at h;have:=b_.drop n h.2;rw[aFb,show off+(n+1)*s=off+s+n*s from by rw[aEM];omega];exact this
def b_.take{b s}:∀{off:Nat} {es:List AV} (n:Nat),b_ σ b s off es->b_ σ b s off (es.take n)
 |_,[],n,_=>by simp[b_]
 |off,e::es,n,h=>by
  cases n with
  |zero=>simp[b_]
  |succ n=>simp[b_] at h;simp[b_];exact⟨h.1,b_.take n h.2⟩
def MT{t}{es:List AV}(h:ou P t es=true):∃et s,fk P t=some et/\bX P et=some s/\∀e,es.head? =some e->e.width=some s:=by
 unfold ou at h;split at h
 ·rename_i et c;split at h
  ·rename_i s a;refine⟨et,s,c,a,λe b=> ?_⟩;rw[b] at h;simpa using h
  ·cases h
 ·cases h
def b_.lr{b s n}{off}{es:List AV}(h:b_ σ b s off es)(d:es≠[])(c:∀e,es.head? =some e->e.width=some n):s=n:=by
 cases es with
 |nil=>exact absurd rfl d
 |cons e es=>simp[b_] at h;obtain⟨⟨u,r,a,_⟩,_⟩:=h;rw[<-a];exact r.width (c e rfl)
def UW{x}{d y m}(h:j9 x d y=some m)(a:d<=y):m<=y:=by
 unfold j9 at h;split at h
 ·cases h;exact a
 ·split at h
  ·cases h;omega
  ·cases h
 ·cases h
def afp{x}{d y z m}(h:j9 x d y=some m)(hz:y<=z):j9 x d z=some m:=by
 unfold j9 at h⊢;split at h
 ·exact h
 ·split at h
  ·rename_i i a;rw[μ ⟨a.1,aa⟩];exact h
  ·cases h
 ·cases h
def aeY{n}{lo hi}{x y}(h:nI n lo hi=some (x,y)):x<=y/\y<=n/\j9 lo 0 y=some x/\∀c,n<=c->j9 hi n c=some y:=by
 unfold nI at h;split at h
 ·rename_i hh b;split at h
  ·rename_i ll a;cases h;exact⟨UW a (aFc _),UW b (ν _),a,λc d=>afp b d⟩
  ·cases h
 ·cases h
def age{t}{a}{u}{lo hi:Option AV}{m j:Option Value}{v}(k:aj σ a u)
  (I:∀a z,lo=some a->m=some z->aj σ a z) (C:lo.isSome=m.isSome) (K:∀a z,hi=some a->j=some z->aj σ a z) (H:hi.isSome=j.isSome)
  (h:kg P t lo hi a=some v):qE P σ w v (do pure (.value (<-Instr.sliceAt t u m j none))):=by
 cases a with
 |vec o es=>
  simp only[kg] at h;simp only[aj] at k;obtain⟨B,cap,rfl,W,q,Q⟩:=k;split at h
  ·rename_i J;obtain⟨et,sz,D,A,U⟩:=MT J;split at h
   ·rename_i x y f;cases h;unfold nI at f;split at f
    ·rename_i g e;split at f
     ·rename_i d c;simp at f;obtain⟨rfl,rfl⟩:=f;have p:=tT D
      have hhn:g<=es.length:=by
       unfold j9 at e;split at e
       ·cases e;exact ν _
       ·split at e
        ·cases e;omega
        ·cases e
       ·cases e
      have Bv:d<=g:=by
       unfold j9 at c;split at c
       ·cases c;exact aFc _
       ·split at c
        ·cases c;omega
        ·cases c
       ·cases c
      have L:hi=none->g=es.length:=by rintro rfl;simp[j9] at e;exact e.symm
      have E:j9 hi es.length cap=some g:=by
       unfold j9 at e⊢;split at e
       ·exact e
       ·split at e
        ·rename_i i X;rw[μ ⟨X.1,aa⟩];exact e
        ·cases e
       ·cases e
      have N:=BX (P:=P) (w:=w) K H E .sliceAcap;have M:=BX (P:=P) (w:=w) I C c .sliceB;refine .gG (u:=.slice (if cap=d then B else B.map (·.add (d*sz))) (g-d) (cap-d)) ?_ ?_
      ·cases j<;>cases m<;>simp_all [Instr.sliceAt,Instr.slice,Instr.sliceBounds,fE p,tZ A]
      ·simp only[aj];refine⟨(if cap=d then B else B.map (·.add (d*sz))),cap-d,?_,?_,?_,?_⟩
       ·rw[show(List.drop d (List.take g es)).length=g-d from aP]
       ·simp;omega
       ·have n:(List.drop d (List.take g es)).length=g-d:=aP;rw[n];unfold yH;split
        ·have:=L rfl;simp[nO] at q⊢;omega
        ·have:=L rfl;simp[nO] at q⊢;omega
        ·trivial
       ·by_cases r:List.drop d (List.take g es)=[]
        ·exact .inl r
        ·refine .inr ?_
         have T:d<g:=by
          rcases aFv d g with G|G
          ·exact G
          ·exact absurd (List.drop_eq_nil_of_le aP) r
         rcases Q with rfl|⟨b,off,s,rfl,row⟩
         ·simp at r
         ·have V:s=sz:=row.lr (by rintro rfl;simp at r) U;subst V;refine⟨b,off+d*s,s,?_,(row.take g).drop d⟩;rw[κ aa];simp[Addr.qF]
     ·cases f
    ·cases f
   ·cases h
  ·cases h
 |sl id s off len=>
  simp[kg] at h;simp only[aj] at k;obtain⟨b,cap,O,q,rfl,W⟩:=k;split at h
  ·rename_i et D;split at h
   ·rename_i A;split at h
    ·rename_i x y f;obtain⟨G,h2,h3,S⟩:=aeY f;have p:=tT D;have N:=BX (P:=P) (w:=w) K H (S (cap-off) aa) .sliceAcap;have M:=BX (P:=P) (w:=w) I C h3 .sliceB;refine .gG (u:=.slice (some (if cap-off=x then⟨b,off*s,none⟩ else⟨b,off*s+x*s,none⟩)) (y-x) (cap-off-x)) ?_ ?_
     ·have F:(if cap-off=x then some (⟨b,off*s,none⟩:Addr) else(some (⟨b,off*s,none⟩:Addr)).map (·.add (x*s)))=some (if cap-off=x then⟨b,off*s,none⟩ else⟨b,off*s+x*s,none⟩):=by
       split
       ·rfl
       ·simp[Addr.qF]
      rw[<-F];cases j<;>cases m<;>simp_all [Instr.sliceAt,Instr.slice,Instr.sliceBounds,fE p,tZ A]
     ·split at h
      ·rename_i R;subst R;cases h;simp only[aj];refine⟨b,cap,O,q,?_,aa⟩;simp
      ·split at h
       ·rename_i T;cases h;simp only[aj];refine⟨b,cap,O,q,?_,aa⟩;rw[κ aa,aEM,Nat.sub_sub]
       ·cases h;simp only[aj];refine⟨_,_,by rw[show y-x=([]:List AV).length from aP],ah,trivial,.inl trivial⟩
    ·cases h
   ·cases h
  ·cases h
 |str l=>
  simp only[kg] at h;simp only[aj] at k;subst k;split at h
  ·rename_i J;split at h
   ·rename_i x y f;cases h;unfold nI at f;split at f
    ·rename_i g e;split at f
     ·rename_i d c;simp at f;obtain⟨rfl,rfl⟩:=f;have p:=HB J;refine .gG (u:=.string ((⟨l.toArray⟩:ByteArray).extract d g)) ?_ ?_
      ·have N:=BX (P:=P) (w:=w) K H e .sliceAlen;have M:=BX (P:=P) (w:=w) I C c .sliceB;have A:(⟨l.toArray⟩:ByteArray).size=l.length:=by simp[ByteArray.size]
       cases j<;>cases m<;>simp_all [Instr.sliceAt,Instr.slice,Instr.sliceBounds,fE p]
      ·simp[aj];congr 1;apply Go.WideShapes.bytes_inj;simp[List.drop_take]
     ·cases f
    ·cases f
   ·cases h
  ·cases h
 |_=>simp[kg] at h
def au.of_map{α:Type}(f:α->AV)(g:α->Value)(l:List α)(h:∀x∈l,aj σ (f x) (g x)):au σ (l.map f) (l.map g):=au.map f g l h
def W9{d_}{ty}{as}{us:Array Value}{v}(g:au σ as us.toList)
  (h:gB P d_ as=some v):qE P σ w v (do pure (.value (<-Builtin.len_ d_ ty us))):=by
 obtain⟨us⟩:=us
 cases as with
 |nil=>simp[gB] at h
 |cons a as=>
  cases as with
  |cons b as=>cases a<;>simp[gB] at h
  |nil=>
   rw[au.eC] at g;obtain⟨u,eG,e,r,q⟩:=g;rw[au.pR] at q;subst q;simp only at e;subst e
   cases a with
   |str l=>
    simp[gB] at h;simp[aj] at r;subst r;split at h
    ·rename_i t d;split at h
     ·rename_i j;cases h;exact .gG (u:=.int .i64 l.length) (by simp[Builtin.len_,d,fE (HB j),goInt];rfl) (by simp[aj])
     ·cases h
    ·cases h
   |vec o es=>
    simp only[gB] at h;simp only[aj] at r;obtain⟨ad,cap,rfl,_⟩:=r;split at h
    ·rename_i t d;split at h
     ·rename_i c;cases h;obtain⟨e,f⟩:=aEY.1 c;exact .gG (u:=.int .i64 es.length) (by simp[Builtin.len_,d,fE (tT f),goInt]) (by simp[aj])
     ·cases h
    ·cases h
   |sl id s off n=>
    simp only[gB] at h;simp only[aj] at r;obtain⟨b,cap,_,_,rfl,_⟩:=r;split at h
    ·rename_i t d;split at h
     ·rename_i c;cases h;obtain⟨e,f⟩:=aEY.1 c;exact .gG (u:=.int .i64 n) (by simp[Builtin.len_,d,fE (tT f),goInt]) (by simp[aj])
     ·cases h
    ·cases h
   |val v0=>
    simp[gB] at h;simp[aj] at r;subst r;split at h
    ·rename_i t d;split at h
     ·rename_i c;obtain⟨i,c⟩:=c;cases h;obtain⟨a0,c0,rfl⟩:=Ns i;obtain⟨e,f⟩:=aEY.1 c;exact .gG (u:=.int .i64 0) (by simp[Builtin.len_,d,fE (tT f),goInt]) (by simp[aj])
     ·cases h
    ·cases h
   |_=>simp[gB] at h
def agf{t}{x}{u}{f}{v}(c:aj σ x u)(h:AN P t f x=some v):qE P σ w v (do pure (.value (<-Instr.field t u f))):=by
 cases x with
 |agg cs=>
  simp[AN] at h;split at h
  ·rename_i fs j;obtain⟨gs,hg,rfl⟩:=UH j;split at h
   ·rename_i off d hf;rw[aEt] at hf;obtain⟨g,b,a⟩:=aEj.1 hf;rw[aEm] at b;have e:g.offset=off:=Ι Prod.fst a;have k:g.type=d:=Ι Prod.snd a;simp[aj] at c;obtain⟨us,rfl,r⟩:=c;obtain⟨y,i,l⟩:=NY (P:=P) (w:=w) r h;exact .gG (u:=y) (by simp[Instr.field,fE hg,b,asAgg,e,k,i]) l
   ·cases h
  ·cases h
 |_=>simp[AN] at h
def ag9{d}{k b}{u e}{r}(a:aj σ k u)(c:aj σ b e)(f:(∃q,d=.int q)/\(∃q n,k=.int q n)\/d=.string/\∃l,k=.str l)(h:yI k b=some r):
  Instr.sameNow d u e=some r:=by
 rcases f with⟨⟨q,rfl⟩,q',n,rfl⟩|⟨rfl,l,rfl⟩
 ·cases b<;>simp[yI] at h;simp[aj] at a c;subst a c;simpa[Instr.sameNow] using h
 ·cases b<;>simp[yI] at h;simp[aj] at a c;subst a c;simp only[Instr.sameNow];simp only[Ζ] at h⊢;rw[<-h];rw[aE7,Go.MapKept.bytes_beq];simp
def ER{d}{k}{u}(f:aj σ k u)(e:(∃q,d=.int q)/\(∃q n,k=.int q n)\/d=.string/\∃l,k=.str l):∀(es:List (AV×AV×Nat)) (ms:List MapEntry) (i:Nat) (r:Option (Nat×AV)),gR σ es ms->rS k es i=some r->
  ∃c,Instr.findNow d u ms i=some c/\((r=none/\c=none)\/∃j v x,r=some (j,v)/\c=some (j,x)/\aj σ v x)
 |[],ms,i,r,a,h=>by simp[gR] at a;subst a;simp[rS] at h;exact⟨none,rfl,.inl ⟨h.symm,rfl⟩⟩
 |(k',v,b)::es,ms,i,r,a,h=>by
  simp[gR] at a;obtain⟨m,s,rfl,p,g,r3,o⟩:=a;simp[rS] at h
  cases hk:yI k k' with
  |none=>simp[hk] at h
  |some q=>
   simp only[Instr.findNow,ag9 f p e hk]
   cases q with
   |true=>simp only[hk,Ζ] at h;exact⟨_,rfl,.inr ⟨i,v,m.val,h.symm,rfl,g⟩⟩
   |false=>simp[hk] at h;exact ER f e es s (i+1) r o h
def ain{t}{z}(h:zeroV P t=some z):∃u,(zeroValue t).run P w=.ok u w/\aj σ z u:=by
 unfold zeroV at h;split at h
 ·rename_i i hi;obtain⟨u,a,rfl⟩:=aEj.1 h;exact⟨u,by simp[zeroValue,typeInfo,hi,a],aj.mX u⟩
 ·cases h
def Nt{t a et}(h:Dp P t=some (a,et)):P.underlying t=some (.map a et):=by
 unfold Dp at h;split at h
 ·rename_i k e b;cases h;exact b
 ·cases h
def Jg{m}{k}{u}(f:aj σ k u)(c:AO P m k=true){es}{ms}(p:gR σ es ms){r}(h:rS k es 0=some r)(em):
  (Instr.checkKey em 10000 m u).run P w=.ok () w/\∃g,(Instr.findKey m u ms).run P w=.ok g w/\((r=none/\g=none)\/∃j v x,r=some (j,v)/\g=some (j,x)/\aj σ v x):=by
 unfold AO at c
 cases hu:P.underlying m with
 |none=>simp[hu] at c
 |some d=>
  cases d<;>simp[hu] at c
  case int q=>
   cases k<;>simp at c;rename_i D n;obtain⟨g,t,s⟩:=ER (d:=.int q) f (.inl ⟨⟨q,rfl⟩,D,n,rfl⟩) es ms 0 r p h;refine⟨?_,g,by simp[Instr.findKey,fE hu,t],s⟩;simp[aj] at f;subst f;exact Go.MapKept.run_checkKey (n:=9999) hu (by simpa[Go.MapKept.IsKey] using c) em
  case string=>
   cases k<;>simp at c;rename_i l;obtain⟨g,t,s⟩:=ER (d:=.string) f (.inr ⟨rfl,l,rfl⟩) es ms 0 r p h;refine⟨?_,g,by simp[Instr.findKey,fE hu,t],s⟩;simp[aj] at f;subst f;exact Go.MapKept.run_checkKey (n:=9999) hu (by simp[Go.MapKept.IsKey]) em
  case array n el=>
   cases k<;>simp only[υ] at c;rename_i cs;simp only[Ω,aFl] at c;obtain⟨⟨hn,y⟩,B⟩:=c
   obtain⟨q,o⟩:∃q,P.underlying el=some (.int q):=by
    split at y
    ·rename_i q o;exact⟨q,o⟩
    ·cases y
   simp[aj] at f;obtain⟨us,rfl,A⟩:=f;have hl:=A.length;constructor
   ·show(Instr.checkKey em (9999+1) m (.agg us.toArray)).run P w=_;rw[Instr.checkKey];simp only[Φ,fE hu,Ε];simp only[Std.Legacy.Range.forIn_eq_forIn_range',Std.Legacy.Range.size,Nat.sub_zero,aF3,Nat.div_one];have a:∀i∈List.range' 0 n,i<n:=λi hi=>by simpa using hi
    generalize List.range' 0 n=z at a
    induction z with
    |nil=>simp
    |cons j z ih=>
     have hj:=a j ah;have F:j<us.length:=aa;have E:(isAgg el).run P w=.ok false w:=by simp[isAgg,fE o]
     have p1:(part el us.toArray (j*1)).run P w=.ok us[j] w:=by simp[part,E,F]
     have C:(Instr.checkKey em 9999 el us[j]).run P w=.ok () w:=by show(Instr.checkKey em (9998+1) el us[j]).run P w=_;rw[Instr.checkKey];simp[fE o]
     simp only[List.forIn_cons,Φ,tZ B,Ε,p1,C,as1];exact ih λi hi=>a i (by simp[hi])
   ·cases es with
    |nil=>simp[gR] at p;subst p;simp[rS] at h;exact⟨none,by simp[Instr.findKey,fE hu,Instr.findNow],.inl ⟨h.symm,rfl⟩⟩
    |cons e es=>obtain⟨k',v,b⟩:=e;simp[rS,yI] at h
def afq(C:aY P B W0 H σ w){t:TypeId}{m k:AV}{q d:Value}{ok:Bool}{v:AV}(p:aj σ m q)(g:aj σ k d)(h:Aw P H t m k ok=some v):
  qE P σ w v (do pure (.value (<-Instr.lookup t q d ok))):=by
 unfold Aw at h;split at h
 ·rename_i id;split at h
  ·rename_i es clock hg;split at h
   ·rename_i kt et s;split at h
    ·rename_i f;have o:=Nt s;obtain⟨b,ms,hb,_,l,n,_⟩:=C.obj id _ hg;simp[aj] at p;obtain⟨b',i,rfl⟩:=p;rw[hb] at i;cases i;split at h
     ·rename_i j v1 hf;obtain⟨k1,e,k2,c⟩:=Jg (w:=w) g f n hf (em:=ms.isEmpty);obtain⟨j',v',x,E,rfl,a⟩:=c.resolve_left ah;cases E;cases h;refine .gG (u:=if ok then .tuple #[x,.bool true] else x) ?_ ?_
      ·simp[Instr.lookup,fE o,aFe l,k1,k2]
      ·cases ok
       ·simpa using a
       ·simp only[aEl,aj];exact⟨[x,.bool true],rfl,au.eC.2 ⟨_,_,rfl,a,au.eC.2 ⟨_,_,rfl,by simp[aj],by simp[au]⟩⟩⟩
     ·rename_i hf;obtain⟨k1,e,k2,c⟩:=Jg (w:=w) g f n hf (em:=ms.isEmpty)
      have:e=none:=by
       rcases c with⟨_,r⟩|⟨j,v,x,y,_⟩
       ·exact r
       ·simp at y
      subst this;split at h
      ·rename_i z A;obtain⟨x,D,a⟩:=ain (σ:=σ) (w:=w) A;cases h;refine .gG (u:=if ok then .tuple #[x,.bool false] else x) ?_ ?_
       ·simp[Instr.lookup,fE o,aFe l,k1,k2,D]
       ·cases ok
        ·simpa using a
        ·simp only[aEl,aj];exact⟨[x,.bool false],rfl,au.eC.2 ⟨_,_,rfl,a,au.eC.2 ⟨_,_,rfl,by simp[aj],by simp[au]⟩⟩⟩
      ·cases h
     ·cases h
    ·cases h
   ·cases h
  ·cases h
 ·cases h
def aio{as}{us:Array Value}(d:au σ as us.toList){k g}{a b}(h:as=[.int k a,.int g b]):us=#[.int k a,.int g b]:=by obtain⟨us⟩:=us;subst h;rw[au.eC] at d;obtain⟨u,eG,e,r,q⟩:=d;rw[au.eC] at q;obtain⟨u2,Lf,i,c,f⟩:=q;rw[au.pR] at f;simp[aj] at r c;subst f i r c;simp only at e;subst e;rfl
def aha{as}{v}(h:Dr as=some v):∃k c a b,as=[.int k a,.int c b]/\v=.int k (if b>a then b else a):=by
 unfold Dr at h;split at h
 ·cases h;exact⟨_,_,_,_,rfl,rfl⟩
 ·cases h
def aeZ(T:aY P B W0 H σ w)(o:Oper)(A:Operand->AV)(ρ:Operand->Value)(g:∀x∈o.op.operands,aj σ (A x) (ρ x)){v:AV}
  (h:lq P o.op A H=some v):qE P σ w v (execOp ρ o):=by
 obtain⟨dst,op,ty,pos,after,guard⟩:=o;simp only at h g;cases op<;>simp[lq] at h;case move x=>cases h;exact⟨ρ x,rfl,g x (by simp[Op.operands])⟩
 case assign x=>cases h;exact⟨ρ x,rfl,g x (by simp[Op.operands])⟩
 case pick c a b=>
  have rc:=g c (by simp[Op.operands]);have ra:=g a (by simp[Op.operands]);have rb:=g b (by simp[Op.operands])
  cases K:A c with
  |bool t=>simp[K,C6] at h rc;simp[aj] at rc;cases h;refine⟨if t then ρ a else ρ b,by cases t<;>simp[execOp,rc,asBool],?_⟩;cases t<;>simpa
  |_=>simp[K,C6] at h
 case load t a=>exact V2 T (g a (by simp[Op.operands])) h
 case fieldAddr s x f=>exact aeQ (g x (by simp[Op.operands])) h
 case indexAddr t x i=>exact aeR (g x (by simp[Op.operands])) (g i (by simp[Op.operands])) h
 case index t x i=>exact agb (g x (by simp[Op.operands])) (g i (by simp[Op.operands])) h
 case binOp op t x y t'=>
  unfold nS at h;split at h
  ·rename_i hb;have j:=g x (by simp[Op.operands]);have J:=g y (by simp[Op.operands]);generalize A x=X at hb j;generalize A y=Y at hb J;unfold EY at hb;split at hb
   ·simp[aj] at j J;split at h
    ·rename_i K;obtain⟨R,N⟩:=K
     obtain⟨ms,V⟩:∃ms,P.underlying t=some (.interface ms):=by
      unfold Jd at N;split at N
      ·rename_i e he;exact⟨e,he⟩
      ·cases N
     have S:(x matches .const _)||(y matches .const _):=by
      simp only[aFm] at R⊢;rcases R with D|D
      ·left;cases x<;>simp[yo] at D⊢
      ·right;cases y<;>simp[yo] at D⊢
     have hg:(eqGuard op t x y .nilIface .nilIface).run P w=.ok () w:=by
      simp only[aFm] at S;rcases S with D|D
      ·cases op<;>cases x<;>simp at D<;>simp[eqGuard]
      ·cases op<;>cases y<;>simp at D<;>cases x<;>simp[eqGuard]
     have C:∀d,(Op.equalIn (d+1) t .nilIface .nilIface).run P w=.ok true w:=λd=>by simp[Op.equalIn,fE V]
     have C:=C 9999;rcases vh h with⟨rfl,rfl⟩|⟨rfl,rfl⟩
     ·exact .gG (u:=.bool true) (by rw[j,J];simp[Φ,hg,Ε,binOp,Op.equal,Op.maxDepth];simp[C]) (by simp[aj])
     ·exact .gG (u:=.bool false) (by rw[j,J];simp[Φ,hg,Ε,binOp,Op.equal,Op.maxDepth];simp[C]) (by simp[aj])
    ·cases h
   ·cases hb
  ·exact alI (g x (by simp[Op.operands])) (g y (by simp[Op.operands])) h
 case unOp op t x=>
  have j:=g x (by simp[Op.operands]);generalize A x=y at h j;unfold xF at h;split at h
  ·rename_i b;simp[aj] at j;cases h;exact⟨.bool (!b),by simp[execOp,j,Op.unary],by simp[aj]⟩
  ·rename_i k n;simp[aj] at j;cases h;exact⟨.int k (k.wrap (0-n)),by simp[execOp,j,Op.unary,Op.intArith],by simp[aj]⟩
  ·cases h
 case convert s d x=>
  have j:=g x (by simp[Op.operands]);generalize A x=y at h j;unfold rR at h;split at h
  ·rename_i k n;simp[aj] at j;split at h
   ·rename_i O;split at h
    ·rename_i L Z;cases h
     obtain⟨ds,W⟩:∃ds,P.underlying s=some ds:=by
      unfold cv at O
      cases l:P.underlying s with
      |none=>simp[l] at O
      |some ds=>exact⟨ds,rfl⟩
     exact⟨.int L (L.wrap n),by simp[execOp,Go.convert,j,fE (ag6 Z),fE W,Conv.intToInt],by simp[aj]⟩
    ·cases h
   ·cases h
  ·cases h
 case extract x i=>
  have j:=g x (by simp[Op.operands]);generalize A x=y at h j;unfold ij at h;split at h
  ·simp[aj] at j;obtain⟨us,e,r⟩:=j;obtain⟨u,l,M⟩:=r.get h;exact⟨u,by simp[execOp,e,Instr.extract,l],M⟩
  ·cases h
 case build t parts=>
  refine agc (us:=parts.map λ(i,x)=>(i,ρ x)) ah ?_ h;intro i p u Q l;simp only[aEt] at Q;simp only[aGr,aEt] at l;obtain⟨q,C,rfl⟩:=aEj.1 Q;rw[C] at l;simp at l;subst l;refine g q.2 ?_;simp only[Op.operands];have:q∈parts.toList:=Δ C;simp;exact⟨q.1,by simpa using this⟩
 case slice t x lo hi mx=>
  cases mx with
  |some m=>cases h
  |none=>
   simp only at h;refine age (g x (by simp[Op.operands])) ?_ ah ?_ ah h
   ·intro a z E F
    cases lo with
    |none=>simp at E
    |some y=>simp at E F;subst E F;exact g y (by simp[Op.operands])
   ·intro a z E F
    cases hi with
    |none=>simp at E
    |some y=>simp at E F;subst E F;exact g y (by simp[Op.operands])
 case field t x f=>exact agf (g x (by simp[Op.operands])) h
 case lookup t m k ok=>exact afq T (g m (by simp[Op.operands])) (g k (by simp[Op.operands])) h
 case makeFunc f first cap=>
  cases h;refine⟨.func f (first.map ρ) (cap.map ρ),rfl,?_⟩
  simp[aj];refine⟨first.toList.map ρ,cap.toList.map ρ,by simp[<-Array.toList_map],?_,?_⟩
  ·exact au.map _ _ _ λx I=>g x (by simp[Op.operands];exact .inl (by simpa using I))
  ·exact au.map _ _ _ λx I=>g x (by simp[Op.operands];exact .inr (by simpa using I))
 case nilCheck x=>
  have j:=g x (by simp[Op.operands]);generalize A x=y at h j;unfold Ca at h;split at h
  ·cases h;have G:=j;simp[aj] at j;obtain⟨b,hb,e⟩:=j;exact⟨ρ x,by simp[execOp,e],G⟩
  ·cases h;have G:=j;simp[aj] at j;obtain⟨b,o,e,_⟩:=j;exact⟨ρ x,by simp[execOp,e],G⟩
  ·cases h;have G:=j;simp[aj] at j;obtain⟨us,vs,e,_⟩:=j;exact⟨ρ x,by simp[execOp,e],G⟩
  ·cases h
 case call c=>
  cases pZ:c.callee with
  |builtin b=>
   have U:au σ (c.args.toList.map A) (c.args.map ρ).toList:=by simp[aGr];exact au.map _ _ _ λx I=>g x (by simp[Op.operands,Call.operands,pZ];exact by simpa using I)
   simp[pZ] at h;cases b<;>simp at h
   case len=>
    have:=W9 (P:=P) (w:=w) (ty:=ty) U h;obtain⟨u,l,M⟩:=this;exact⟨u,by simpa[execOp,resolve,pZ,invoke,builtin] using l,M⟩
   case max=>
    obtain⟨k,L,a,b,e,rfl⟩:=aha h;exact⟨.int k (if b>a then b else a),by simp[execOp,resolve,pZ,invoke,builtin,aio U e,Builtin.max_,Builtin.max2],by simp[aj]⟩
  |_=>simp[pZ] at h
end
end Go.Ab
