/- LintCalls: part 29 of its proof. -/
import Derived.Shelf.Pu.Lays
import Derived.Shelf.Pu.Lower
import Derived.Shelf.Pu.ParseUint10At
import Derived.Shelf.Pu.ToError
import Derived.Shelf.Pu.ToErrorRange
import Derived.Lib.Strings
import Derived.Lib.Walk
import Derived.Lib.ConvBytes
import Derived.Lib.ParseIntBMem
import Derived.Lib.AtoiErrMem
import Derived.Lib.AtoiAllMem
import Derived.Lib.Hide
import Derived.Laws.Strings3
import Derived.Laws.Closers25
import Derived.Laws.Closers25b
import Derived.WalkKit
import Derived.BigCall
import Derived.BigGuard
set_option linter.all false
namespace Go.Proofs.YtmehamiifalmaaaGreatDoor.K
open Go Go.Shelf Go.RowKit
variable {P:Program} {ρ:Ren}
set_option maxHeartbeats 32000000 in
set_option maxRecDepth 100000 in
def aeL(L:LaysPu.n16 P ρ)(t:ByteArray)(aL:t.size≠0)(J':t.size<=9223372036854775806)(w):
  Calls P (ρ.f 16) #[.string t,.int .i64 10,.int .i64 63] w λe w'=>e=.returned (Lib.uintTupleM (ρ.t 34) 9223372036854775807 (Lib.parseUintM 9223372036854775807 0 t.data.toList))/\w'=Lib.bytesWorld w (ρ.t 5) t:=by
 have mixed:=L.mixed;have t9:=L.t9;have a9:=L.a9;have z9:=L.z9;have v9:=L.v9;have t3:=L.t3;have a3:=L.a3;have z3:=L.z3;have v3:=L.v3;have t22:=L.t22;have a22:=L.a22;have z22:=L.z22;have v22:=L.v22;have t24:=L.t24;have a24:=L.a24;have z24:=L.z24;have v24:=L.v24;have t4:=L.t4;have a4:=L.a4;have z4:=L.z4;have v4:=L.v4;have t34:=L.t34;have a34:=L.a34;have z34:=L.z34;have v34:=L.v34;have t5:=L.t5;have a5:=L.a5;have z5:=L.z5;have v5:=L.v5;have t36:=L.t36;have a36:=L.a36;have z36:=L.z36;have v36:=L.v36;have t37:=L.t37;have a37:=L.a37;have z37:=L.z37;have v37:=L.v37;have t0:=L.t0;have a0:=L.a0;have z0:=L.z0;have v0:=L.v0;have e19:∀args w,(callFunc (ρ.f 19) args).run P w=.ok (.enter (ρ.f 19) args) w:=enters_of L.f19 rfl rfl;have aDd:t.toList.isEmpty=false:=by rw[<-decide_eq_emptyBytes];exact decide_eq_false (λh=>aL (by rw[h];rfl))
 have F9:=Lib.run_convert_string_bytes (P:=P) w (ρ.t 9) (ρ.t 37) (ρ.t 5) t (u:=.string) L.t9 L.t37 L.t5;have hB:∀j,j<t.size->(Lib.bytesWorld w (ρ.t 5) t).cell? ⟨w.heap.size,j,none⟩=some (.int .u8 (t.data.toList.getD j 0).toNat):=λj hj=>Lib.bytesWorld_cell w (ρ.t 5) t j hj;obtain⟨W1,Bg⟩:∃W1,W1=Lib.bytesWorld w (ρ.t 5) t:=⟨_,rfl⟩;rw[<-Bg] at F9 hB⊢;clear Bg;obtain⟨bs,hL⟩:∃bs,bs=t.data.toList:=⟨_,rfl⟩;have hLn:bs.length=t.size:=by rw[hL,Lib.size_eq]
 rw[<-hL] at hB⊢;clear hL;have sZ:IntKind.u64.wrap (IntKind.u64.wrap 9223372036854775808-1)=9223372036854775807:=by rw[IntKind.wrap_u64,IntKind.wrap_u64];decide
 go_enter L.f16,BodyPu.n16_ntmps ρ;go_wp2
 go_loop [12,13,101] (λvu vn vi=>∃(k acc:Nat) (a:Int),vu=.bool false/\vn=.int .u64 a/\vi=.int .i64 k/\k<=t.size/\Hid (a=(acc:Int)/\acc<=9223372036854775807/\Lib.parseUintM 9223372036854775807 0 bs=Lib.parseUintM 9223372036854775807 acc (bs.drop k)))
  (λ_ _ vi=>t.size-(intOf vi).toNat)
 case atStart=>exact⟨0,0,0,rfl,rfl,rfl,by omega,rfl,by omega,rfl⟩
 case round=>
  obtain⟨k,acc,a,rfl,rfl,rfl,hk,hh⟩:=hrel;obtain⟨ha,C',vB⟩:=hh.out;clear hh;have a0:0<=a:=by omega
  have a1:a<=9223372036854775807:=by omega
  by_cases qh:k<t.size
  ·have hc:=hB k qh;have Jy:bs.drop k=bs[k]'(by omega)::bs.drop (k+1):=List.drop_eq_getElem_cons (by omega);have jl:bs.getD k 0=bs[k]'(by omega):=by simp[List.getD,List.getElem?_eq_getElem (show k<bs.length by omega)]
   rw[Jy] at vB;rw[jl] at hc;generalize bs[k]'(by omega)=c at hc vB;have aC4:c.toNat<256:=c.toNat_lt;clear hB Jy jl;by_cases adK:48<=c.toNat/\c.toNat<=57
   ·obtain⟨LU,Bh⟩:=adK;by_cases nX:1844674407370955162<=acc
    ·have hF:Lib.parseUintM 9223372036854775807 acc (c::bs.drop (k+1))=.range:=by simp[Lib.parseUintM,LU,Bh,nX]
     rw[hF] at vB;have Si:1844674407370955162<=a:=by omega
     clear nX C' hF ha;go_wp2;go_ret2;exact⟨rfl,rfl⟩
    ·by_cases Q7:18446744073709551616<=acc*10+(c.toNat-48)
     ·have hF:Lib.parseUintM 9223372036854775807 acc (c::bs.drop (k+1))=.range:=by
       have kC:9223372036854775807<acc*10+(c.toNat-48):=by omega
       simp[Lib.parseUintM,LU,Bh,nX,kC]
      rw[hF] at vB;have Si:a<1844674407370955162:=by omega
      have iov:18446744073709551616<=a*10+((c.toNat:Int)-48):=by omega
      have Bf:IntKind.u64.wrap (a*10+((c.toNat:Int)-48))=a*10+((c.toNat:Int)-48)-18446744073709551616:=by rw[IntKind.wrap_u64];omega
      clear nX C' hF Q7 ha;go_wp2;go_ret2;exact⟨rfl,rfl⟩
     ·by_cases kC:9223372036854775807<acc*10+(c.toNat-48)
      ·have hF:Lib.parseUintM 9223372036854775807 acc (c::bs.drop (k+1))=.range:=by simp[Lib.parseUintM,LU,Bh,nX,kC]
       rw[hF] at vB;have Si:a<1844674407370955162:=by omega
       have iw:a*10+((c.toNat:Int)-48)<18446744073709551616:=by omega
       have iov:9223372036854775807<a*10+((c.toNat:Int)-48):=by omega
       clear nX C' hF Q7 kC ha;go_wp2;go_ret2;exact⟨rfl,rfl⟩
      ·have hF:Lib.parseUintM 9223372036854775807 acc (c::bs.drop (k+1))=Lib.parseUintM 9223372036854775807 (acc*10+(c.toNat-48)) (bs.drop (k+1)):=by simp[Lib.parseUintM,LU,Bh,nX,kC]
       have HN:Hid (a*10+((c.toNat:Int)-48)=((acc*10+(c.toNat-48):Nat):Int)/\acc*10+(c.toNat-48)<=9223372036854775807/\Lib.parseUintM 9223372036854775807 0 bs=Lib.parseUintM 9223372036854775807 (acc*10+(c.toNat-48)) (bs.drop (k+1))):=Lib.hid ⟨by omega,by omega,vB.trans hF⟩;have Si:a<1844674407370955162:=by omega
       have iov:a*10+((c.toNat:Int)-48)<=9223372036854775807:=by omega
       clear nX C' hF Q7 kC vB ha;go_wp2;refine⟨⟨k+1,acc*10+(c.toNat-48),a*10+((c.toNat:Int)-48),rfl,(by first|rfl|(congr 1;omega)),(by first|rfl|(congr 1;omega)),by omega,HN⟩,by simp[intOf];omega⟩
   ·have hF:Lib.parseUintM 9223372036854775807 acc (c::bs.drop (k+1))=Lib.NumEnd.syntax:=by simp[Lib.parseUintM,adK]
    rw[hF] at vB;have hv0:=bits_lo_u8 .or (c.toNat:Int) 32;have mY:=bits_hi_u8 .or (c.toNat:Int) 32;have zd:=bits_lo_u8 .or 95 32;have Dr:=bits_hi_u8 .or 95 32;go_wp2_with (go_at_fn (ρ.f 19);refine(AnyPu.internal_strconv_lower {L with} _ _).mono ?_;rintro e w' ⟨rfl,rfl⟩);all_goals go_ret2
    all_goals first|exact⟨rfl,rfl⟩|exact⟨by rw[vB];rfl,rfl⟩
  ·have FV:k=t.size:=by omega
   subst FV;have hF:Lib.parseUintM 9223372036854775807 acc (bs.drop t.size)=.ok acc:=by rw[List.drop_eq_nil_of_le (by omega)];rfl
   rw[hF] at vB;subst ha;go_wp2;go_ret2;exact⟨rfl,rfl⟩
def Ma(L:LaysPu.n16 P ρ)(t:ByteArray)(g:t.size<=9223372036854775806)(w):
  Calls P (ρ.f 16) #[.string t,.int .i64 10,.int .i64 63] w λe w'=>e=.returned (Lib.uintTupleM (ρ.t 34) 9223372036854775807 (Lib.parseUintB 63 t.data.toList))/\(w'=w\/w'=Lib.bytesWorld w (ρ.t 5) t):=by
 have i:(2:Nat)^63-1=9223372036854775807:=by decide
 by_cases c:t.size=0
 ·have j:t=⟨#[]⟩:=by
   apply ByteArray.ext;exact Array.eq_empty_of_size_eq_zero c
  subst j;exact(AnyPu.internal_strconv_ParseUint_empty {L with} 10 63 w).mono λe w' ⟨b,a⟩=>⟨b,Or.inl a⟩
 ·have d:t.data.toList≠[]:=λh=>c (by rw[Lib.size_eq,h];rfl);refine(aeL {L with} t c g w).mono λe w' ⟨b,a⟩=>⟨?_,Or.inr a⟩;rw[b,Lib.parseUintB,if_neg d,i]
set_option maxHeartbeats 4000000 in
set_option maxRecDepth 100000 in
def aee(L:LaysPu.n14 P ρ)(s:ByteArray)(J':s.size<=9223372036854775806)(u)(h:Lib.parseUintB 63 s.data.toList=.ok u)(w):
  Calls P (ρ.f 14) #[.string s,.int .i64 10,.int .i64 63] w λe w'=>e=.returned (.tuple #[.int .u64 u,.nilIface])/\(w'=w\/w'=Lib.bytesWorld w (ρ.t 5) s):=by
 have t24:=L.t24;have a24:=L.a24;have z24:=L.z24;have v24:=L.v24;have t25:=L.t25;have a25:=L.a25;have z25:=L.z25;have v25:=L.v25;have t4:=L.t4;have a4:=L.a4;have z4:=L.z4;have v4:=L.v4;have e16:∀args w,(callFunc (ρ.f 16) args).run P w=.ok (.enter (ρ.f 16) args) w:=enters_of L.f16 rfl rfl;have hI:=Ma {L with} s J' w;rw[h] at hI;have hI:Calls P (ρ.f 16) #[.string s,.int .i64 10,.int .i64 63] w λe w'=>e=.returned (.tuple #[.int .u64 u,.nilIface])/\(w'=w\/w'=Lib.bytesWorld w (ρ.t 5) s):=hI;go_enter L.f14,BodyPu.n14_ntmps ρ;go_wp2_with (go_at_fn (ρ.f 16);refine hI.mono ?_;rintro e W1 ⟨rfl,hW⟩);go_wp2;go_ret2;exact⟨rfl,hW⟩
set_option maxHeartbeats 4000000 in
set_option maxRecDepth 100000 in
def ad4(L:LaysPu.n14 P ρ)(s:ByteArray)(Sj:s.size<=281474976710656)(h:Lib.parseUintB 63 s.data.toList=Lib.NumEnd.syntax)(ev)(w:World)(hv:w.cell? ⟨(ρ.g 0),0,none⟩=some ev)(xq:ev=.nilIface\/∃te pe,ev=.iface te pe):
  Calls P (ρ.f 14) #[.string s,.int .i64 10,.int .i64 63] w λe w'=>∃N,e=.returned (.tuple #[.int .u64 0,.iface (ρ.t 39) (.pointer (some ⟨N,0,none⟩))])/\w.heap.size<=N/\w'.heap[N]? =some (.cells #[.string ⟨#[80,97,114,115,101,85,105,110,116]⟩,.string s,ev] (ρ.t 44) (0,0))/\Below w.heap.size w w':=by
 have t24:=L.t24;have a24:=L.a24;have z24:=L.z24;have v24:=L.v24;have t25:=L.t25;have a25:=L.a25;have z25:=L.z25;have v25:=L.v25;have t4:=L.t4;have a4:=L.a4;have z4:=L.z4;have v4:=L.v4;have e16:∀args w,(callFunc (ρ.f 16) args).run P w=.ok (.enter (ρ.f 16) args) w:=enters_of L.f16 rfl rfl;have e17:∀args w,(callFunc (ρ.f 17) args).run P w=.ok (.enter (ρ.f 17) args) w:=enters_of L.f17 rfl rfl;have hG:(ρ.g 0)<w.heap.size:=Lib.lt_of_cell hv;have hI:=Ma {L with} s (by omega) w;rw[h] at hI;have hI:Calls P (ρ.f 16) #[.string s,.int .i64 10,.int .i64 63] w λe w'=>e=.returned (.tuple #[.int .u64 0,.iface (ρ.t 34) (.int .i64 2)])/\(w'=w\/w'=Lib.bytesWorld w (ρ.t 5) s):=hI;go_enter L.f14,BodyPu.n14_ntmps ρ;go_wp2_with (go_at_fn (ρ.f 16);refine hI.mono ?_);rintro e W1 ⟨rfl,hW⟩
 have lv:Below w.heap.size w W1:=by
  rcases hW with rfl|rfl
  ·exact Below.refl _ _
  ·exact Lib.bytesWorld_below _ _ _
 have mY:W1.cell? ⟨(ρ.g 0),0,none⟩=some ev:=(lv.cell (show(⟨(ρ.g 0),0,none⟩:Addr).block<w.heap.size from hG)).trans hv;go_wp2_with (go_at_fn (ρ.f 17);refine(AnyPu.strconv_toError_syntax {L with} ⟨#[80,97,114,115,101,85,105,110,116]⟩ s 10 63 ev _ Sj ?_ xq).mono ?_)
 ·exact mY
 rintro e W2 ⟨N,rfl,h1,h2,h3⟩;go_wp2;go_ret2;exact⟨N,rfl,Nat.le_trans lv.size h1,h2,lv.trans (h3.mono lv.size)⟩
set_option maxHeartbeats 4000000 in
set_option maxRecDepth 100000 in
def ad5(L:LaysPu.n14 P ρ)(s:ByteArray)(Sj:s.size<=281474976710656)(h:Lib.parseUintB 63 s.data.toList=.range)(ev)(w:World)(hv:w.cell? ⟨(ρ.g 1),0,none⟩=some ev)(xq:ev=.nilIface\/∃te pe,ev=.iface te pe):
  Calls P (ρ.f 14) #[.string s,.int .i64 10,.int .i64 63] w λe w'=>∃N,e=.returned (.tuple #[.int .u64 9223372036854775807,.iface (ρ.t 39) (.pointer (some ⟨N,0,none⟩))])/\w.heap.size<=N/\w'.heap[N]? =some (.cells #[.string ⟨#[80,97,114,115,101,85,105,110,116]⟩,.string s,ev] (ρ.t 44) (0,0))/\Below w.heap.size w w':=by
 have t24:=L.t24;have a24:=L.a24;have z24:=L.z24;have v24:=L.v24;have t25:=L.t25;have a25:=L.a25;have z25:=L.z25;have v25:=L.v25;have t4:=L.t4;have a4:=L.a4;have z4:=L.z4;have v4:=L.v4;have e16:∀args w,(callFunc (ρ.f 16) args).run P w=.ok (.enter (ρ.f 16) args) w:=enters_of L.f16 rfl rfl;have e17:∀args w,(callFunc (ρ.f 17) args).run P w=.ok (.enter (ρ.f 17) args) w:=enters_of L.f17 rfl rfl;have hG:(ρ.g 1)<w.heap.size:=Lib.lt_of_cell hv;have hI:=Ma {L with} s (by omega) w;rw[h] at hI;have hI:Calls P (ρ.f 16) #[.string s,.int .i64 10,.int .i64 63] w λe w'=>e=.returned (.tuple #[.int .u64 9223372036854775807,.iface (ρ.t 34) (.int .i64 1)])/\(w'=w\/w'=Lib.bytesWorld w (ρ.t 5) s):=hI;go_enter L.f14,BodyPu.n14_ntmps ρ;go_wp2_with (go_at_fn (ρ.f 16);refine hI.mono ?_);rintro e W1 ⟨rfl,hW⟩
 have lv:Below w.heap.size w W1:=by
  rcases hW with rfl|rfl
  ·exact Below.refl _ _
  ·exact Lib.bytesWorld_below _ _ _
 have mY:W1.cell? ⟨(ρ.g 1),0,none⟩=some ev:=(lv.cell (show(⟨(ρ.g 1),0,none⟩:Addr).block<w.heap.size from hG)).trans hv;go_wp2_with (go_at_fn (ρ.f 17);refine(AnyPu.strconv_toError_range {L with} ⟨#[80,97,114,115,101,85,105,110,116]⟩ s 10 63 ev _ Sj ?_ xq).mono ?_)
 ·exact mY
 rintro e W2 ⟨N,rfl,h1,h2,h3⟩;go_wp2;go_ret2;exact⟨N,rfl,Nat.le_trans lv.size h1,h2,lv.trans (h3.mono lv.size)⟩
end Go.Proofs.YtmehamiifalmaaaGreatDoor.K
