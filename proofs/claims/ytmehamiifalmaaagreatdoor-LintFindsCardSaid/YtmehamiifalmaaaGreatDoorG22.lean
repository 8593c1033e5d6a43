/- LintFinds: part 23 of its proof. -/
import Derived.Test.YtmehamiifalmaaaGreatDoorG21
set_option linter.all false
namespace Go.Proofs.YtmehamiifalmaaaGreatDoor
open Go Go.Ab Go.Proofs.Tryz
set_option maxRecDepth 100000
set_option maxHeartbeats 8000000
abbrev nW:AV:=.val (.pointer none)
def WV:aK prog (run dG) 19 [nW]=some (.vec .nil []):=by refine eX (c:=.seq _ (.seq (.seq _ (.cond _ _ _)) (.seq _ (.seq _ _)))) rfl rfl func19 rfl aA (bE:=[nW]) rfl rfl ?_ rfl;simp[go_sem,ab.empty,jy,qI,results19];exact⟨_,rfl,rfl⟩
def ak7(w):aK prog (run dG) 20 [nW,.str w]=some (.tup [.agg (cU qw),.bool false]):=by
 have a:(AV.tup [.agg (cU qw),.bool false]).erase=.tup [.agg (cU qw),.bool false]:=by have:(AV.agg (cU qw)).erase=.agg (cU qw):=oE _ _;simp[AV.erase] at this⊢;simp[AV.bare,this]
 refine eX (c:=.seq _ (.seq (.seq _ (.cond _ _ _)) (.seq _ (.seq (.seq _ (.cond _ _ _)) (.seq _ _))))) rfl rfl func20 rfl (by rw[ntmps20];simp) (bE:=[nW,.str w]) rfl rfl ?_ rfl;simp[go_sem,ab.empty,qI,results20];exact⟨_,rfl,a⟩
def ak8(H):bu aV 19 [nW] H=some (.vec .nil [],H):=
 ja (fs:=[19,20,45,47]) rfl rfl (FY aA rfl) rfl WV rfl rfl H
def aCQ:aK prog (run aV) 7 [nW]=some (.vec .nil []):=by
 refine eX (c:=.seq _ (.seq _ (.seq (.seq _ (.block 0 (.loop B7))) _))) rfl rfl func7 rfl aA (bE:=[nW]) rfl rfl ?_ rfl;have b:B7=.seq _ (.seq _ (.seq (.block _ (.seq _ (.seq _ (.seq _ (.seq _ (.seq _ _)))))) _)):=rfl;simp[go_sem,ab.empty,ak8,jy];simp[bW]
 refine bz (dm (Q:=λa H'=>a 3=.vec .nil []) (by
  rw[aJ,b];simp[go_sem]
  first|exact⟨rfl,rfl⟩|exact⟨trivial,rfl⟩|trivial)) ?_
 rintro _ ⟨a,H',rfl,h3⟩;obtain⟨H2,d,s2⟩:=aaC (H:=H') (v:=.vec .nil []) (l:=[]) (.inl ⟨rfl,rfl⟩) ah;simp only[go_sem,seval,h3,d,results7];exact⟨_,rfl,rfl⟩
def Rz:List FuncId:=[9,10]
def aqB:List FuncId:=[9,10,19,20,29,88]
noncomputable def jc:Env:={P:=prog,G:=λf=>Rz.contains f,cl:=λf=>aqB.contains f,fq:=λt=>t==40,dyn:=λ_=>true,df:=λ_=>false,ext:=bG xb (aM dG [19,20])}
def aCR:okF jc 9=true:=af
def az8:okF jc 10=true:=af
def az9:jc.P=prog:=(rfl)
attribute [go_sem] az9
def ahZ{f}(h:f≠30)(args)(H):xb f args H=none:=by unfold xb;rw[κ h]
def adm{f}(h:f≠30)(args)(H):jc.ext f args H=aM dG [19,20] f args H:=lS (a:=xb) (b:=aM dG [19,20]) (λa H=>ahZ h a H) args H
def aqC(H):bu jc 19 [nW] H=some (.vec .nil [],H):=ja (fs:=[19,20]) rfl rfl (adm aA) rfl WV rfl rfl H
def aAa(b):(AV.tup [.agg (cU qw),.bool b]).erase=.tup [.agg (cU qw),.bool b]:=by have:(AV.agg (cU qw)).erase=.agg (cU qw):=oE _ _;simp[AV.erase] at this⊢;simp[AV.bare,this]
def aqD(w)(H):bu jc 20 [nW,.str w] H=some (.tup [.agg (cU qw),.bool false],H):=ja (fs:=[19,20]) rfl rfl (adm aA) rfl (ak7 w) (aAa false) rfl H
def avI(args)(H):jc.ext 30 args H=bG xb (aM dG [19,20]) 30 args H:=rfl
def aqE(H):dD jc (run jc) (.fn (.func 30) [] []) [.vec .nil [],.fn (.func 31) [] []] H=some (.tup [],H):=by rw[qz rfl rfl,wK rfl];show jc.ext 30 [.vec .nil [],.fn (.func 31) [] []] H=_;rw[avI];unfold bG;rw[show xb 30 [.vec .nil [],.fn (.func 31) [] []] H=some (.tup [],H) from rfl]
noncomputable def B9:=f9.c.r.r.l.r.b.b
def aem:aK prog (run jc) 9 [nW]=some (.vec .nil []):=by
 refine eX (c:=.seq _ (.seq _ (.seq (.seq _ (.block 0 (.loop B9))) _))) rfl rfl func9 rfl aA (bE:=[nW]) rfl rfl ?_ rfl;have b:B9=.seq _ (.seq _ _):=rfl;simp[go_sem,ab.empty,aqC,jy];simp[bW]
 refine bz (dm (Q:=λa H'=>a 3=.vec .nil []) (by
  rw[aJ,b];simp[go_sem]
  first|exact⟨rfl,rfl⟩|exact⟨trivial,rfl⟩|trivial)) ?_
 rintro _ ⟨a,H',rfl,h3⟩;simp only[go_sem,seval,h3,results9];exact⟨_,rfl,rfl⟩
def avJ(H):bu jc 9 [nW] H=some (.vec .nil [],H):=vo rfl aem H
noncomputable def BU:=f10.c.r.r.r.l.r.b.b
noncomputable def El:=f10.c.r.r.r.r.r.l.r.b.b
def aAb:aK prog (run jc) 10 [nW]=some (.vec .nil []):=by
 refine eX (c:=.seq _ (.seq _ (.seq _ (.seq (.seq _ (.block 0 (.loop BU))) (.seq _ (.seq (.seq _ (.block 2 (.loop El))) _)))))) rfl rfl func10 rfl aA (bE:=[nW]) rfl rfl ?_ rfl;have e:BU=.seq _ (.seq _ _):=rfl;have d:El=.seq (.seq _ _) _:=rfl;have b:(cU qw)[9]? =some (.vec .nil []):=rfl;simp[go_sem,ab.empty,aqD,b,jy];simp[bW]
 refine bz (dm (Q:=λa H'=>a 0=nW/\a 5=.vec .nil []) (by
  rw[aJ,e];simp[go_sem]
  first|exact⟨rfl,rfl,rfl⟩|exact⟨trivial,rfl,rfl⟩|trivial)) ?_
 rintro _ ⟨a,H',rfl,f,h5⟩;simp[go_sem,f,avJ];simp[bW]
 refine bz (dm (Q:=λa H'=>a 5=.vec .nil []) (by
  rw[aJ,d];simp[go_sem,h5]
  first|exact⟨rfl,rfl⟩|exact⟨trivial,rfl⟩|trivial)) ?_
 rintro _ ⟨fS,H2,rfl,g⟩;simp only[go_sem,seval,g,aqE,results10];exact⟨_,rfl,rfl⟩
end Go.Proofs.YtmehamiifalmaaaGreatDoor
