/- Proved: the given statement on LintCalls: for any arguments that can be read as data the law returns true and leaves them as they were; the variables that the row lists hold what the card ties to the text. -/
import Derived.Test.YtmehamiifalmaaaGreatDoorG35
import Derived.Test.YtmehamiifalmaaaGreatDoorG40
import Derived.Test.YtmehamiifalmaaaGreatDoorG41
import Derived.Test.YtmehamiifalmaaaGreatDoorTie
import Derived.Carry
import Derived.Lay
import Derived.LaidOnce
import Derived.LaidSub
import Derived.Stop.Joined
set_option linter.all false
namespace Go.Proofs.YtmehamiifalmaaaGreatDoor
open Go Go.Ab Go.Proofs.Tryz
open Go.ChangeShapes Go.WideShapes Go.ChangeAt Go.RowKit
def aCL:ownKnob prog.godebug=none:=af
def X':laidOutB prog=true:=af
set_option maxRecDepth 100000 in
def aqB(os:Os)(started:os.Started)(H:Type)(enc:TypeId×Value->H):
  ReturnsInHanded {} Tryz.checked os 4 .any (λw args=>(Rows.lintCallsSpec.pre enc prog f4 [] false w args/\laidMetH prog Rows.lintCallsRow.laid w)/\sizedMet enc prog f4 (OpenSpec.ofChange Rows.lintCallsSpec) false w args)
   (Rows.lintCallsSpec.post enc prog f4 false true false false):=by
 refine returnsInHanded_of_change_and (C:=Tryz.checked) (X:=λw _=>laidMetH prog Rows.lintCallsRow.laid w) (λ_ _ _ hh h=>h.of_heap hh) aCL started af func4
  (ChangeSpec.witness_shaped (enc:=enc) (C:=Tryz.checked) (os:=os) (X:=λw _=>laidMetH prog Rows.lintCallsRow.laid w) false (World.laidAll prog os Rows.lintCallsRow.laid) #[.slice none 0 0,.agg #[.string .empty,.int .i64 0]] 8 (World.laidAll_os _ _ _)
   (World.shaped_of_ZipB af af) af af af
   (by rw[MakeChecks.laidMetH_plain _ _ _ af];exact laidMet_laidAll _ af af)) ?_
 intro W base args ds gs before azX hW _ _ hL _;have tV:∀(j:Nat) t v,f4.params[j]? =some t->args[j]? =some v->Value.okWide prog W .any base t v:=azX;have L7:=hW;obtain⟨p,q,hA0,hV,rfl,ur,pG⟩:=hW;have hA:DataW.TrodAll enc prog W 0 (λ_=>true) true f4.params.toList args.toList ds p:=hA0;rw[Tryz.params4] at hA tV;obtain⟨v0,v1,d0,d1,p0,p1,rfl,rfl,rfl,h0,h1⟩:=trodAll_two hA;obtain⟨rfl,rfl⟩:=trodVars_none hV;obtain⟨k,l,hl,hr⟩:=azx (tV 0 22 v0 rfl rfl) h0;obtain⟨s,hs⟩:=azy (tV 1 44 v1 rfl rfl) h1;have aCM:∀x∈p0,x.block<W.heap.size:=λx hx=>L7.lt x (by simp[hx]);have aCN:∀x∈p1,x.block<W.heap.size:=λx hx=>L7.lt x (by simp[hx]);simp only[aDi] at L7;refine(azz hl hr hs (azA hL)).mono λe W' ⟨he,Ub⟩=> ?_;subst he;exact⟨_,rfl,_,_,_,[],_,[],L7,trodAll_mk1 (shut_bool underlying4 _),trodAll_mk2 (Below.trod X' af (aFI af) h0 Ub aCM) (Below.trod X' af (aFI af) h1 Ub aCN),rfl,Ub.frame _,λh=>by cases h⟩
def azY:Rows.lintCallsRow.holds Tryz.pinned (OpenSpec.ofChange Rows.lintCallsSpec):=
 OpenClaim.holds_of_wide 4 f4 rfl rfl rfl rfl rfl rfl rfl ⟨rfl,rfl,rfl,rfl,rfl⟩ rfl rfl rfl rfl rfl avP func4 aqA
  (aFI af) (by unfold Func.isWrapper;first|(rw[ν (by decide+kernel)];kernel_rfl)|(rw[κ (by decide+kernel)];exact⟨rfl,rfl⟩))
  (λos a H enc _=>aqB os a H enc)
theorem lintCallsDone:Rows.LintCallsCardSaid:=
 Claim7.holds_tied_plain_at .later [] [.data,.data,.data,.data,.sentinel,.sentinel,.pinned] true (true, "c2c978cacdeaec35a923a2a696953f557ae849ababc85e1099b3645255b1ad5a") true azY (λ_ h=>by cases h) akZ (λ_ h=>by cases h) lintCalls_row_tie rfl ⟨rfl,rfl⟩ agu rfl
  (λf fn b c=>by
   obtain rfl:f=4:=aDP (afw.symm.trans b) |>.symm;obtain rfl:fn=f4:=(aDP (func4.symm.trans c)).symm
   exact⟨afv,λj t a=>by
    rw[Tryz.params4] at a;have hm:t∈[22,44]:=by simpa using aEf a
    exact(show prog.wantsStandIn t=false by simpa using aDn.1 afx t hm)⟩)
  agt
end Go.Proofs.YtmehamiifalmaaaGreatDoor
