/- Proved: the given statement on LintFinds: for any modules that can be read as data the law returns true and leaves them as they were; the variables that the row lists hold what the card ties to the text. -/
import Derived.Test.YtmehamiifalmaaaGreatDoorG39
import Derived.Test.YtmehamiifalmaaaGreatDoorG37
import Derived.Test.YtmehamiifalmaaaGreatDoorG38
import Derived.Test.YtmehamiifalmaaaGreatDoorTie
import Derived.Carry
import Derived.Lay
import Derived.LaidOnce
import Derived.LaidSub
import Derived.Stop.Joined
set_option linter.all false
namespace Go.Proofs.YtmehamiifalmaaaGreatDoor
open Go Go.Ab Go.Proofs.Tryz
open Go.ChangeShapes Go.WideShapes Go.ChangeAt Go.RowKit
def own:ownKnob prog.godebug=none:=af
def laidOut:laidOutB prog=true:=af
set_option maxRecDepth 100000 in
def arl(os:Os)(started:os.Started)(H:Type)(enc:TypeId×Value->H):
  ReturnsInHanded {} Tryz.checked os 3 .any (λw args=>(Rows.lintFindsSpec.pre enc prog f3 [] false w args/\laidMetH prog Rows.lintFindsRow.laid w)/\sizedMet enc prog f3 (OpenSpec.ofChange Rows.lintFindsSpec) false w args)
   (Rows.lintFindsSpec.post enc prog f3 false true false false):=by
 refine returnsInHanded_of_change_and (C:=Tryz.checked) (X:=λw _=>laidMetH prog Rows.lintFindsRow.laid w) (λ_ _ _ hh h=>h.of_heap hh) own started af func3
  (ChangeSpec.witness_shaped (enc:=enc) (C:=Tryz.checked) (os:=os) (X:=λw _=>laidMetH prog Rows.lintFindsRow.laid w) false (World.laidAll prog os Rows.lintFindsRow.laid) #[.slice none 0 0] 8 (World.laidAll_os _ _ _)
   (World.shaped_of_ZipB af af) af af af
   (by rw[MakeChecks.laidMetH_plain _ _ _ af];exact laidMet_laidAll _ af af)) ?_
 intro W base args ds gs before aA1 hW _ _ hL _;have vK:∀(j:Nat) t v,f3.params[j]? =some t->args[j]? =some v->Value.okWide prog W .any base t v:=aA1;have UA:=hW;obtain⟨p,q,hA0,hV,rfl,uP,nA⟩:=hW;have hA:DataW.TrodAll enc prog W 0 (λ_=>true) true f3.params.toList args.toList ds p:=hA0;rw[Tryz.params3] at hA vK;obtain⟨v0,d0,rfl,rfl,h0⟩:=trodAll_one hA;obtain⟨rfl,rfl⟩:=trodVars_none hV;obtain⟨k,l,hl,hr⟩:=aAO (vK 0 22 v0 rfl rfl) h0;have aDO:∀x∈p,x.block<W.heap.size:=λx hx=>UA.lt x (by simp[hx]);simp only[Η] at UA;refine(aAP hl hr (aA0 hL)).mono λe W' ⟨he,bel⟩=> ?_;subst he;exact⟨_,rfl,_,_,_,[],_,[],UA,trodAll_mk1 (shut_bool underlying4 _),trodAll_mk1 (Below.trod laidOut af (aEr af) h0 bel aDO),rfl,bel.frame _,λh=>by cases h⟩
def aA2:Rows.lintFindsRow.holds Tryz.pinned (OpenSpec.ofChange Rows.lintFindsSpec):=
 OpenClaim.holds_of_wide 3 f3 rfl rfl rfl rfl rfl rfl rfl ⟨rfl,rfl,rfl,rfl,rfl⟩ rfl rfl rfl rfl rfl awS func3 awT
  (aEr af) (by unfold Func.isWrapper;first|(rw[μ (by decide+kernel)];kernel_rfl)|(rw[κ (by decide+kernel)];exact⟨rfl,rfl⟩))
  (λos a H enc _=>arl os a H enc)
theorem lintFindsDone:Rows.LintFindsCardSaid:=
 Claim7.holds_tied_plain_at .later [] [.data,.data,.data,.data,.sentinel,.sentinel,.pinned] true (true, "c2c978cacdeaec35a923a2a696953f557ae849ababc85e1099b3645255b1ad5a") true aA2 (λ_ h=>by cases h) ark (λ_ h=>by cases h) lintFinds_row_tie rfl ⟨rfl,rfl⟩ aim rfl
  (λf fn hf b=>by
   obtain rfl:f=3:=aEP (ag4.symm.trans hf) |>.symm;obtain rfl:fn=f3:=(aEP (func3.symm.trans b)).symm
   exact⟨ag3,λj t a=>by
    rw[Tryz.params3] at a;have hm:t∈[22]:=by simpa using aFf a
    exact(show prog.wantsStandIn t=false by simpa using aEi.1 ag5 t hm)⟩)
  ail
end Go.Proofs.YtmehamiifalmaaaGreatDoor
