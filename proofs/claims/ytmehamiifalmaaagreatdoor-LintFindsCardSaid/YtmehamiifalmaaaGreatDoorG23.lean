/- LintFinds: part 24 of its proof. -/
import Derived.Test.YtmehamiifalmaaaGreatDoorG22
set_option linter.all false
namespace Go.Proofs.YtmehamiifalmaaaGreatDoor
open Go Go.Ab Go.Proofs.Tryz
set_option maxRecDepth 1000000
set_option maxHeartbeats 8000000
def s0:List UInt8:=[100,101,102,32,109,97,105,110,40,41,32,123,32,108,101,116,32,97,32,61,32,49,59,32,125]
def avK(b1 b2):lC none (gh [] [lB gQ s0 b1 b2])=0:=af
def avL(b1 b2):oF [lB gQ s0 b1 b2] [lB gQ s0 b1 b2]=[(gQ,17,4)]:=af
def aqF:∃us,nR [(gQ,s0)]=.ok us/\oL us=[(gQ,17,4)]:=by
 refine⟨[eK (gQ,s0)],?_,?_⟩
 ·unfold nR qv;have h:lC none (gh [] ([(gQ,s0)].map eK))=0:=avK _ _;rw[κ ah,μ h];rfl
 ·exact List.perm_singleton.1 ((H9 _).trans (by rw[show oF [eK (gQ,s0)] [eK (gQ,s0)]=[(gQ,17,4)] from avL _ _]))
def RA:List FuncId:=[6]
def aqG:List FuncId:=[6,7,17]
noncomputable def lD:Env:={P:=prog,G:=λf=>RA.contains f,cl:=λf=>aqG.contains f,fq:=λ_=>false,dyn:=λ_=>false,df:=λ_=>false,ext:=bG (aM fc [17]) (aM aV [7])}
def aCS:okF lD 6=true:=af
def aAc:lD.P=prog:=(rfl)
attribute [go_sem] aAc
def avM(args)(H):lD.ext 17 args H=aM fc [17] 17 args H:=za (a:=aM fc [17]) (b:=aM aV [7]) (eZ rfl) args H
def aAd(args)(H):lD.ext 7 args H=aM aV [7] 7 args H:=lS (a:=aM fc [17]) (b:=aM aV [7]) (f:=7) (eZ rfl) args H
def aqH{us:List Un}(h:nR [(gQ,s0)]=.ok us)(H):bu lD 17 [.vec .full [.agg [.str gQ,.str s0]]] H=some (.tup [.rptr [.vec (aD us.length) (vU us)],.i 0],H):=
 ja (fs:=[17]) rfl rfl avM rfl (by
  have:=abN 1 [(gQ,s0)] ah;rw[h] at this;rw[<-HZ]
  exact this) rfl (by
  show((fD us).aq&&_)=true
  rw[yR];rfl) H
def acg(l:List Fi)(n):(AV.vec (aD n) (l.map dI)).erase=.vec (aD n) (l.map dI):=by simp[AV.erase,AV.bare,oq]
def avN{us:List Un}(a:gl us)(h:oL us=[(gQ,17,4)])(H):bu lD 7 [.rptr [.vec (aD us.length) (vU us)]] H=some (.vec .ro [.agg [.str gQ,.i 17,.i 4]],H):=
 ja (fs:=[7]) rfl rfl aAd rfl (by
  have:=of7 a;rw[h] at this
  exact this) rfl rfl H
def avO(a b c):bV prog 33 1 (.rptr [a,b,c])=some (.rptr [b,c]):=(EZ Qk 1 _ rfl ez).trans (μ (show 1<=3 by decide))
def aAe(a b)(H):dZ prog 22 1 [(0,.agg [.str a,.str b])] H=some (.vec .full [.agg [.str a,.str b]],H):=vB aoP (.agg [.str a,.str b]) rfl rfl aA H
def avP:aK prog (run lD) 6 []=some (.bool true):=by obtain⟨us,d,e⟩:=aqF;have a:=aqH d;have b:=avN (aah d) e;simp[gQ,s0] at a b;have f:dW prog 28 (.vec .ro [.agg [.str [109,97,105,110],.i 17,.i 4]]) (.i 0)=some (.rptr [.str [109,97,105,110],.i 17,.i 4]):=rP (l:=[(gQ,17,4)]) (i:=0) JJ Fy dI .ro rfl rfl;have b2:((4:Int)==4)=true:=rfl;have g:((17:Int)==17)=true:=rfl;refine qy (c:=.seq _ (.seq _ (.seq _ (.seq _ _)))) rfl rfl func6 rfl aA (bE:=[]) rfl rfl ?_ rfl rfl;simp[go_sem,ab.empty,aQ,aAe,a,b,f,avO,b2,g,results6]
def RB:List FuncId:=[3]
def aqI:List FuncId:=[3,5,6,7,8,9,10]
noncomputable def mW:Env:={P:=prog,G:=λf=>RB.contains f,cl:=λf=>aqI.contains f,fq:=λ_=>false,dyn:=λ_=>false,df:=λ_=>false,ext:=bG (aM fc [5]) (bG (aM aV [7]) (bG (aM aE [8]) (bG (aM lD [6]) (aM jc [9,10]))))}
def aCT:okF mW 3=true:=af
def aAf:mW.P=prog:=(rfl)
def aAg:mW.dyn 10=false:=(rfl)
attribute [go_sem] aAf aAg
def aAh(args)(H):mW.ext 5 args H=aM fc [5] 5 args H:=by show bG (aM fc [5]) (bG (aM aV [7]) (bG (aM aE [8]) (bG (aM lD [6]) (aM jc [9,10])))) 5 args H=_;have n7:aM aV [7] 5 args H=none:=eZ rfl args H;have n8:aM aE [8] 5 args H=none:=eZ rfl args H;have n6:aM lD [6] 5 args H=none:=eZ rfl args H;have a:aM jc [9,10] 5 args H=none:=eZ rfl args H;cases h:aM fc [5] 5 args H<;>simp[bG,h,n7,n8,n6,a]
def adn(args)(H):mW.ext 7 args H=aM aV [7] 7 args H:=by show bG (aM fc [5]) (bG (aM aV [7]) (bG (aM aE [8]) (bG (aM lD [6]) (aM jc [9,10])))) 7 args H=_;have a:aM fc [5] 7 args H=none:=eZ rfl args H;have n8:aM aE [8] 7 args H=none:=eZ rfl args H;have n6:aM lD [6] 7 args H=none:=eZ rfl args H;have b:aM jc [9,10] 7 args H=none:=eZ rfl args H;cases h:aM aV [7] 7 args H<;>simp[bG,h,a,n8,n6,b]
def aAi(args)(H):mW.ext 8 args H=aM aE [8] 8 args H:=by show bG (aM fc [5]) (bG (aM aV [7]) (bG (aM aE [8]) (bG (aM lD [6]) (aM jc [9,10])))) 8 args H=_;have a:aM fc [5] 8 args H=none:=eZ rfl args H;have n7:aM aV [7] 8 args H=none:=eZ rfl args H;have n6:aM lD [6] 8 args H=none:=eZ rfl args H;have b:aM jc [9,10] 8 args H=none:=eZ rfl args H;cases h:aM aE [8] 8 args H<;>simp[bG,h,a,n7,n6,b]
def aAj(args)(H):mW.ext 6 args H=aM lD [6] 6 args H:=by show bG (aM fc [5]) (bG (aM aV [7]) (bG (aM aE [8]) (bG (aM lD [6]) (aM jc [9,10])))) 6 args H=_;have a:aM fc [5] 6 args H=none:=eZ rfl args H;have n7:aM aV [7] 6 args H=none:=eZ rfl args H;have n8:aM aE [8] 6 args H=none:=eZ rfl args H;have b:aM jc [9,10] 6 args H=none:=eZ rfl args H;cases h:aM lD [6] 6 args H<;>simp[bG,h,a,n7,n8,b]
def aAk(args)(H):mW.ext 9 args H=aM jc [9,10] 9 args H:=by show bG (aM fc [5]) (bG (aM aV [7]) (bG (aM aE [8]) (bG (aM lD [6]) (aM jc [9,10])))) 9 args H=_;have a:aM fc [5] 9 args H=none:=eZ rfl args H;have n7:aM aV [7] 9 args H=none:=eZ rfl args H;have n8:aM aE [8] 9 args H=none:=eZ rfl args H;have n6:aM lD [6] 9 args H=none:=eZ rfl args H;cases h:aM jc [9,10] 9 args H<;>simp[bG,h,a,n7,n8,n6]
def avQ(args)(H):mW.ext 10 args H=aM jc [9,10] 10 args H:=by show bG (aM fc [5]) (bG (aM aV [7]) (bG (aM aE [8]) (bG (aM lD [6]) (aM jc [9,10])))) 10 args H=_;have a:aM fc [5] 10 args H=none:=eZ rfl args H;have n7:aM aV [7] 10 args H=none:=eZ rfl args H;have n8:aM aE [8] 10 args H=none:=eZ rfl args H;have n6:aM lD [6] 10 args H=none:=eZ rfl args H;cases h:aM jc [9,10] 10 args H<;>simp[bG,h,a,n7,n8,n6]
def ach(H):bu mW 6 [] H=some (.bool true,H):=ja (fs:=[6]) rfl rfl aAj rfl avP rfl rfl H
def aqJ(H):bu mW 7 [nW] H=some (.vec .nil [],H):=ja (fs:=[7]) rfl rfl adn rfl aCQ rfl rfl H
def aqK(H):bu mW 9 [nW] H=some (.vec .nil [],H):=ja (fs:=[9,10]) rfl rfl aAk rfl aem rfl rfl H
def ak9(H):bu mW 10 [nW] H=some (.vec .nil [],H):=ja (fs:=[9,10]) rfl rfl avQ rfl aAb rfl rfl H
def avR{us}(a:gl us)(H):bu mW 7 [fD us] H=some (.vec (aD (oL us).length) ((oL us).map dI),H):=ja (fs:=[7]) rfl rfl adn rfl (of7 a) (acg _ _) (jO (go_fi _)) H
def avS{us}(a:gl us)(H):bu mW 8 [fZ us] H=some (.vec (aD (oL us).length) ((oL us).map dI),H):=ja (fs:=[8]) rfl rfl aAi rfl (of8 a) (acg _ _) (jO (go_fi _)) H
def aCU(o){l:List Fi}{i:Nat}{x:Fi}(h:l[i]? =some x):dW prog 28 (.vec o (l.map dI)) (.i i)=some (.rptr (jv x)):=rP JJ Fy dI o h rfl
noncomputable def B3:=f3.c.r.r.r.r.r.l.r.b.b
def ado{l:List Fi}(u:l.length<=1000000000){o:Ab.Own}:∀r i α H,l.drop i=r->i+r.length=l.length->α 7=.vec o (l.map dI)->α 28=.vec o (l.map dI)->α 29=.i l.length->α 30=.i i->
  aF (aL (aT mW B3) α H) λe ae H'=>e=.exit 0
 |[],i,α,⟨n,L⟩,g,m,a7,d,c,j=>by
  have h:B3=.seq _ (.seq _ (.seq (.block _ (.seq _ (.seq _ (.cond _ _ _)))) _)):=rfl;have f:=dY (a:=i) (b:=l.length) (by simp at m;omega);rw[aJ,h];simp only[go_sem,seval,c,j,f];try first|trivial|rfl
 |x::r,i,α,⟨n,L⟩,g,m,a7,d,c,j=>by
  have h:B3=.seq _ (.seq _ (.seq (.block _ (.seq _ (.seq _ (.cond _ _ _)))) _)):=rfl;simp at m;have f:=ec (a:=i) (b:=l.length) aa;have s:l[i]? =some x:=by have:=Ι (·[0]?) g;simpa using this
  have v:l.drop (i+1)=r:=by rw[<-List.drop_drop,g];rfl
  have p:=aCU o s;have q:=KY o s;have y:=bf (n<n+1);obtain⟨w,t,k⟩:=x;have n1:(w==w)=true:=ah;have n2:(t != t)=false:=ah;have z:(k != k)=false:=ah;have o1:eg [.str [],.i 0,.i 0] 0 [.str w,.i t,.i k]=[.str w,.i t,.i k]:=rfl;simp[jv] at p q;rw[aJ,h];simp only[go_sem,seval,a7,d,c,j,f,p,q,y,o1,n1,n2,z,ω,(eN i aa)];refine(λα H=>ado u (o:=o) r (i+1) α H v aa) _ _ ?_ ?_ ?_ ?_;all_goals simp only[go_sem,seval,a7,d,c]
def aCV(ko)(l:List Md)(j:l.length<=9223372036854775807):aK prog (run mW) 3 [.vec (aD ko) (l.map fK)]=some (.bool true):=by
 obtain⟨v,h5,k,m,g⟩:=aqA ko l j;have f:∀H,bu mW 5 [.vec (aD ko) (l.map fK),.i 2000] H=some (v,H):=λH=>ja (fs:=[5]) rfl rfl aAh rfl h5 m k H;refine eX (c:=.seq _ (.seq _ (.seq (.seq _ (.cond _ _ _)) (.seq _ (.seq (.seq _ (.cond _ _ _)) (.seq (.seq _ (.block 0 (.loop B3))) _)))))) rfl rfl func3 rfl (by rw[ntmps3];simp) (bE:=[.vec (aD ko) (l.map fK)]) (by simp[AV.erase,AV.bare,oq]) ?_ ?_ rfl
 ·show((AV.vec (aD ko) (l.map fK)).aq&&_)=true;rw[jO (Dg l)];rfl
 rcases g with⟨a,b,rfl⟩|⟨us,h,rfl⟩
 ·simp only[go_sem,seval,ab.empty,f,ach,χ,results3];exact⟨_,rfl,rfl⟩
 ·have d:=aah h;have qg:=HJ (us:=us) us d.kW;have wk:=ahV us;have tB:=d.fT;have n1:(((oL us).length:Int) != ((oL us).length:Int))=false:=ah;simp[go_sem,ab.empty,f,avR d,avS d,Qu,n1,ω];simp[bW];refine bz (oW (ado (l:=oL us) (o:=aD (oL us).length) aa (oL us) 0 _ _ rfl aa ?_ ?_ ?_ ?_)) ?_
  case refine_5=>
   rintro _ ⟨e,ae,H',rfl,rfl⟩;simp only[go_sem,seval,ach,qI,aqJ,aqK,ak9,results3];exact⟨_,rfl,rfl⟩
  all_goals simp[go_sem]
  all_goals(try rfl)
def avT:prog.follows .mixedOrders=true:=af
def avU{E:Env}(a:E.P=prog)(h:∀f,E.G f=true->okF E f=true)(b:dK E.P E.ext):ir E where
 mixed:=by rw[a];exact avT
 kW:=λf hf=>Xm (h f hf)
 ext:=b
def oz{E:Env}(l:List FuncId)(a:E.P=prog)(c:∀f,E.G f=l.contains f)(h:l.all (okF E)=true)(b:dK E.P E.ext):ir E:=
 avU a (λf hf=>aEi.1 h f (aEs.1 ((c f).symm.trans hf))) b
def af2{E}(b:ir E){f}(h:E.G f=true):kM E.P f:=by obtain⟨fn,c,a,d,h3,_⟩:=b.kW f h;exact⟨fn,a,h3,by rw[d];rfl⟩
def mH{E}(a:ir E){fs:List FuncId}(h:fs.all E.G=true):dK E.P (aM E fs):=
 auS a λf hf=>af2 a (aEi.1 h f (aEs.1 hf))
def Dl(P):dK P (λ_ _ _=>none):=λf args H v H' h=>by cases h
structure xl:Prop where
 lex:dK prog Km
 item:dK prog tq
 sI:dK prog w9
 sS:dK prog w_
 sG:dK prog yQ
 sH:dK prog xb
def avV(g:xl):ir ak:=oz QM rfl (λ_=>rfl) amM g.lex
def avW:ir cC:=oz Rc rfl (λ_=>rfl) (by simp[Rc,aEB,aFg,aB8,aB9,aCa,aCb,aCc,aCd]) (Dl _)
def avX:ir ej:=oz QR rfl (λ_=>rfl) anQ (Dl _)
def Qv:ir eU:=oz Ka rfl (λ_=>rfl) apu (Dl _)
def avY:ir gJ:=oz Kc rfl (λ_=>rfl) (by simp[Kc,aEB,aFg,ay8,ay9,aza,azb,azc]) (Dl _)
def avZ:ir ek:=oz Rv rfl (λ_=>rfl) (by simp[Rv,aEB,aFg,azm,azn,azo,azp,azq]) (Dl _)
def JR:ir aE:=oz Dj rfl (λ_=>rfl) (by simp[Dj,aEB,aFg,aCL,azZ,az0,az1]) (mH avY rfl)
def av0:ir gj:=oz Rk rfl (λ_=>rfl) apB (mH Qv rfl)
def aci(g:xl):ir dG:=oz Rr rfl (λ_=>rfl) (by simp[Rr,aEB,aFg,ayO,ayP,ayQ,ayR,ayS,ayT,ayU,ayV,ayW]) (mJ g.item (mJ g.sI (mJ g.sS (mH Qv rfl))))
def acj(g:xl):ir aV:=oz Rw rfl (λ_=>rfl) (by simp[Rw,aEB,aFg,aCE,azy,azz,azA,azB,azC,azD,avw,azE,azF,avx,azG,azH,azI,azJ]) (mJ g.sG (mJ (mH (aci g) rfl) (mH avZ rfl)))
def ala:dK prog A7:=λf args H v H' h=>by
 unfold A7 at h;split at h
 ·exact EI avX f args H v H' h
 ·cases h
def av1:ir bA:=oz QS rfl (λ_=>rfl) anS ala
def av2(g:xl):ir ju:=oz [39,41] rfl (λ_=>rfl) okA (mJ (mH (avV g) rfl) (mJ (mH av1 rfl) (mH avW rfl)))
def ack(g:xl):ir fc:=oz Rp rfl (λ_=>rfl) apL (mJ (mH (av2 g) rfl) (mJ (mH av0 rfl) (mH Qv rfl)))
def av3(g:xl):ir jc:=oz Rz rfl (λ_=>rfl) (by simp[Rz,aEB,aFg,aCR,az8]) (mJ g.sH (mH (aci g) rfl))
def av4(g:xl):ir lD:=oz RA rfl (λ_=>rfl) (by simp[RA,aEB,aFg,aCS]) (mJ (mH (ack g) rfl) (mH (acj g) rfl))
def av5(g:xl):ir mW:=oz RB rfl (λ_=>rfl) (by simp[RB,aEB,aFg,aCT]) (mJ (mH (ack g) rfl) (mJ (mH (acj g) rfl) (mJ (mH JR rfl) (mJ (mH (av4 g) rfl) (mH (av3 g) rfl)))))
end Go.Proofs.YtmehamiifalmaaaGreatDoor
