/- LintCalls: part 27 of its proof. -/
import Derived.Test.YtmehamiifalmaaaGreatDoorG24
import Derived.Test.YtmehamiifalmaaaGreatDoorG25
set_option linter.all false
namespace Go.Proofs.YtmehamiifalmaaaGreatDoor
open Go Go.Ab Go.Proofs.Tryz
set_option maxRecDepth 100000
set_option maxHeartbeats 8000000
def Q4:List FuncId:=[4,13]
def apY:List FuncId:=[4,5,6,9,10,11,12,14,15]
noncomputable def fp:Env:={P:=prog,G:=λf=>Q4.contains f,cl:=λf=>apY.contains f,eX:=λ_=>false,dyn:=λi=>i==26||i==29,df:=λ_=>false,ext:=bQ (bf gF [5]) (bQ (bf n_ [6]) (bQ (bf dv [9]) (bQ (bf fZ [10]) (bQ (bf cX [11,12,14]) (bf oK [15])))))}
def ayV:okF fp 13=true:=af
def aBK:okF fp 4=true:=af
def ayW:fp.P=prog:=(rfl)
def apZ:fp.dyn 10=false:=(rfl)
def ap0:fp.dyn 19=false:=(rfl)
attribute [go_sem] ayW apZ ap0
def vg{a b}{f}(c:∀args H,a f args H=none)(hb:∀args H,b f args H=none)(args)(H):bQ a b f args H=none:=by rw[gT c,hb]
section
variable (args:List AV) (H:ab)
def ayX:fp.ext 5 args H=bf gF [5] 5 args H:=by show bQ (bf gF [5]) (bQ (bf n_ [6]) (bQ (bf dv [9]) (bQ (bf fZ [10]) (bQ (bf cX [11,12,14]) (bf oK [15]))))) 5 args H=_;rw[rH (vg (ep (fs:=[6]) rfl) (vg (ep (fs:=[9]) rfl) (vg (ep (fs:=[10]) rfl) (vg (ep (fs:=[11,12,14]) rfl) (ep (fs:=[15]) rfl)))))]
def ayY:fp.ext 6 args H=bf n_ [6] 6 args H:=by show bQ (bf gF [5]) (bQ (bf n_ [6]) (bQ (bf dv [9]) (bQ (bf fZ [10]) (bQ (bf cX [11,12,14]) (bf oK [15]))))) 6 args H=_;rw[gT (ep (fs:=[5]) rfl),rH (vg (ep (fs:=[9]) rfl) (vg (ep (fs:=[10]) rfl) (vg (ep (fs:=[11,12,14]) rfl) (ep (fs:=[15]) rfl))))]
def ayZ:fp.ext 9 args H=bf dv [9] 9 args H:=by show bQ (bf gF [5]) (bQ (bf n_ [6]) (bQ (bf dv [9]) (bQ (bf fZ [10]) (bQ (bf cX [11,12,14]) (bf oK [15]))))) 9 args H=_;rw[gT (ep (fs:=[5]) rfl),gT (ep (fs:=[6]) rfl),rH (vg (ep (fs:=[10]) rfl) (vg (ep (fs:=[11,12,14]) rfl) (ep (fs:=[15]) rfl)))]
def avh:fp.ext 10 args H=bf fZ [10] 10 args H:=by show bQ (bf gF [5]) (bQ (bf n_ [6]) (bQ (bf dv [9]) (bQ (bf fZ [10]) (bQ (bf cX [11,12,14]) (bf oK [15]))))) 10 args H=_;rw[gT (ep (fs:=[5]) rfl),gT (ep (fs:=[6]) rfl),gT (ep (fs:=[9]) rfl),rH (vg (ep (fs:=[11,12,14]) rfl) (ep (fs:=[15]) rfl))]
def avi:fp.ext 15 args H=bf oK [15] 15 args H:=by show bQ (bf gF [5]) (bQ (bf n_ [6]) (bQ (bf dv [9]) (bQ (bf fZ [10]) (bQ (bf cX [11,12,14]) (bf oK [15]))))) 15 args H=_;rw[gT (ep (fs:=[5]) rfl),gT (ep (fs:=[6]) rfl),gT (ep (fs:=[9]) rfl),gT (ep (fs:=[10]) rfl),gT (ep (fs:=[11,12,14]) rfl)]
def Q5{f}(h:f=11\/f=12\/f=14):fp.ext f args H=bf cX [11,12,14] f args H:=by show bQ (bf gF [5]) (bQ (bf n_ [6]) (bQ (bf dv [9]) (bQ (bf fZ [10]) (bQ (bf cX [11,12,14]) (bf oK [15]))))) f args H=_;rcases h with rfl|rfl|rfl<;>rw[gT (ep (fs:=[5]) rfl),gT (ep (fs:=[6]) rfl),gT (ep (fs:=[9]) rfl),gT (ep (fs:=[10]) rfl),rH (ep (fs:=[15]) rfl)]
end
variable {us:List Un}
def PY(H):bt fp 6 [] H=some (.bool true,H):=ji (fs:=[6]) rfl rfl ayY rfl au8 rfl rfl H
def avj(a:jV us)(H):bt fp 9 [dD us] H=some (.vec (au (eu us).length) ((eu us).map fj),H):=ji (fs:=[9]) rfl rfl ayZ rfl (PO a) (Av _) (iE (go_ca _)) H
def ap3(b:jV us)(H):bt fp 11 [fu us] H=some (.vec (au (eu us).length) ((eu us).map fj),H):=ji (fs:=[11,12,14]) rfl rfl (λa H=>Q5 a H (.inl rfl)) rfl (Z0 b) (Av _) (iE (go_ca _)) H
open Classical in
def Z_(hp:jV us)(s:Sp)(H):bt fp 15 [dD us,.agg [.str s.1,.i s.2]] H=some (.bool (decide (gA ((eu us).map lB) [s] s)),H):=ji (fs:=[15]) rfl rfl avi rfl (apP hp s) rfl rfl H
def ap4{cs:List Cp}(c:cs.length<=128000000)(s:Sp):∃out,wG cs [s] out/\∀H,bt fp 14 [.vec (au cs.length) (cs.map fw),.vec .full [.agg [.str s.1,.i s.2]]] H=some (.vec (au out.length) (out.map b_),H):=by obtain⟨out,b,d⟩:=Z3 cs [s] c (by simp);refine⟨out,b,λH=>ji (E:=cX) (fs:=[11,12,14]) rfl rfl (λa H=>Q5 a H (.inr (.inr rfl))) rfl ?_ (Av _) (iE (go_sp _)) H⟩;rw[<-wh,show(cX.P)=prog from rfl,<-d,<-wh (args:=[.vec (au cs.length) (cs.map fw),.vec (au [s].length) ([s].map b_)])];congr 1
def Ii(c a)(H):dX fp (run fp) (.fn (.func 13) [] [c]) [a] H=run fp 13 [a,c] H:=by simp[dX,target,rf,show fp.cl 13=false from rfl,show fp.io 13=false from rfl]
def acN(o){l:List Sp}{i:Nat}{x:Sp}(h:l[i]? =some x):dC prog 52 (.vec o (l.map b_)) (.i i)=some (.rptr [.str x.1,.i x.2]):=oC I7 Ap b_ o h rfl
def ay0(o){l:List Cp}{i:Nat}{x:Cp}(h:l[i]? =some x):dC prog 45 (.vec o (l.map fw)) (.i i)=some (.rptr [.str x.1.1,.i x.1.2,.str x.2.1,.i x.2.2]):=oC I6 I5 fw o h rfl
def Q6(c)(a b)(x y:Int):lN prog .neq 49 c (.agg [.str a,.i x]) (.agg [.str b,.i y])=some (.bool (!decide ((a,x)=(b,y)))):=by rw[tA rfl];simp[ew,OD,acD,lY,sw,wH];rw[show(x==y)=decide (x=y) from rfl];by_cases h:a=b<;>by_cases k:x=y<;>simp[h,k]
noncomputable def LN:=f13.c.r.l.r.b.b
def abA{o}{l:List Sp}(F:l.length<=1000000000){s:Sp}{p2:Nat}{H0:ab}:∀r i α H,l.drop i=r->eS H0 H->(∃te,H.get p2=some (.c te [.str s.1,.i s.2]))->α 2=.ptr p2 0->α 9=.vec o (l.map b_)->α 10=.i l.length->α 11=.i i->
  aD (aJ (aO fp LN) α H) λe z H'=>eS H0 H'/\((e=.exit 0/\¬s∈r)\/(e=.ret/\s∈r/\z 3=.bool true))
 |[],i,α,⟨n,L⟩,u,t,w,a2,g,bT,f=>by have v:LN=.seq _ (.seq (.cond _ _ _) (.seq (.block 1 (.seq _ (.seq _ (.cond _ (.seq _ _) _)))) _)):=rfl;have hi:l.length<=i:=Κ.1 u;have m:=d_ (a:=i) (b:=l.length) (by omega);rw[aG,v];simp only[go_sem,seval,bT,f,m];exact⟨t,.inl ⟨aK,ai⟩⟩
 |x::r,i,α,⟨n,L⟩,u,t,w,a2,g,bT,f=>by
  have v:LN=.seq _ (.seq (.cond _ _ _) (.seq (.block 1 (.seq _ (.seq _ (.cond _ (.seq _ _) _)))) _)):=rfl;obtain⟨G,I,E⟩:=mD u;have m:=dM I;have C:=acN o G;have w1:=fD i aa;have y:=aY (n<n+1);have A:∃te,ab.get ⟨n+1,(n,.k 49 [.str x.1,.i x.2])::L⟩ p2=some (.c te [.str s.1,.i s.2]):=w.imp λ_ q=>(eS.push ⟨n,L⟩ _).2 _ _ q;have D:eS H0 ⟨n+1,(n,.k 49 [.str x.1,.i x.2])::L⟩:=t.trans (eS.push ⟨n,L⟩ _);have B:=A_ A;have d:=λc=>acH c x.1 s.1 x.2 s.2;rw[aG,v];by_cases j:x=s
  ·have p:decide ((x.1,x.2)=(s.1,s.2))=true:=π j;rw[p] at d;simp only[go_sem,seval,a2,g,bT,f,m,C,B,y,d];exact⟨D,.inr ⟨aK,by rw[j];exact as1,by simp[go_sem]⟩⟩
  ·have p:decide ((x.1,x.2)=(s.1,s.2))=false:=ξ j;rw[p] at d;simp only[go_sem,seval,a2,g,bT,f,m,C,B,y,d,w1];refine aT ((λα=>abA (o:=o) F (s:=s) (p2:=p2) r (i+1) α _ E D A) _ ?_ ?_ ?_ ?_) ?_
   case refine_5=>
    rintro e z H' ⟨k,⟨a,b⟩|⟨a,b,c⟩⟩
    ·exact⟨k,.inl ⟨a,λhm=>(Ν.1 hm).elim (λh=>j h.symm) b⟩⟩
    ·exact⟨k,.inr ⟨a,Η _ b,c⟩⟩
   all_goals simp[go_sem,a2,g,bT]
def ap5(x:Sp)(H:ab):dS prog 52 1 [(0,.agg [.str x.1,.i x.2])] H=some (.vec .full [.agg [.str x.1,.i x.2]],H):=tL EL (b_ x) rfl rfl aA H
open Classical in
def abB{cs:List Cp}(hc:cs.length<=128000000){H:ab}{p9:Nat}(h9:∃te,H.get p9=some (.c te [.vec (au cs.length) (cs.map fw)]))(s:Sp):∃H',run fp 13 [.agg [.str s.1,.i s.2],.ptr p9 0] H=some (.bool (decide (gA cs [s] s)),H')/\eS H H':=by
 obtain⟨out,ho,TF⟩:=ap4 hc s;have gW:=ho.toInvC.len;have DT:∃te,(H.push (.z [.str s.1,.i s.2])).get p9=some (.c te [.vec (au cs.length) (cs.map fw)]):=h9.imp λ_ q=>(eS.push H _).2 _ _ q;have h2:∃te,(H.push (.z [.str s.1,.i s.2])).get H.next=some (.c te [.str s.1,.i s.2]):=⟨_,by rw[ab.dT,ν rfl]⟩;have x2:=A_ h2;have x9:kH prog (H.push (.z [.str s.1,.i s.2])) 45 (.ptr p9 0)=some (.vec (au cs.length) (cs.map fw)):=by obtain⟨te,q⟩:=DT;simp only[kH,q];rw[abj];rfl
 have fO:(out.map b_).length=out.length:=φ ..
 have:∃r,run fp 13 [.agg [.str s.1,.i s.2],.ptr p9 0] H=some r/\∃H',r=(.bool (decide (gA cs [s] s)),H')/\eS H H':=by
  refine g_ (c:=.seq _ (.seq (.seq _ (.block 0 (.loop LN))) (.seq _ _))) rfl rfl func13 rfl (by rw[ntmps13];simp) ?_;simp only[go_sem,seval,J_,x2,x9,ap5 s,TF,fO];simp only[cg];refine bL (mG (abA (o:=au out.length) (by omega) (s:=s) (p2:=H.next) out 0 _ _ rfl (eS.push H _) h2 ?_ ?_ ?_ ?_)) ?_
  case refine_5=>
   rintro _ ⟨e,ae,H',rfl,hk,⟨rfl,hm⟩|⟨rfl,hm,h3⟩⟩
   ·simp only[go_sem,seval,results13];rw[ξ λh=>hm (ho.all s h)];exact⟨_,rfl,_,rfl,hk⟩
   ·simp only[go_sem,seval,h3,results13];rw[π (ho.toInvC.qs s hm)];exact⟨_,rfl,_,rfl,hk⟩
  all_goals simp[go_sem]
 obtain⟨r,h,H',rfl,hk⟩:=this;exact⟨H',h,hk⟩
set_option maxRecDepth 100000
set_option maxHeartbeats 8000000
noncomputable def A4:=f4.c.r.r.r.r.r.l.r.b.b
noncomputable def B4:=f4.c.r.r.r.r.r.r.r.r.l.r.b.b
noncomputable def C4:=f4.c.r.r.r.r.r.r.r.r.r.r.l.r.b.b
noncomputable def TM:=C4.r.r.l.b.r.l.o
noncomputable def TN:=f4.c.r.r.r.r.r.r.r.r.r.r.r.l.o
def BT{H H':ab}{p cs}(h:∃te,H.get p=some (.c te cs))(k:eS H H'):∃te,H'.get p=some (.c te cs):=h.imp λ_ q=>k.2 _ _ q
def ay1:ew prog .neq 4 (.bool true) (.bool true)=some (.bool false):=af
def ay2:ew prog .eql 4 (.bool true) (.bool true)=some (.bool true):=af
def ay3:ew prog .eql 4 (.bool false) (.bool false)=some (.bool true):=af
def ay4:fp.cl 15=true:=af
def aBL:fp.cl 6=true:=af
attribute [go_sem] ay1 ay2 ay3 ay4 aBL
section
variable {cs:List Cp} {o:Ab.Own} {p9:Nat} {H0:ab} {v3 v5 v6 v12:AV}
def abC(M:cs.length<=128000000):∀r i α H,cs.drop i=r->eS H0 H->(∃te,H.get p9=some (.c te [.vec o (cs.map fw)]))->α 3=v3->α 5=v5->α 6=v6->α 9=.ptr p9 0->α 37=.vec o (cs.map fw)->α 38=.i cs.length->α 39=.i i->
  aD (aJ (aO fp A4) α H) λe j H'=>e=.exit 0/\eS H0 H'/\j 3=v3/\j 5=v5/\j 6=v6/\j 9=.ptr p9 0
 |[],i,α,⟨n,L⟩,q,p,m,a3,a5,a6,l,f,h,d=>by have t:A4=.seq _ (.seq (.cond _ _ _) (.seq (.block 1 (.seq _ (.seq _ (.cond _ (.seq _ _) _)))) _)):=rfl;have hi:cs.length<=i:=Κ.1 q;have s:=d_ (a:=i) (b:=cs.length) (by omega);rw[aG,t];simp only[go_sem,seval,h,d,s];refine⟨aK,p,?_⟩;simp[put,a3,a5,a6,l]
 |c::r,i,α,⟨n,L⟩,q,p,m,a3,a5,a6,l,f,h,d=>by
  have t:A4=.seq _ (.seq (.cond _ _ _) (.seq (.block 1 (.seq _ (.seq _ (.cond _ (.seq _ _) _)))) _)):=rfl;obtain⟨w,I,B⟩:=mD q;have s:=dM I;have J:=acM o w;have G:=ay0 o w;have w1:=fD i aa;have z:=aY (n<n+1);have kp:=eS.push ⟨n,L⟩ (.k 48 [.str c.1.1,.i c.1.2,.str c.2.1,.i c.2.2]);have K:=BT m kp;obtain⟨te,u⟩:=K;obtain⟨E,g9'⟩:=aj.1 u;have A:(n=p9)=False:=by obtain⟨F,g⟩:=m;have:p9<n:=(aj.1 g).1;simp;omega
  obtain⟨F,g⟩:=m;have C:=aF (aj.1 g).2;have D:decide ((c.1.1,c.1.2)=(c.1.1,c.1.2))=true:=π rfl;have y:decide ((c.2.1,c.2.2)=(c.2.1,c.2.2))=true:=π rfl;have v:=λb=>Q6 b c.1.1 c.1.1 c.1.2 c.1.2;have x:=λb=>Q6 b c.2.1 c.2.1 c.2.2 c.2.2;rw[D] at v;rw[y] at x;rw[aG,t];simp only[go_sem,seval,l,f,h,d,s,J,G,z,E,A,C,v,x,ω,w1];refine(λα=>abC M r (i+1) α _ B (p.trans kp) ⟨te,u⟩) _ ?_ ?_ ?_ ?_ ?_ ?_ ?_;all_goals simp[go_sem,a3,a5,a6,l,f,h]
def abD{l:List Sp}{GG:Ab.Own}(A:l.length<=1000000000):∀r i α H,l.drop i=r->eS H0 H->α 3=v3->α 5=v5->α 9=.ptr p9 0->α 12=v12->α 13=.vec GG (l.map b_)->α 72=.vec o (l.map b_)->α 73=.i l.length->α 74=.i i->
  aD (aJ (aO fp B4) α H) λe f H'=>e=.exit 2/\eS H0 H'/\f 3=v3/\f 5=v5/\f 9=.ptr p9 0/\f 12=v12
 |[],i,α,⟨n,L⟩,m,h,a3,a5,p,c,q,d,g,j=>by have t:B4=.seq _ (.seq (.cond _ _ _) (.seq (.block 3 (.seq _ (.seq _ (.cond _ (.seq _ _) _)))) _)):=rfl;have hi:l.length<=i:=Κ.1 m;have s:=d_ (a:=i) (b:=l.length) (by omega);rw[aG,t];simp only[go_sem,seval,g,j,s];refine⟨aK,h,?_⟩;simp[put,a3,a5,p,c]
 |x::r,i,α,⟨n,L⟩,m,h,a3,a5,p,c,q,d,g,j=>by
  have t:B4=.seq _ (.seq (.cond _ _ _) (.seq (.block 3 (.seq _ (.seq _ (.cond _ (.seq _ _) _)))) _)):=rfl;obtain⟨v,C,y⟩:=mD m;have s:=dM C;have D:=Q1 o v;have B:=acN GG v;have w1:=fD i aa;have w:=aY (n<n+1);have kp:=eS.push ⟨n,L⟩ (.k 44 [.str x.1,.i x.2]);have z:decide ((x.1,x.2)=(x.1,x.2))=true:=π rfl;have u:=λb=>Q6 b x.1 x.1 x.2 x.2;rw[z] at u;rw[aG,t];simp only[go_sem,seval,q,d,g,j,s,D,B,w,u,ω,w1];refine(λα=>abD (GG:=GG) A r (i+1) α _ y (h.trans kp)) _ ?_ ?_ ?_ ?_ ?_ ?_ ?_ ?_;all_goals simp[go_sem,a3,a5,p,c,q,d,g]
end
open Classical in
def PZ{us:List Un}(hp:jV us){l:List Sp}{o:Ab.Own}{p9 p3:Nat}{H0:ab}(hl:l.length<=1000000000):∀r i α H,l.drop i=r->eS H0 H->(∃te,H.get p9=some (.c te [.vec (au ((eu us).map lB).length) (((eu us).map lB).map fw)]))->α 3=.ptr p3 0->α 5=dD us->α 16=.fn (.func 13) [] [.ptr p9 0]->α 87=.vec o (l.map b_)->α 88=.i l.length->α 89=.i i->
  aD (aJ (aO fp C4) α H) λe ae H'=>e=.exit 4/\eS H0 H'/\ae 3=.ptr p3 0/\ae 5=dD us/\ae 16=.fn (.func 13) [] [.ptr p9 0]
 |[],i,α,⟨n,L⟩,hr,hk,h9,a3,a5,DU,a87,DV,LQ=>by have hB:C4=.seq _ (.seq (.cond _ _ _) (.seq (.block 5 (.seq _ (.seq _ (.cond _ (.seq _ _) _)))) _)):=rfl;have hi:l.length<=i:=Κ.1 hr;have e1:=d_ (a:=i) (b:=l.length) (by omega);rw[aG,hB];simp only[go_sem,seval,DV,LQ,e1];refine⟨aK,hk,?_⟩;simp[put,a3,a5,DU]
 |x::r,i,α,⟨n,L⟩,hr,hk,h9,a3,a5,DU,a87,DV,LQ=>by
  have hB:C4=.seq _ (.seq (.cond _ _ _) (.seq (.block 5 (.seq _ (.seq (.region 26 TM.toArray true) (.cond _ (.seq _ _) _)))) _)):=rfl;obtain⟨hx,fK,bq⟩:=mD hr;have e1:=dM fK;have x1:=Q1 o hx;have w1:=fD i aa;have yn:=aY (n<n+1);have kp:=eS.push ⟨n,L⟩ (.k 44 [.str x.1,.i x.2]);have DT:∃te,ab.get ⟨n+1,(n,.k 44 [.str x.1,.i x.2])::L⟩ p9=some (.c te [.vec (au ((eu us).map lB).length) (((eu us).map lB).map fw)]):=BT h9 kp;obtain⟨⟨n2,L2⟩,q1,q2⟩:=abB (by rw[φ];exact D6 hp) DT x;have gx:∃te,ab.get ⟨n+1,(n,.k 44 [.str x.1,.i x.2])::L⟩ n=some (.c te [.str x.1,.i x.2]):=⟨_,aj.2 ⟨aa,by rw[br,ν rfl]⟩⟩;have x3:=A_ gx;have x4:=A_ (BT gx q2);have vZ:=Z_ hp x;have xH:=BT DT q2;obtain⟨Z,hZ,b1,b2⟩:∃A,A=TM.toArray/\behind A A.size 5 4=true/\behind A A.size 5 1=true:=⟨_,rfl,af,af⟩;have hR:∀α H,aP fp (run fp) aJ (.region 26 TM.toArray true) α H=an (eP fp (run fp) Z 0 [_,_,_,_,_,_,_] [] [] α H) λr=>some (.normal,r.1,r.2):=λα H=>by rw[m_ _ _ rfl rfl,hZ];exact rfl
  rw[aG,hB]
  cases hd:decide (gA ((eu us).map lB) [x] x) with
  |true=>
   rw[hd] at q1 vZ;simp only[go_sem,seval,a5,DU,a87,DV,LQ,e1,x1,yn,hR,x3,vZ,Ii,q1,b1,b2,aDG,aEa,w1];refine(λα=>PZ (o:=o) (p3:=p3) hp hl r (i+1) α _ bq ((hk.trans kp).trans q2) xH) _ ?_ ?_ ?_ ?_ ?_ ?_;all_goals simp[go_sem,a3,a5,DU,a87,DV]
  |false=>
   rw[hd] at q1 vZ;simp only[go_sem,seval,a5,DU,a87,DV,LQ,e1,x1,yn,hR,x3,vZ,Ii,q1,b1,b2,aDG,aEa,w1];refine(λα=>PZ (o:=o) (p3:=p3) hp hl r (i+1) α _ bq ((hk.trans kp).trans q2) xH) _ ?_ ?_ ?_ ?_ ?_ ?_;all_goals simp[go_sem,a3,a5,DU,a87,DV]
set_option maxRecDepth 100000
set_option maxHeartbeats 8000000
def ap6(l:List Sy):(l.map cL)=(l.map fP).map b_:=by rw[aEz];rfl
open Classical in
def aBM(ko)(l:List Md)(hl:l.length<=9223372036854775807)(s:Sp):aI prog (run fp) 4 [.vec (au ko) (l.map fN),.agg [.str s.1,.i s.2]]=some (.bool true):=by
 obtain⟨v,h5,gQ,sV,hv⟩:=apb ko l hl;have c5:∀H,bt fp 5 [.vec (au ko) (l.map fN),.i 2000] H=some (v,H):=λH=>ji (fs:=[5]) rfl rfl ayX rfl h5 sV gQ H;refine fk (c:=.seq _ (.seq _ (.seq (.seq _ (.cond _ (.seq _ _) _)) (.seq _ (.seq (.seq _ (.cond _ (.seq _ _) _)) (.seq (.seq _ (.block 0 (.loop A4))) (.seq _ (.seq (.seq _ (.cond _ (.seq _ _) _)) (.seq (.seq _ (.block 2 (.loop B4))) (.seq _ (.seq (.seq _ (.block 4 (.loop C4))) (.seq (.region 29 TN.toArray true) _)))))))))))) rfl rfl func4 rfl (by rw[ntmps4];simp) (bW:=[.vec (au ko) (l.map fN),.agg [.str s.1,.i s.2]]) (by simp[AV.erase,AV.bare,kF]) ?_ ?_ rfl
 ·show((AV.vec (au ko) (l.map fN)).aq&&_)=true;rw[iE (CO l)];rfl
 rcases hv with⟨a,b,rfl⟩|⟨us,vW,rfl⟩
 ·simp only[go_sem,seval,ab.empty,J_,c5,PY,Α,results4];exact⟨_,rfl,rfl⟩
 ·have hp:=akf vW;obtain⟨o1,r1,c10⟩:=apO hp;obtain⟨o2,r2,LR⟩:=apI hp;have Ky:=akr hp r1 r2;rw[ap6,<-Ky] at LR;have ot:(kR (jD (fy us) o2) us).length=o1.length:=by have:=Λ List.length Ky;rw[φ,(Eh _).length_eq,φ] at this;exact this.symm
  rw[ot] at LR;have gW:=r1.toInvR.len;have uC:=M7 hp.toProj;have bC:=D6 hp;have Br:(rU (o1.map fP)).length=o1.length:=by rw[(Eh _).length_eq,φ]
  generalize rU (o1.map fP)=R at c10 LR Br;have k10:∀H,bt fp 10 [dD us] H=some (.vec (au o1.length) (R.map b_),H):=λH=>ji (fs:=[10]) rfl rfl avh rfl c10 (Av _) (iE (go_sp _)) H;have k12:∀H,bt fp 12 [fu us] H=some (.vec (au o1.length) (R.map b_),H):=λH=>ji (fs:=[11,12,14]) rfl rfl (λa H=>Q5 a H (.inr (.inl rfl))) rfl LR (Av _) (iE (go_sp _)) H;have k9:=avj hp;have LS:=ap3 hp;rw[<-OP] at k9 LS;have e0:(eu us).length=((eu us).map lB).length:=(φ ..).symm;rw[e0] at k9 LS;have LJ:(((eu us).map lB).map fw).length=((eu us).map lB).length:=φ ..;have hlr:(R.map b_).length=R.length:=φ ..;have n1:((((eu us).map lB).length:Int) != (((eu us).map lB).length:Int))=false:=ai;have n2:((R.length:Int) != (R.length:Int))=false:=ai;have vZ:=Z_ hp s;have Sh:((eu us).map lB).length<=128000000:=by rw[φ];exact bC
  generalize cF:(eu us).map lB=cs at k9 LS LJ n1 vZ Sh;obtain⟨Z,hZ,b1,b2,b3⟩:∃A,A=TN.toArray/\behind A A.size 7 6=true/\behind A A.size 7 3=true/\yl A 1=some 102:=⟨_,rfl,af,af,af⟩;have hR:∀α H,aP fp (run fp) aJ (.region 29 TN.toArray true) α H=an (eP fp (run fp) Z 0 [_,_,_,_,_,_,_,_,_,_,_] [] [] α H) λr=>some (.normal,r.1,r.2):=λα H=>by rw[m_ _ _ rfl rfl,hZ];exact rfl
  simp only[go_sem,seval,ab.empty,J_,c5,ω,k9,LS,LJ,n1];simp only[cg];refine bL (dE (abC (cs:=cs) (o:=au cs.length) (p9:=1) (v3:=.ptr 0 0) (v5:=dD us) (v6:=fu us) Sh cs 0 _ _ rfl (eS.refl _) ⟨some 45,rfl⟩ ?_ ?_ ?_ ?_ ?_ ?_ ?_)) ?_
  case refine_8=>
   rintro _ ⟨ae,⟨n',L'⟩,rfl,q1,q3,q5,q6,q9⟩;simp only[go_sem,seval,q5,q6,k10,k12,hlr,n2];simp only[cg];refine bL (dE (abD (o:=au o1.length) (GG:=au o1.length) (v3:=.ptr 0 0) (v5:=dD us) (v12:=.vec (au o1.length) (R.map b_)) (l:=R) (p9:=1) (by omega) R 0 _ _ rfl q1 ?_ ?_ ?_ ?_ ?_ ?_ ?_ ?_)) ?_
   case refine_9=>
    rintro _ ⟨gH,⟨n2,L2⟩,rfl,w1,w3,w5,w9,Tj⟩;have g9:∃te,ab.get ⟨n2,L2⟩ 1=some (.c te [.vec (au cs.length) (cs.map fw)]):=⟨_,w1.2 1 _ rfl⟩;have g3:∃te,ab.get ⟨n2,L2⟩ 0=some (.c te [.str s.1,.i s.2]):=⟨_,w1.2 0 _ rfl⟩;simp only[go_sem,seval,w9,Tj,hlr];simp only[cg];subst cF;refine bL (dE (PZ hp (o:=au o1.length) (l:=R) (p9:=1) (p3:=0) (by omega) R 0 _ _ rfl (eS.refl _) g9 ?_ ?_ ?_ ?_ ?_ ?_)) ?_
    case refine_7=>
     rintro _ ⟨vR,⟨n3,L3⟩,rfl,y1,y3,y5,y16⟩;have g9':=BT g9 y1;have g3':=BT g3 y1;have x3:=A_ g3';obtain⟨⟨n4,L4⟩,z1,z2⟩:=abB Sh g9' s
     cases hd:decide (gA ((eu us).map lB) [s] s) with
     |true=>rw[hd] at vZ z1;simp only[go_sem,seval,hR,PY,y3,y5,y16,x3,vZ,Ii,z1,b1,b2,b3,aDG,aEa,results4];exact⟨_,rfl,rfl⟩
     |false=>rw[hd] at vZ z1;simp only[go_sem,seval,hR,PY,y3,y5,y16,x3,vZ,Ii,z1,b1,b2,b3,aDG,aEa,results4];exact⟨_,rfl,rfl⟩
    all_goals simp[go_sem,w3,w5]
    all_goals(try rfl)
   all_goals simp[go_sem,q3,q5,q9]
   all_goals(try rfl)
  all_goals simp[go_sem]
  all_goals(try rfl)
end Go.Proofs.YtmehamiifalmaaaGreatDoor
