/- LintCalls: part 24 of its proof. -/
import Derived.Test.YtmehamiifalmaaaGreatDoorG22
set_option linter.all false
namespace Go.Proofs.YtmehamiifalmaaaGreatDoor
open Go Go.Ab Go.Proofs.Tryz
set_option maxRecDepth 100000
set_option maxHeartbeats 8000000
def Au:ck:=t_ 30 (yK 31) 2 ub qU rU
def Q0:List FuncId:=[10,29,61]
def apJ:List FuncId:=[10,9,20]
noncomputable def fZ:Env:={P:=prog,G:=λf=>Q0.contains f,cl:=λf=>apJ.contains f,eX:=λt=>t==40,dyn:=λi=>i==16,df:=λ_=>false,ext:=bQ Au (bQ (bf dv [9]) (bf fh [20]))}
def ayC:okF fZ 10=true:=af
def ayD:okF fZ 29=true:=af
def ayE:okF fZ 61=true:=af
def ayF:fZ.P=prog:=(rfl)
def ayG:fZ.eX=λt=>t==40:=(rfl)
def auV:fZ.dyn 4=false:=(rfl)
attribute [go_sem] ayF ayG auV
def XX{f}(h:f≠30)(args)(H):Au f args H=none:=OJ h args H
def Z5:=ju fZ 29 rfl rfl
def apK:=ju fZ 61 rfl rfl
def DN:GT prog 40 44 2 24 lA cL true:=⟨Aa,λ_=>rfl,λ_=>rfl,λ_=>rfl,Ce,.inl rfl,λl=>Js (c:=lA) (s:=2) (λ_=>rfl) l,λ_=>rfl⟩
def acK(c)(a b)(x y:Nat):lN prog .eql 44 c (.agg [.str a,.i x]) (.agg [.str b,.i y])=some (.bool (decide ((a,x)=(b,y)))):=by rw[tA rfl];simp[ew,Ce,QX,lY,sw,wH];rw[ez x y];by_cases h:a=b<;>by_cases k:x=y<;>simp[h,k]
noncomputable def LI:=f61.c.r.l.r.b.b
def abv{v}{l:List Sy}{s:Sy}{H:ab}{p3:Nat}(F:l.length<=1000000000)(B:ej H 44 2 lA cL v l)(A:∃te,H.get p3=some (.c te [.str s.1,.i s.2])):∀r i α,l.drop i=r->i<=l.length->α 0=v->α 3=.ptr p3 0->α 7=.i l.length->α 8=.i i->
  aD (aJ (aO fZ LI) α H) λe z H'=>H'=H/\((e=.exit 0/\¬s∈r)\/(e=.ret/\s∈r/\∃j:Nat,z 4=.i j))
 |[],i,α,q,hi,f,a3,d,n=>by
  have w:LI=.seq _ (.seq _ (.seq (.block _ (.seq _ (.seq _ _))) _)):=rfl;have u:i=l.length:=by have:=Κ.1 q;omega
  subst u;have m:=d_ (aDF l.length);rw[aG,w];simp only[go_sem,seval,d,n,m];exact⟨aK,.inl ⟨aK,ai⟩⟩
 |y::r,i,α,q,hi,f,a3,d,n=>by
  have w:LI=.seq _ (.seq _ (.seq (.block _ (.seq _ (.seq _ _))) _)):=rfl;obtain⟨G,u,D⟩:=mD q;have m:=dM u;obtain⟨p,C,t⟩:=B.ix DN G;rw[show cL y=.agg [.str y.1,.i y.2] from rfl] at t;have w1:=f_ (i+1) (i+1:Nat);obtain⟨te,E⟩:=id A;have x:kH prog H 44 (.ptr p3 0)=some (.agg [.str s.1,.i s.2]):=by simp only[kH,E];rw[I0];rfl
  have h:=λc=>acK c s.1 y.1 s.2 y.2;rw[aG,w];by_cases g:s=y
  ·have o:decide ((s.1,s.2)=(y.1,y.2))=true:=π g;rw[o] at h;simp only[go_sem,seval,f,a3,d,n,m,C,t,x,h];exact⟨aK,.inr ⟨aK,by rw[g];exact as1,i,by simp[go_sem]⟩⟩
  ·have o:decide ((s.1,s.2)=(y.1,y.2))=false:=ξ g;rw[o] at h;simp only[go_sem,seval,f,a3,d,n,m,C,t,x,h,w1];refine aT ((λα=>abv F B A (s:=s) (p3:=p3) r (i+1) α D aa) _ ?_ ?_ ?_ ?_) ?_
   case refine_5=>
    rintro e z H' ⟨k,⟨a,b⟩|⟨a,b,c⟩⟩
    ·exact⟨k,.inl ⟨a,λhm=>(Ν.1 hm).elim g b⟩⟩
    ·exact⟨k,.inr ⟨a,Η _ b,c⟩⟩
   all_goals simp[go_sem,f,a3,d]
def apL{v}{l:List Sy}{H}(a:ej H 44 2 lA cL v l)(f:l.length<=1000000000)(s:Sy):∃z:Int,run fZ 61 [v,.agg [.str s.1,.i s.2]] H=some (.i z,H.push (.z [.str s.1,.i s.2]))/\decide (z≥0)=l.contains s:=by
 have o:=a.Sa DN;have n:ej (H.push (.z [.str s.1,.i s.2])) 44 2 lA cL v l:=a.bU λk m cs d=>(eS.push H _).2 _ _ d;have b:(H.push (.z [.str s.1,.i s.2])).get H.next=some (.z [.str s.1,.i s.2]):=by rw[ab.dT,ν rfl]
 have:∃r,run fZ 61 [v,.agg [.str s.1,.i s.2]] H=some r/\∃z:Int,r=(.i z,H.push (.z [.str s.1,.i s.2]))/\decide (z≥0)=l.contains s:=by
  refine g_ (c:=.seq _ (.seq (.seq _ (.block 0 (.loop LI))) _)) rfl rfl func61 rfl (by rw[ntmps61];simp) ?_;simp only[go_sem,seval,Se,o];simp only[cg];refine bL (mG (abv f n ⟨none,b⟩ (s:=s) (p3:=H.next) l 0 _ rfl aa ?_ ?_ ?_ ?_)) ?_
  case refine_5=>
   rintro _ ⟨e,ae,H',rfl,rfl,⟨rfl,hm⟩|⟨rfl,hm,j,g⟩⟩
   ·simp only[go_sem,seval,results61];refine⟨_,rfl, -1,rfl,?_⟩
    have:l.contains s=false:=by
     cases hc:l.contains s with
     |false=>rfl
     |true=>exact(hm (Θ.1 hc)).elim
    rw[this];rfl
   ·simp only[go_sem,seval,g,results61];refine⟨_,rfl,j,rfl,?_⟩;rw[Θ.2 hm];exact bJ _
  all_goals simp[go_sem]
 obtain⟨r,h,z,rfl,p⟩:=this;exact⟨z,h,p⟩
def agf{v}{l:List Sy}{H:ab}(d:ej H 44 2 lA cL v l)(e:l.length<=1000000000)(s:Sy):run fZ 29 [v,.agg [.str s.1,.i s.2]] H=some (.bool (l.contains s),(H.push (.z [.str s.1,.i s.2])).push (.z [.str s.1,.i s.2])):=by
 have g:ej (H.push (.z [.str s.1,.i s.2])) 44 2 lA cL v l:=d.bU λk m cs b=>(eS.push H _).2 _ _ b;obtain⟨z,j,f⟩:=apL g e s
 have n:kH prog (H.push (.z [.str s.1,.i s.2])) 44 (.ptr H.next 0)=some (.agg [.str s.1,.i s.2]):=by
  have a:(H.push (.z [.str s.1,.i s.2])).get H.next=some (.z [.str s.1,.i s.2]):=by rw[ab.dT,ν rfl]
  simp only[kH,a];rw[I0];rfl
 have:∃r,run fZ 29 [v,.agg [.str s.1,.i s.2]] H=some r/\r=(.bool (l.contains s),(H.push (.z [.str s.1,.i s.2])).push (.z [.str s.1,.i s.2])):=by refine g_ (c:=.seq _ (.seq _ _)) rfl rfl func29 rfl (by rw[ntmps29];simp) ?_;simp only[go_sem,seval,Se,n,apK,j,f,results29];exact⟨_,rfl,rfl⟩
 obtain⟨r,h,rfl⟩:=this;exact h
end Go.Proofs.YtmehamiifalmaaaGreatDoor
