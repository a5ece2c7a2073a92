/- Part of the proofs of the statements of this seat. -/
import Derived.Test.YthfdbepkalpplaaGreatVrH3G
import Derived.Test.YthfdbepkalpplaaGreatVrIds
import Derived.Test.YthfdbepkalpplaaGreatFW2
set_option maxRecDepth 10000
set_option linter.unusedVariables false
set_option linter.unusedSimpArgs false
namespace Go.Fr.Tryz
open Go Go.RowKit Go.Proofs Go.Fr Go.Fr.T Go.Fr.Api
mutual
def eI.g:eI->G
 | .mk b i l ps=>.st [.bool b,I i,.sl 3 (l.map Ty.g),.sl 4 (eI.gs ps)]
def eI.gs:List eI->List G
 | []=>[]
 | x::l=>x.g::eI.gs l
end
theorem eI.aax:∀l:List eI,eI.gs l=l.map eI.g
 | []=>rfl
 | x::l=>by simp[eI.gs,eI.aax l]
mutual
theorem Ih:∀x:eI,qJ x.g=iB x
 | .mk b i l ps=>by simp only[eI.g,qJ,lB,iB,xw,Fb ps,abn,aa3,abp]
theorem Fb:∀l:List eI,qK (eI.gs l)=Jy l
 | []=>rfl
 | x::l=>by simp only[eI.gs,qK,Jy,Ih x,Fb l]
end
theorem MO (x:eI):um x.g=fW x:=by
 show _=C.agg _;rw[<-iY,<-Ih];cases x;exact CC
theorem V5:ug Tryz.prog 36 [4,3,31,34]=true:=by kernel_rfl
theorem V6:sP Tryz.prog 34 36 4=true:=by kernel_rfl
theorem YJ:W6 Tryz.prog 4=true:=by kernel_rfl
theorem RZ:∀(n:Nat) (g:G),Ok Tryz.prog n 36 g->∃x:eI,g=x.g:=by
 intro n
 induction n using Nat.strongRecOn with
 | _ n p =>
  intro g h;obtain⟨m,l,t,rfl,e⟩:=jW V5 h;obtain⟨a,l,rfl,j,e⟩:=aX e;obtain⟨b,l,rfl,hb,e⟩:=aX e;obtain⟨c,l,rfl,o,e⟩:=aX e;obtain⟨d,rfl,hd⟩:=ze e;obtain⟨k,rfl⟩:=SW YJ j;obtain⟨i,rfl⟩:=dP.i (d:=ids) QK hb;obtain⟨ts,rfl⟩:=dP.aaD (d:=ids) QK o;obtain⟨xs,rfl⟩:=eH V6 hd (f:=eI.g) (fun s x r q=>p s (by omega) x q);exact⟨.mk k i ts xs,by simp[eI.g,eI.aax]⟩
end Go.Fr.Tryz
