/- Part of the proofs of the statements of this seat. -/
import Derived.Test.YthfdbepkalpplaaUnIds
import Derived.Test.YthfdbepkalpplaaTrO2G
set_option maxRecDepth 10000
set_option linter.unusedVariables false
set_option linter.unusedSimpArgs false
namespace Go.Fr.Try
open Go Go.RowKit Go.Proofs Go.Fr Go.Fr.T Go.Fr.Api
theorem UM {n:Nat}{g:G}(b:Ok Try.prog n ids.bounds g):∃x:List aS,g=.sl 2 (x.map aS.g):=by
 have hf:=UK;simp only[d9.aax,xo] at hf;obtain⟨⟨⟨⟨⟨⟨⟨⟨⟨⟨_,k1⟩,d⟩,j⟩,c⟩,k⟩,e⟩,h⟩,k8⟩,k9⟩,k10⟩:=hf;exact fu c b (f:=aS.g) fun m x _ a=>d9.bnd UK a
theorem Fy (l:List aS) {n:Nat}:tH (.sl n (l.map aS.g))=.sl (l.map aV):=by simp only[tH,iX wk]
mutual
theorem Fz:∀t:Ty,cnt t<=t.g.bulk
 | .mk k i l=>by
  have:=Cm l;simp only[cnt,Ty.g,G.bulk,G.aat];omega
theorem Cm:∀l:List Ty,wB l<=G.aat (Ty.gs l)
 | []=>abr _
 | t::l=>by
  have:=Fz t;have:=Cm l;rw[wB,Ty.gs,G.aat];omega
end
theorem FA {a:Type}{f:a->G}:∀{l:List a}{x:a},x∈l->(f x).bulk<=G.aat (l.map f)
 | y::l,x,h=>by
  rw[abe,G.aat];rcases abd.1 h with rfl | h
  ·omega
  ·have:=FA (f:=f) h;omega
theorem NQ {p:Prog}(h:p.g.bulk<=1048576):∀x∈p.impls,gN x.type:=fun x a=>by
 refine Dk _ ?_;have h1:=Fz x.type;have h2:=FA (f:=Impl.g) a;have h3:x.type.g.bulk<=x.g.bulk:=by
  simp only[Impl.g,G.bulk,G.aat];omega
 have h4:G.aat (p.impls.map Impl.g)<=p.g.bulk:=by
  simp only[Prog.g,G.bulk,G.aat];omega
 omega
end Go.Fr.Try
