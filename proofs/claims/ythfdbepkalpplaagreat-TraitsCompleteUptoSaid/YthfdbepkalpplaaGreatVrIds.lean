/- Part of the proofs of the statements of this seat. -/
import Derived.Test.YthfdbepkalpplaaGreatVnIds
import Derived.Test.YthfdbepkalpplaaGreatVrT1G
set_option maxRecDepth 10000
set_option linter.unusedVariables false
set_option linter.unusedSimpArgs false
namespace Go.Fr.Tryz
open Go Go.RowKit Go.Proofs Go.Fr Go.Fr.T Go.Fr.Api
theorem Ub {n:Nat}{g:G}(b:Ok Tryz.prog n ids.bounds g):∃x:List aT,g=.sl 2 (x.map aT.g):=by
 have hf:=Ua;simp only[dP.aak,aaN] at hf;obtain⟨⟨⟨⟨⟨⟨⟨⟨⟨⟨_,k1⟩,e⟩,h⟩,a⟩,k⟩,j⟩,d⟩,k8⟩,k9⟩,k10⟩:=hf;exact eH a b (f:=aT.g) fun m x _ c=>dP.bnd Ua c
theorem E7 (l:List aT) {n:Nat}:um (.sl n (l.map aT.g))=.sl (l.map aW):=by simp only[um,iW vC]
mutual
theorem E8:∀t:Ty,cnt t<=t.g.bulk
 | .mk k i l=>by
  have:=BU l;simp only[cnt,Ty.g,G.bulk,G.aag];omega
theorem BU:∀l:List Ty,vL l<=G.aag (Ty.gs l)
 | []=>abd _
 | t::l=>by
  have:=E8 t;have:=BU l;rw[vL,Ty.gs,G.aag];omega
end
theorem E9 {a:Type}{f:a->G}:∀{l:List a}{x:a},x∈l->(f x).bulk<=G.aag (l.map f)
 | y::l,x,h=>by
  rw[aaZ,G.aag];rcases aaX.1 h with rfl | h
  ·omega
  ·have:=E9 (f:=f) h;omega
theorem MN {p:Prog}(h:p.g.bulk<=1048576):∀x∈p.impls,iA x.type:=fun x a=>by
 refine CQ _ ?_;have h1:=E8 x.type;have h2:=E9 (f:=Impl.g) a;have h3:x.type.g.bulk<=x.g.bulk:=by
  simp only[Impl.g,G.bulk,G.aag];omega
 have h4:G.aag (p.impls.map Impl.g)<=p.g.bulk:=by
  simp only[Prog.g,G.bulk,G.aag];omega
 omega
end Go.Fr.Tryz
