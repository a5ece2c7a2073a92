/- Part of the proofs of the statements of this seat. -/
import Derived.Test.YthfdbepkalpplaaUnIds
import Derived.Test.YthfdbepkalpplaaUnH1G
set_option maxRecDepth 10000
set_option linter.unusedVariables false
set_option linter.unusedSimpArgs false
namespace Go.Fr.Try
open Go Go.RowKit Go.Proofs Go.Fr Go.Fr.T Go.Fr.Api
theorem Mc {n:Nat}{g:G}(a:Ok Try.prog n ids.bounds g):∃x:List aR,g=.sl 2 (x.map aR.g):=by
 have hf:=Sw;simp only[dK.aak,aaN] at hf;obtain⟨⟨⟨⟨⟨⟨⟨⟨⟨⟨_,k1⟩,e⟩,d⟩,b⟩,h⟩,j⟩,k⟩,k8⟩,k9⟩,k10⟩:=hf;exact eF b a (f:=aR.g) fun m x _ c=>dK.bnd Sw c
theorem Em (l:List aR) {n:Nat}:uZ (.sl n (l.map aR.g))=.sl (l.map aS):=by simp only[uZ,iF uY]
end Go.Fr.Try
