/- Part of the proofs of the statements of this seat. -/
import Derived.Test.YthfdbepkalpplaaFW2
import Derived.Test.YthfdbepkalpplaaUnCode
set_option maxRecDepth 10000
set_option linter.unusedVariables false
set_option linter.unusedSimpArgs false
namespace Go.Fr.Try
open Go Go.RowKit Go.Proofs Go.Fr Go.Fr.T Go.Fr.Api
def ids:d9:={int:=3,str:=9,ints:=25,strs:=22,intss:=23,ty:=32,tys:=30,bound:=72,bounds:=54,term:=165,ins:=169,inss:=163,block:=167,blocks:=157,func:=159,funcs:=27,variant:=161,variants:=80,data:=82,datas:=24,impl:=56,impls:=26,prog:=29}
theorem WW:ids.aaz Try.prog=true:=by kernel_rfl
theorem UK:ids.aax Try.prog=true:=d9.aaG WW
theorem UL:ids.tyOk Try.prog=true:=d9.aaF UK
end Go.Fr.Try
