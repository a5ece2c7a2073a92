/- Part of the proofs of the statements of this seat. -/
import Derived.Test.YthfdbepkalpplaaGreatFW2
import Derived.Test.YthfdbepkalpplaaGreatVnCode
set_option maxRecDepth 10000
set_option linter.unusedVariables false
set_option linter.unusedSimpArgs false
namespace Go.Fr.Tryz
open Go Go.RowKit Go.Proofs Go.Fr Go.Fr.T Go.Fr.Api
def ids:dP:={int:=3,str:=9,ints:=25,strs:=22,intss:=23,ty:=33,tys:=31,bound:=52,bounds:=30,term:=153,ins:=157,inss:=151,block:=155,blocks:=145,func:=147,funcs:=27,variant:=149,variants:=86,data:=88,datas:=24,impl:=57,impls:=26,prog:=29}
theorem V4:ids.aam Tryz.prog=true:=by kernel_rfl
theorem Ua:ids.aak Tryz.prog=true:=dP.aat V4
theorem QK:ids.tyOk Tryz.prog=true:=dP.aas Ua
end Go.Fr.Tryz
