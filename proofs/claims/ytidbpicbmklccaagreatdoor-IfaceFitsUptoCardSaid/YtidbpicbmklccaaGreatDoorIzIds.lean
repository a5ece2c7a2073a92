/- Part of the proofs of the statements of this seat. -/
import Derived.Test.YtidbpicbmklccaaGreatDoorFW3
import Derived.Test.YtidbpicbmklccaaGreatDoorIzG1G
set_option maxRecDepth 10000
set_option linter.unusedVariables false
set_option linter.unusedSimpArgs false
namespace Go.Fr.Tryz
open Go Go.RowKit Go.Proofs Go.Fr Go.Fr.T Go.Fr.Api
def ids:Ids:={ int:=3,str:=9,ints:=25,strs:=22,intss:=23,ty:=33,tys:=31,bound:=143,bounds:=30,term:=62,ins:=66,inss:=60,block:=64,blocks:=34,func:=36,funcs:=27,variant:=103,variants:=78,data:=80,datas:=24,impl:=50,impls:=26,prog:=29 }
theorem idsP:ids.progOk Tryz.prog = true:=by kernel_rfl
theorem idsF:ids.funcOk Tryz.prog = true:=Ids.func_of idsP
theorem idsT:ids.tyOk Tryz.prog = true:=Ids.ty_of idsF
end Go.Fr.Tryz
