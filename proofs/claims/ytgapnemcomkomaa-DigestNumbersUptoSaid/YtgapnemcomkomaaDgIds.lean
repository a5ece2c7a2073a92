/- Part of the proofs of the statements of this seat. -/
import Derived.Test.YtgapnemcomkomaaFW2
import Derived.Test.YtgapnemcomkomaaDgCode
/- Digest: the numbers of the types. -/
set_option linter.unusedVariables false
set_option linter.unusedSimpArgs false
namespace Go.Fr.Try
open Go Go.RowKit Go.Proofs Go.Fr Go.Fr.T Go.Fr.Api
def ids : Ids := { int := 3, str := 9, ints := 23, strs := 31, intss := 32, ty := 26, tys := 24, bound := 122, bounds := 27, term := 67, ins := 75, inss := 65, block := 69, blocks := 28, func := 30, funcs := 35, variant := 60, variants := 56, data := 58, datas := 33, impl := 43, impls := 34, prog := 37 }
theorem idsP : ids.progOk Try.prog = true := by kernel_rfl
theorem idsF : ids.funcOk Try.prog = true := Ids.func_of idsP
theorem idsT : ids.tyOk Try.prog = true := Ids.ty_of idsF
end Go.Fr.Try
