/- Part of the proofs of the statements of this seat. -/
import Derived.Test.YtnlegbokpofcaaaGreatDoorSpCode
import Derived.Test.YtnlegbokpofcaaaGreatDoorFW3
set_option maxRecDepth 10000
set_option linter.unusedVariables false
set_option linter.unusedSimpArgs false
namespace Go.Fr.Tryz
open Go Go.RowKit Go.Proofs Go.Fr Go.Fr.T Go.Fr.Api
theorem Nc {n:Nat}{g:G}(h:Ok Tryz.prog n 35 g):∃bs:List UInt8,g=.sl 1 (bs.map bG):=Na (e:=5) (by kernel_rfl) (by kernel_rfl) h
end Go.Fr.Tryz
