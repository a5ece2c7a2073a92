/- Part of the proofs of the statements of this seat. -/
import Derived.Test.YtnlegbokpofcaaaDoorSnCode
import Derived.Test.YtnlegbokpofcaaaDoorFW3
set_option maxRecDepth 10000
set_option linter.unusedVariables false
set_option linter.unusedSimpArgs false
namespace Go.Fr.Tryd
open Go Go.RowKit Go.Proofs Go.Fr Go.Fr.T Go.Fr.Api
theorem HU {n:Nat}{g:G}(h:Ok Tryd.prog n 22 g):∃bs:List UInt8,g=.sl 1 (bs.map bG):=HT (e:=5) (by kernel_rfl) (by kernel_rfl) h
end Go.Fr.Tryd
