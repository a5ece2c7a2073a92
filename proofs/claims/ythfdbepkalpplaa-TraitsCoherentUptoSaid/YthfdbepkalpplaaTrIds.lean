/- Part of the proofs of the statements of this seat. -/
import Derived.Test.YthfdbepkalpplaaUnIds
import Derived.Test.YthfdbepkalpplaaUnH1G
set_option maxRecDepth 10000
set_option linter.unusedVariables false
set_option linter.unusedSimpArgs false
namespace Go.Fr.Try
open Go Go.RowKit Go.Proofs Go.Fr Go.Fr.T Go.Fr.Api
end Go.Fr.Try
