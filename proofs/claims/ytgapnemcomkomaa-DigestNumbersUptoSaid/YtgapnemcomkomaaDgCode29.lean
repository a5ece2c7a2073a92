/- Part of the proofs of the statements of this seat. -/
import Derived.Test.YtgapnemcomkomaaFW1
import Derived.Test.YtgapnemcomkomaaProg
/- Code with other annotations, printed by mkF.py. -/
set_option linter.unusedVariables false
namespace Go.Fr.Try
open Go Go.RowKit Go.Proofs Go.Fr
def nc29 : SCode := (.seq (.reg [.op (some 4) (.box 30 (.t 0)) none,
    .op (some 8) (.alloc 30 [(.string ⟨#[]⟩), (.int .i64 0), (.int .i64 0), (.slice none 0 0), (.int .i64 0), (.int .i64 0), (.int .i64 0), (.slice none 0 0), (.slice none 0 0), (.slice none 0 0), (.slice none 0 0)]) none])
  (.seq (.reg [.op (some 10) (.mkF 69 0 4 []) none,
    .op (some 11) (.fieldA 9 (.t 4)) none,
    .op (some 12) (.load false 1 (.t 11)) none,
    .op (some 13) (.app 69 4 64 [(.slice none 0 0), (.int .i64 0), (.int .i64 0), (.slice none 0 0)] (.t 10) (.t 12)) none,
    .op (some 9) (.mov (.t 13)) none])
  (.seq (.reg [.op (some 14) (.mov (.t 9)) none,
    .op (some 15) (.mov (.t 1)) none,
    .op (some 16) (.mkF 75 0 7 []) none,
    .op (some 17) (.mov (.t 9)) none,
    .op (some 18) (.mov (.t 1)) none,
    .op (some 19) (.idxA 4 (.t 17) (.t 18)) none,
    .op (some 20) (.fieldA 0 (.t 19)) none,
    .op (some 21) (.load false 1 (.t 20)) none,
    .op (some 22) (.app 75 7 88 [(.int .i64 0), (.int .i64 0), (.int .i64 0), (.int .i64 0), (.int .i64 0), (.slice none 0 0), (.slice none 0 0)] (.t 16) (.t 21)) none,
    .op (some 23) (.idxA 4 (.t 14) (.t 15)) none,
    .op (some 24) (.fieldA 0 (.t 23)) none,
    .op none (.store 1 (.t 24) (.t 22)) none])
  (.seq (.reg [.op (some 25) (.mov (.t 9)) none,
    .op (some 26) (.mov (.t 1)) none,
    .op (some 27) (.idxA 4 (.t 25) (.t 26)) none,
    .op (some 28) (.fieldA 0 (.t 27)) none,
    .op (some 29) (.load false 1 (.t 28)) none,
    .op (some 30) (.mov (.t 2)) none,
    .op (some 31) (.mov (.t 3)) none,
    .op (some 32) (.idxA 7 (.t 29) (.t 30)) none,
    .op (some 33) (.fieldA 4 (.t 32)) none,
    .op none (.store 1 (.t 33) (.t 31)) none])
  (.seq (.reg [.op (some 34) (.mov (.t 9)) none,
    .op (some 35) (.fieldA 9 (.t 4)) none,
    .op none (.store 1 (.t 35) (.t 34)) none])
  (.seq (.reg [.frz 13,
    .frz 22,
    .op (some 36) (.load true 11 (.t 4)) none,
    .op none (.store 11 (.t 8) (.t 36)) none])
  .ret))))))
def nA29 : Ann := { n := 37, own := [], frz := [(5, 0, [13, 22])], ord := [] }
theorem nfacts29 : factsOf Try.prog nA29 Try.f29 = some (nc29, 37, [(8, some (true, 11))], false) := by kernel_rfl

end Go.Fr.Try
