/- Code with other annotations, printed by mkF.py. -/
import Derived.Test.YtgapnemcomkomaaFrFn
import Derived.Test.YtgapnemcomkomaaProg
set_option linter.unusedVariables false
namespace Go.Fr.Try
open Go Go.RowKit Go.Proofs Go.Fr
def yc6 : SCode := (.seq (.reg [.op (some 4) (.box 30 (.t 0)) none,
    .op (some 8) (.mov (.c (.bool false))) none])
  (.seq (.reg [.op (some 17) (.call 9 []) none,
    .op (some 9) (.mov (.t 17)) none])
  (.seq (.seq (.reg [.op (some 18) (.load true 11 (.t 4)) none,
    .op (some 19) (.call 11 [(.t 18)]) none,
    .op (some 20) (.un .not (.t 19)) none,
    .op (some 21) (.mov (.t 20)) none,
    .op (some 22) (.mov (.t 2)) (some (21, false)),
    .op (some 23) (.call 10 [(.t 22)]) (some (21, false)),
    .op (some 24) (.un .not (.t 23)) (some (21, false)),
    .op (some 25) (.pick (.t 21) (.c (.bool true)) (.t 24)) none,
    .op (some 26) (.mov (.t 25)) none,
    .op (some 27) (.mov (.t 3)) (some (26, false)),
    .op (some 28) (.build [(.string ⟨#[]⟩), (.int .i64 0), (.int .i64 0), (.slice none 0 0), (.int .i64 0), (.int .i64 0), (.int .i64 0), (.slice none 0 0), (.slice none 0 0), (.slice none 0 0), (.slice none 0 0)] [(9, 1, (.t 27))]) (some (26, false)),
    .op (some 29) (.call 11 [(.t 28)]) (some (26, false)),
    .op (some 30) (.un .not (.t 29)) (some (26, false)),
    .op (some 31) (.pick (.t 26) (.c (.bool true)) (.t 30)) none,
    .op (some 32) (.mov (.t 31)) none,
    .op (some 33) (.fieldA 4 (.t 4)) (some (32, false)),
    .op (some 34) (.load false 1 (.t 33)) (some (32, false)),
    .op (some 35) (.fieldA 8 (.t 4)) (some (32, false)),
    .op (some 36) (.load false 1 (.t 35)) (some (32, false)),
    .op (some 37) (.len (.t 36)) (some (32, false)),
    .op (some 38) (.bin .gtr (.t 34) (.t 37)) (some (32, false)),
    .op (some 39) (.pick (.t 32) (.c (.bool true)) (.t 38)) none])
  (.cond (.t 39)
  (.seq (.reg [.op (some 40) (.mov (.t 9)) none,
      .op (some 8) (.mov (.t 40)) none])
    .ret)
  .skip))
  (.seq (.reg [.op (some 42) (.load true 11 (.t 4)) none,
    .op (some 43) (.call 13 [(.t 42)]) none,
    .op (some 41) (.mov (.t 43)) none,
    .op (some 44) (.extr (.t 41) 0) none,
    .op (some 45) (.extr (.t 41) 1) none,
    .op (some 10) (.mov (.t 44)) none,
    .op (some 11) (.mov (.t 45)) none])
  (.seq (.reg [.op (some 46) (.load true 11 (.t 4)) none,
    .op (some 12) (.alloc 30 [(.string ⟨#[]⟩), (.int .i64 0), (.int .i64 0), (.slice none 0 0), (.int .i64 0), (.int .i64 0), (.int .i64 0), (.slice none 0 0), (.slice none 0 0), (.slice none 0 0), (.slice none 0 0)]) none,
    .op none (.store 11 (.t 12) (.t 46)) none])
  (.seq (.reg [.op (some 47) (.mov (.t 1)) none,
    .op (some 48) (.fieldA 1 (.t 12)) none,
    .op none (.store 1 (.t 48) (.t 47)) none])
  (.seq (.reg [.op (some 50) (.load true 11 (.t 12)) none,
    .op (some 51) (.call 13 [(.t 50)]) none,
    .op (some 49) (.mov (.t 51)) none,
    .op (some 52) (.extr (.t 49) 0) none,
    .op (some 53) (.extr (.t 49) 1) none,
    .op (some 13) (.mov (.t 52)) none,
    .op (some 14) (.mov (.t 53)) none])
  (.seq (.reg [.op (some 54) (.mkR 26 0 3 []) none,
    .op (some 55) (.fieldA 8 (.t 4)) none,
    .op (some 56) (.load false 1 (.t 55)) none,
    .op (some 57) (.app 26 3 40 [(.int .i64 0), (.int .i64 0), (.slice none 0 0)] (.t 54) (.t 56)) none,
    .op (some 58) (.mov (.t 2)) none,
    .op (some 59) (.app 26 3 40 [(.int .i64 0), (.int .i64 0), (.slice none 0 0)] (.t 57) (.t 58)) none,
    .op (some 60) (.fieldA 8 (.t 12)) none,
    .op none (.store 1 (.t 60) (.t 59)) none])
  (.seq (.reg [.op (some 61) (.mov (.t 3)) none,
    .op (some 62) (.fieldA 9 (.t 12)) none,
    .op none (.store 1 (.t 62) (.t 61)) none])
  (.seq (.reg [.op (some 64) (.load true 11 (.t 12)) none,
    .op (some 65) (.call 13 [(.t 64)]) none,
    .op (some 63) (.mov (.t 65)) none,
    .op (some 66) (.extr (.t 63) 0) none,
    .op (some 67) (.extr (.t 63) 1) none,
    .op (some 15) (.mov (.t 66)) none,
    .op (some 16) (.mov (.t 67)) none])
  (.seq (.reg [.op (some 68) (.mov (.t 9)) none,
    .op (some 69) (.mov (.t 68)) none,
    .op (some 70) (.mov (.t 10)) (some (69, true)),
    .op (some 71) (.mov (.t 13)) (some (69, true)),
    .op (some 72) (.bin .eql (.t 70) (.t 71)) (some (69, true)),
    .op (some 73) (.pick (.t 69) (.t 72) (.c (.bool false))) none,
    .op (some 74) (.mov (.t 73)) none,
    .op (some 75) (.mov (.t 11)) (some (74, true)),
    .op (some 76) (.mov (.t 14)) (some (74, true)),
    .op (some 77) (.bin .eql (.t 75) (.t 76)) (some (74, true)),
    .op (some 78) (.pick (.t 74) (.t 77) (.c (.bool false))) none,
    .op (some 79) (.mov (.t 78)) none,
    .op (some 80) (.mov (.t 10)) (some (79, true)),
    .op (some 81) (.mov (.t 15)) (some (79, true)),
    .op (some 82) (.bin .eql (.t 80) (.t 81)) (some (79, true)),
    .op (some 83) (.pick (.t 79) (.t 82) (.c (.bool false))) none,
    .op (some 8) (.mov (.t 83)) none])
  .ret)))))))))))
def yA6 : Ann := { n := 84, own := [54], frz := [], ord := [] }
theorem yfacts6 : factsOf Try.prog yA6 Try.f6 = some (yc6, 84, [(8, none)], false) := by kernel_rfl

end Go.Fr.Try
