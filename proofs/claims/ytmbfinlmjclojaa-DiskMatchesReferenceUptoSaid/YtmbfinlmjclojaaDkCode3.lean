/- Part of the proofs of the statements of this seat. -/
import Derived.Test.YtmbfinlmjclojaaFW3
import Derived.Test.YtmbfinlmjclojaaProg
set_option linter.unusedVariables false
namespace Go.Fr.Try
open Go Go.RowKit Go.Proofs Go.Fr Go.Fr.T
/- 13 leasehold/disk.Append -/
def c13 : SC3 := (.seq (.c (.reg [.op (some 2) (.box 24 (.t 0)) none,
      .op (some 4) (.mov (.c (.slice none 0 0))) none,
      .op (some 5) (.mov (.c (.int .i64 0))) none]))
  (.seq (.c (.seq (.reg [.op (some 12) (.load true 1 (.t 2)) none,
      .op (some 13) (.call 35 [(.t 12)]) none,
      .op (some 14) (.un .not (.t 13)) none,
      .op (some 15) (.mov (.t 14)) none,
      .op (some 16) (.mov (.t 1)) (some (15, false)),
      .op (some 17) (.len (.t 16)) (some (15, false)),
      .op (some 18) (.bin .gtr (.t 17) (.c (.int .i64 65535))) (some (15, false)),
      .op (some 19) (.pick (.t 15) (.c (.bool true)) (.t 18)) none])
    (.cond (.t 19)
    (.seq (.reg [.op (some 4) (.mov (.c (.slice none 0 0))) none,
        .op (some 5) (.mov (.c (.int .i64 1))) none])
      .ret)
    .skip)))
  (.seq (.c (.reg [.op (some 21) (.load true 1 (.t 2)) none,
      .op (some 22) (.call 36 [(.t 21)]) none,
      .op (some 20) (.mov (.t 22)) none,
      .op (some 23) (.extr (.t 20) 0) none,
      .op (some 24) (.extr (.t 20) 1) none,
      .op (some 6) (.alloc 61 [(.slice none 0 0), (.int .i64 0), (.int .i64 0)]) none,
      .op (some 7) (.alloc 61 [(.slice none 0 0), (.int .i64 0), (.int .i64 0)]) none,
      .op none (.store 3 (.t 6) (.t 23)) none,
      .op none (.store 3 (.t 7) (.t 24)) none]))
  (.seq (.c (.reg [.op (some 25) (.load true 3 (.t 6)) none,
      .op (some 26) (.call 37 [(.t 25)]) none,
      .op (some 8) (.mov (.t 26)) none]))
  (.seq (.c (.reg [.op (some 9) (.alloc 3 [(.int .i64 0)]) none,
      .op none (.store 1 (.t 9) (.c (.int .i64 0))) none]))
  (.seq (.seq (.c (.reg [.op (some 27) (.mov (.t 8)) none,
      .op (some 28) (.call 38 [(.t 27)]) none]))
  (.rf 28 29 30 10 29 (.reg [.op (some 31) (.mov (.t 10)) none,
      .op none (.store 1 (.t 9) (.t 31)) none])))
  (.c (.seq (.seq (.reg [.op (some 32) (.load false 1 (.t 9)) none,
      .op (some 33) (.bin .add (.t 32) (.c (.int .i64 3))) none,
      .op (some 34) (.mov (.t 1)) none,
      .op (some 35) (.len (.t 34)) none,
      .op (some 36) (.bin .add (.t 33) (.t 35)) none,
      .op (some 37) (.mov (.t 8)) none,
      .op (some 38) (.len (.t 37)) none,
      .op (some 39) (.bin .gtr (.t 36) (.t 38)) none])
    (.cond (.t 39)
    (.seq (.reg [.op (some 4) (.mov (.c (.slice none 0 0))) none,
        .op (some 5) (.mov (.c (.int .i64 19))) none])
      .ret)
    .skip))
    (.seq (.regD [.op (some 40) (.loadD true 3 (.t 6)) none,
      .op (some 41) (.loadD false 1 (.t 9)) none,
      .op (some 42) (.mov (.t 1)) none,
      .op (some 43) (.callD 41 [(.t 42), (.c (.int .u8 0))]) none,
      .op (some 44) (.mkFD 5 1 1 [(.c (.int .u8 0))]) none,
      .op (some 45) (.mkFD 28 2 1 [(.t 43), (.t 44)]) none,
      .op (some 46) (.callD 40 [(.t 45)]) none,
      .op (some 47) (.callD 39 [(.t 40), (.t 41), (.t 46)]) none,
      .op (some 11) (.mov (.t 47)) none])
    (.seq (.reg [.op (some 48) (.mov (.t 11)) none,
      .op (some 49) (.load true 3 (.t 6)) none,
      .op (some 50) (.load false 1 (.t 9)) none,
      .op (some 51) (.mkF 5 1 1 [(.c (.int .u8 1))]) none,
      .op (some 52) (.call 39 [(.t 49), (.t 50), (.t 51)]) none,
      .op (some 53) (.app 52 2 32 [(.int .i64 0), (.slice none 0 0)] (.t 48) (.t 52)) none,
      .frz 47,
      .op (some 4) (.mov (.t 53)) none,
      .op (some 5) (.mov (.c (.int .i64 0))) none])
    .ret))))))))))
def A13 : Ann := { n := 54, own := [], frz := [(12, 6, [47])], ord := [(11, [0, 1, 2, 3, 4, 5, 6, 7, 8], [[], [], [], [2], [], [2, 3, 4], [2, 3, 4, 5], [0, 1, 2, 3, 4, 5, 6], [0, 1, 2, 3, 4, 5, 6, 7]])] }
theorem facts13 : factsOf3 Try.prog A13 Try.f13 = some (c13, 54, [(4, none), (5, none)], false) := by kernel_rfl

/- 22 leasehold/disk.Records -/
def c22 : SC3 := (.seq (.c (.reg [.op (some 1) (.box 24 (.t 0)) none,
      .op (some 2) (.mov (.c (.slice none 0 0))) none]))
  (.seq (.c (.seq (.reg [.op (some 8) (.load true 1 (.t 1)) none,
      .op (some 9) (.call 35 [(.t 8)]) none,
      .op (some 10) (.un .not (.t 9)) none])
    (.cond (.t 10)
    (.seq (.reg [.op (some 2) (.mov (.c (.slice none 0 0))) none])
      .ret)
    .skip)))
  (.seq (.c (.reg [.op (some 12) (.load true 1 (.t 1)) none,
      .op (some 13) (.call 36 [(.t 12)]) none,
      .op (some 11) (.mov (.t 13)) none,
      .op (some 14) (.extr (.t 11) 0) none,
      .op (some 15) (.extr (.t 11) 1) none,
      .op (some 3) (.alloc 61 [(.slice none 0 0), (.int .i64 0), (.int .i64 0)]) none,
      .op (some 4) (.alloc 61 [(.slice none 0 0), (.int .i64 0), (.int .i64 0)]) none,
      .op none (.store 3 (.t 3) (.t 14)) none,
      .op none (.store 3 (.t 4) (.t 15)) none]))
  (.seq (.c (.reg [.op (some 5) (.alloc 22 [(.slice none 0 0)]) none]))
  (.seq (.seq (.c (.reg [.op (some 16) (.load true 3 (.t 3)) none,
      .op (some 17) (.call 37 [(.t 16)]) none,
      .op (some 18) (.call 38 [(.t 17)]) none]))
  (.rf 18 19 20 7 20 (.regD [.op (some 21) (.loadD false 1 (.t 5)) none,
      .op (some 22) (.mov (.t 7)) none,
      .op (some 23) (.callD 53 [(.t 22)]) none,
      .op (some 24) (.mkFD 28 1 1 [(.t 23)]) none,
      .op (some 25) (.appD 28 1 24 [(.slice none 0 0)] (.t 21) (.t 24)) none,
      .op none (.storeD 1 (.t 5) (.t 25)) none])))
  (.c (.seq (.reg [.frz 25,
      .op (some 26) (.load false 1 (.t 5)) none,
      .op (some 2) (.mov (.t 26)) none])
    .ret)))))))
def A22 : Ann := { n := 27, own := [], frz := [(8, 0, [25])], ord := [(7, [0, 1, 2, 3, 4, 5], [[], [], [1], [1, 2], [0, 1, 2, 3], [0, 1, 2, 3, 4]])] }
theorem facts22 : factsOf3 Try.prog A22 Try.f22 = some (c22, 27, [(2, none)], false) := by kernel_rfl

end Go.Fr.Try
