/- Part of the proofs of the statements of this seat. -/
import Derived.Test.YtgapnemcomkomaaFW1
import Derived.Test.YtgapnemcomkomaaProg
/- Code with other annotations, printed by mkF.py. -/
set_option linter.unusedVariables false
namespace Go.Fr.Try
open Go Go.RowKit Go.Proofs Go.Fr
def yc69 : SCode := (.seq (.reg [.op (some 2) (.box 37 (.t 0)) none,
    .op (some 4) (.mov (.c (.slice none 0 0))) none])
  (.seq (.reg [.op (some 5) (.mov (.c (.slice none 0 0))) none,
    .op (some 6) (.mov (.c (.slice none 0 0))) none,
    .op (some 7) (.mov (.c (.slice none 0 0))) none])
  (.seq (.reg [.op (some 13) (.mkR 3 3 1 [(.c (.int .i64 0)), (.c (.int .i64 0)), (.c (.int .i64 0))]) none,
    .op (some 8) (.mov (.t 13)) none])
  (.seq (.seq (.reg [.op (some 9) (.mov (.c (.int .i64 0))) none])
  (.block 0
  (.loop [14, 15, 16, 17, 18, 21, 22, 23, 24, 25, 26, 27, 28, 29, 30, 31, 32, 33, 34, 35, 36, 37, 5, 38, 39, 40, 41, 42, 19, 20, 9]
    (.seq (.seq (.reg [.op (some 14) (.mov (.t 9)) none,
        .op (some 15) (.fieldA 2 (.t 2)) none,
        .op (some 16) (.load false 1 (.t 15)) none,
        .op (some 17) (.len (.t 16)) none,
        .op (some 18) (.bin .lss (.t 14) (.t 17)) none])
      (.cond (.t 18)
      .skip
      (.exit 0)))
      (.seq (.block 1
      (.seq (.reg [.op (some 21) (.fieldA 2 (.t 2)) none,
          .op (some 22) (.load false 1 (.t 21)) none,
          .op (some 23) (.mov (.t 9)) none,
          .op (some 24) (.idxA 5 (.t 22) (.t 23)) none,
          .op (some 25) (.fieldA 1 (.t 24)) none,
          .op (some 26) (.load false 1 (.t 25)) none,
          .op (some 27) (.mov (.t 1)) none,
          .op (some 28) (.bin .eql (.t 26) (.t 27)) none])
        (.cond (.t 28)
        (.seq (.regD [.op (some 29) (.mov (.t 5)) none,
            .op (some 30) (.loadD true 8 (.t 2)) none,
            .op (some 31) (.fieldA 2 (.t 2)) none,
            .op (some 32) (.loadD false 1 (.t 31)) none,
            .op (some 33) (.mov (.t 9)) none,
            .op (some 34) (.idxA 5 (.t 32) (.t 33)) none,
            .op (some 35) (.loadD true 5 (.t 34)) none,
            .op (some 36) (.callD 83 [(.t 30), (.t 35)]) none,
            .op (some 37) (.appD 5 1 1 [(.int .u8 0)] (.t 29) (.t 36)) none,
            .op (some 5) (.mov (.t 37)) none])
          (.reg [.op (some 38) (.mov (.t 8)) none,
            .op (some 39) (.idxA 1 (.t 38) (.c (.int .i64 0))) none,
            .op (some 40) (.load false 1 (.t 39)) none,
            .op (some 41) (.bin .add (.t 40) (.c (.int .i64 1))) none,
            .op (some 42) (.idxA 1 (.t 38) (.c (.int .i64 0))) none,
            .op none (.store 1 (.t 42) (.t 41)) none]))
        .skip)))
      (.reg [.op (some 19) (.mov (.t 9)) none,
        .op (some 20) (.bin .add (.t 19) (.c (.int .i64 1))) none,
        .op (some 9) (.mov (.t 20)) none]))))))
  (.seq (.seq (.reg [.op (some 10) (.mov (.c (.int .i64 0))) none])
  (.block 2
  (.loop [43, 44, 45, 46, 47, 50, 51, 52, 53, 54, 55, 56, 57, 58, 59, 60, 61, 62, 63, 64, 65, 66, 6, 67, 68, 69, 70, 71, 48, 49, 10]
    (.seq (.seq (.reg [.op (some 43) (.mov (.t 10)) none,
        .op (some 44) (.fieldA 5 (.t 2)) none,
        .op (some 45) (.load false 1 (.t 44)) none,
        .op (some 46) (.len (.t 45)) none,
        .op (some 47) (.bin .lss (.t 43) (.t 46)) none])
      (.cond (.t 47)
      .skip
      (.exit 2)))
      (.seq (.block 3
      (.seq (.reg [.op (some 50) (.fieldA 5 (.t 2)) none,
          .op (some 51) (.load false 1 (.t 50)) none,
          .op (some 52) (.mov (.t 10)) none,
          .op (some 53) (.idxA 8 (.t 51) (.t 52)) none,
          .op (some 54) (.fieldA 1 (.t 53)) none,
          .op (some 55) (.load false 1 (.t 54)) none,
          .op (some 56) (.mov (.t 1)) none,
          .op (some 57) (.bin .eql (.t 55) (.t 56)) none])
        (.cond (.t 57)
        (.seq (.regD [.op (some 58) (.mov (.t 6)) none,
            .op (some 59) (.loadD true 8 (.t 2)) none,
            .op (some 60) (.fieldA 5 (.t 2)) none,
            .op (some 61) (.loadD false 1 (.t 60)) none,
            .op (some 62) (.mov (.t 10)) none,
            .op (some 63) (.idxA 8 (.t 61) (.t 62)) none,
            .op (some 64) (.loadD true 8 (.t 63)) none,
            .op (some 65) (.callD 84 [(.t 59), (.t 64)]) none,
            .op (some 66) (.appD 5 1 1 [(.int .u8 0)] (.t 58) (.t 65)) none,
            .op (some 6) (.mov (.t 66)) none])
          (.reg [.op (some 67) (.mov (.t 8)) none,
            .op (some 68) (.idxA 1 (.t 67) (.c (.int .i64 1))) none,
            .op (some 69) (.load false 1 (.t 68)) none,
            .op (some 70) (.bin .add (.t 69) (.c (.int .i64 1))) none,
            .op (some 71) (.idxA 1 (.t 67) (.c (.int .i64 1))) none,
            .op none (.store 1 (.t 71) (.t 70)) none]))
        .skip)))
      (.reg [.op (some 48) (.mov (.t 10)) none,
        .op (some 49) (.bin .add (.t 48) (.c (.int .i64 1))) none,
        .op (some 10) (.mov (.t 49)) none]))))))
  (.seq (.seq (.reg [.op (some 11) (.mov (.c (.int .i64 0))) none])
  (.block 4
  (.loop [72, 73, 74, 75, 76, 79, 80, 81, 82, 83, 84, 85, 86, 87, 88, 89, 90, 91, 92, 93, 94, 95, 7, 96, 97, 98, 99, 100, 77, 78, 11]
    (.seq (.seq (.reg [.op (some 72) (.mov (.t 11)) none,
        .op (some 73) (.fieldA 6 (.t 2)) none,
        .op (some 74) (.load false 1 (.t 73)) none,
        .op (some 75) (.len (.t 74)) none,
        .op (some 76) (.bin .lss (.t 72) (.t 75)) none])
      (.cond (.t 76)
      .skip
      (.exit 4)))
      (.seq (.block 5
      (.seq (.reg [.op (some 79) (.fieldA 6 (.t 2)) none,
          .op (some 80) (.load false 1 (.t 79)) none,
          .op (some 81) (.mov (.t 11)) none,
          .op (some 82) (.idxA 11 (.t 80) (.t 81)) none,
          .op (some 83) (.fieldA 1 (.t 82)) none,
          .op (some 84) (.load false 1 (.t 83)) none,
          .op (some 85) (.mov (.t 1)) none,
          .op (some 86) (.bin .eql (.t 84) (.t 85)) none])
        (.cond (.t 86)
        (.seq (.regD [.op (some 87) (.mov (.t 7)) none,
            .op (some 88) (.loadD true 8 (.t 2)) none,
            .op (some 89) (.fieldA 6 (.t 2)) none,
            .op (some 90) (.loadD false 1 (.t 89)) none,
            .op (some 91) (.mov (.t 11)) none,
            .op (some 92) (.idxA 11 (.t 90) (.t 91)) none,
            .op (some 93) (.loadD true 11 (.t 92)) none,
            .op (some 94) (.callD 85 [(.t 88), (.t 93)]) none,
            .op (some 95) (.appD 5 1 1 [(.int .u8 0)] (.t 87) (.t 94)) none,
            .op (some 7) (.mov (.t 95)) none])
          (.reg [.op (some 96) (.mov (.t 8)) none,
            .op (some 97) (.idxA 1 (.t 96) (.c (.int .i64 2))) none,
            .op (some 98) (.load false 1 (.t 97)) none,
            .op (some 99) (.bin .add (.t 98) (.c (.int .i64 1))) none,
            .op (some 100) (.idxA 1 (.t 96) (.c (.int .i64 2))) none,
            .op none (.store 1 (.t 100) (.t 99)) none]))
        .skip)))
      (.reg [.op (some 77) (.mov (.t 11)) none,
        .op (some 78) (.bin .add (.t 77) (.c (.int .i64 1))) none,
        .op (some 11) (.mov (.t 78)) none]))))))
  (.seq (.seq (.reg [.frz 13, .frz 37, .frz 66, .frz 95])
  (.regD [.op (some 101) (.fieldA 0 (.t 2)) none,
    .op (some 102) (.loadD false 1 (.t 101)) none,
    .op (some 103) (.mov (.t 1)) none,
    .op (some 106) (.mov (.t 8)) none,
    .op (some 107) (.idxA 1 (.t 106) (.c (.int .i64 0))) none,
    .op (some 108) (.loadD false 1 (.t 107)) none,
    .op (some 111) (.mov (.t 5)) none,
    .op (some 104) (.callD 86 [(.t 102), (.t 103)]) none,
    .op (some 105) (.callD 76 [(.t 104)]) none,
    .op (some 109) (.callD 77 [(.t 108)]) none,
    .op (some 110) (.appD 5 1 1 [(.int .u8 0)] (.t 105) (.t 109)) none,
    .op (some 112) (.appD 5 1 1 [(.int .u8 0)] (.t 110) (.t 111)) none,
    .op (some 12) (.mov (.t 112)) none]))
  (.seq (.reg [.op (some 113) (.mov (.t 12)) none,
    .op (some 114) (.mov (.t 8)) none,
    .op (some 115) (.idxA 1 (.t 114) (.c (.int .i64 1))) none,
    .op (some 116) (.load false 1 (.t 115)) none,
    .op (some 117) (.call 77 [(.t 116)]) none,
    .op (some 118) (.app 5 1 1 [(.int .u8 0)] (.t 113) (.t 117)) none,
    .op (some 119) (.mov (.t 6)) none,
    .op (some 120) (.app 5 1 1 [(.int .u8 0)] (.t 118) (.t 119)) none,
    .op (some 12) (.mov (.t 120)) none])
  (.seq (.reg [.op (some 121) (.mov (.t 12)) none,
    .op (some 122) (.mov (.t 8)) none,
    .op (some 123) (.idxA 1 (.t 122) (.c (.int .i64 2))) none,
    .op (some 124) (.load false 1 (.t 123)) none,
    .op (some 125) (.call 77 [(.t 124)]) none,
    .op (some 126) (.app 5 1 1 [(.int .u8 0)] (.t 121) (.t 125)) none,
    .op (some 127) (.mov (.t 7)) none,
    .op (some 128) (.app 5 1 1 [(.int .u8 0)] (.t 126) (.t 127)) none,
    .op (some 4) (.mov (.t 128)) none])
  .ret)))))))))
def yA69 : Ann := { n := 129, own := [13], frz := [(21, 0, [13, 37, 66, 95])], ord := [(7, [0, 1, 2, 3, 4, 5, 6, 7, 8, 9], [[], [], [], [2], [], [2, 3, 4], [2, 3, 4, 5], [1, 2, 3, 4, 5, 6], [0, 1, 2, 3, 4, 5, 6, 7], [0, 1, 2, 3, 4, 5, 6, 7, 8]]), (13, [0, 1, 2, 3, 4, 5, 6, 7, 8, 9], [[], [], [], [2], [], [2, 3, 4], [2, 3, 4, 5], [1, 2, 3, 4, 5, 6], [0, 1, 2, 3, 4, 5, 6, 7], [0, 1, 2, 3, 4, 5, 6, 7, 8]]), (19, [0, 1, 2, 3, 4, 5, 6, 7, 8, 9], [[], [], [], [2], [], [2, 3, 4], [2, 3, 4, 5], [1, 2, 3, 4, 5, 6], [0, 1, 2, 3, 4, 5, 6, 7], [0, 1, 2, 3, 4, 5, 6, 7, 8]]), (21, [0, 1, 2, 5, 6, 7, 10, 3, 4, 8, 9, 11, 12], [[], [0], [], [0, 1, 2], [0, 1, 2, 3], [], [5], [5, 6], [0, 1, 2, 3, 4, 5, 6, 7], [0, 1, 2, 3, 4, 5, 6, 7, 8], [], [0, 1, 2, 3, 4, 5, 6, 7, 8, 9, 10], [0, 1, 2, 3, 4, 5, 6, 7, 8, 9, 10, 11]])] }
theorem yfacts69 : factsOf Try.prog yA69 Try.f69 = some (yc69, 129, [(4, none)], false) := by kernel_rfl

end Go.Fr.Try
