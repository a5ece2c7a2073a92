/- Part of the proofs of the statements of this seat. -/
import Derived.Test.YtgapnemcomkomaaFW1
import Derived.Test.YtgapnemcomkomaaProg
set_option linter.unusedVariables false
namespace Go.Fr.Try
open Go Go.RowKit Go.Proofs Go.Fr
/- 3 leasehold/leaseholdlaw20.DigestMatchesReference -/
def c3 : SCode := (.seq (.reg [.op (some 8) (.box 26 (.t 2)) none,
    .op (some 9) (.box 30 (.t 3)) none,
    .op (some 10) (.box 37 (.t 4)) none,
    .op (some 12) (.mov (.c (.bool false))) none])
  (.seq (.reg [.op (some 19) (.call 9 []) none,
    .op (some 13) (.mov (.t 19)) none])
  (.seq (.seq (.reg [.op (some 20) (.mov (.t 0)) none,
    .op (some 21) (.len (.t 20)) none,
    .op (some 22) (.bin .gtr (.t 21) (.c (.int .i64 1000))) none,
    .op (some 23) (.mov (.t 22)) none,
    .op (some 24) (.mov (.t 1)) (some (23, false)),
    .op (some 25) (.len (.t 24)) (some (23, false)),
    .op (some 26) (.bin .gtr (.t 25) (.c (.int .i64 100))) (some (23, false)),
    .op (some 27) (.pick (.t 23) (.c (.bool true)) (.t 26)) none,
    .op (some 28) (.mov (.t 27)) none,
    .op (some 29) (.load true 3 (.t 8)) (some (28, false)),
    .op (some 30) (.mkF 26 1 3 [(.t 29)]) (some (28, false)),
    .op (some 31) (.call 10 [(.t 30)]) (some (28, false)),
    .op (some 32) (.un .not (.t 31)) (some (28, false)),
    .op (some 33) (.pick (.t 28) (.c (.bool true)) (.t 32)) none,
    .op (some 34) (.mov (.t 33)) none,
    .op (some 35) (.load true 11 (.t 9)) (some (34, false)),
    .op (some 36) (.call 11 [(.t 35)]) (some (34, false)),
    .op (some 37) (.un .not (.t 36)) (some (34, false)),
    .op (some 38) (.pick (.t 34) (.c (.bool true)) (.t 37)) none,
    .op (some 39) (.mov (.t 38)) none,
    .op (some 40) (.load true 8 (.t 10)) (some (39, false)),
    .op (some 41) (.call 12 [(.t 40)]) (some (39, false)),
    .op (some 42) (.un .not (.t 41)) (some (39, false)),
    .op (some 43) (.pick (.t 39) (.c (.bool true)) (.t 42)) none,
    .op (some 44) (.mov (.t 43)) none,
    .op (some 45) (.fieldA 0 (.t 10)) (some (44, false)),
    .op (some 46) (.load false 1 (.t 45)) (some (44, false)),
    .op (some 47) (.len (.t 46)) (some (44, false)),
    .op (some 48) (.bin .gtr (.t 47) (.c (.int .i64 10))) (some (44, false)),
    .op (some 49) (.pick (.t 44) (.c (.bool true)) (.t 48)) none,
    .op (some 50) (.mov (.t 49)) none,
    .op (some 51) (.fieldA 5 (.t 10)) (some (50, false)),
    .op (some 52) (.load false 1 (.t 51)) (some (50, false)),
    .op (some 53) (.len (.t 52)) (some (50, false)),
    .op (some 54) (.bin .gtr (.t 53) (.c (.int .i64 10))) (some (50, false)),
    .op (some 55) (.pick (.t 50) (.c (.bool true)) (.t 54)) none])
  (.cond (.t 55)
  (.seq (.reg [.op (some 56) (.mov (.t 13)) none,
      .op (some 12) (.mov (.t 56)) none])
    .ret)
  .skip))
  (.seq (.seq (.reg [.op (some 14) (.mov (.c (.int .i64 0))) none])
  (.block 0
  (.loop [57, 58, 59, 60, 61, 64, 65, 66, 67, 68, 69, 70, 71, 72, 73, 74, 75, 76, 77, 78, 79, 80, 81, 82, 83, 12, 62, 63, 14]
    (.seq (.seq (.reg [.op (some 57) (.mov (.t 14)) none,
        .op (some 58) (.fieldA 5 (.t 10)) none,
        .op (some 59) (.load false 1 (.t 58)) none,
        .op (some 60) (.len (.t 59)) none,
        .op (some 61) (.bin .lss (.t 57) (.t 60)) none])
      (.cond (.t 61)
      .skip
      (.exit 0)))
      (.seq (.block 1
      (.seq (.reg [.op (some 64) (.fieldA 5 (.t 10)) none,
          .op (some 65) (.load false 1 (.t 64)) none,
          .op (some 66) (.mov (.t 14)) none,
          .op (some 67) (.idxA 8 (.t 65) (.t 66)) none,
          .op (some 68) (.fieldA 4 (.t 67)) none,
          .op (some 69) (.load true 3 (.t 68)) none,
          .op (some 70) (.mkF 26 1 3 [(.t 69)]) none,
          .op (some 71) (.call 10 [(.t 70)]) none,
          .op (some 72) (.un .not (.t 71)) none,
          .op (some 73) (.mov (.t 72)) none,
          .op (some 74) (.fieldA 5 (.t 10)) (some (73, false)),
          .op (some 75) (.load false 1 (.t 74)) (some (73, false)),
          .op (some 76) (.mov (.t 14)) (some (73, false)),
          .op (some 77) (.idxA 8 (.t 75) (.t 76)) (some (73, false)),
          .op (some 78) (.fieldA 3 (.t 77)) (some (73, false)),
          .op (some 79) (.load false 1 (.t 78)) (some (73, false)),
          .op (some 80) (.len (.t 79)) (some (73, false)),
          .op (some 81) (.bin .gtr (.t 80) (.c (.int .i64 10))) (some (73, false)),
          .op (some 82) (.pick (.t 73) (.c (.bool true)) (.t 81)) none])
        (.cond (.t 82)
        (.seq (.reg [.op (some 83) (.mov (.t 13)) none,
            .op (some 12) (.mov (.t 83)) none])
          .ret)
        .skip)))
      (.reg [.op (some 62) (.mov (.t 14)) none,
        .op (some 63) (.bin .add (.t 62) (.c (.int .i64 1))) none,
        .op (some 14) (.mov (.t 63)) none]))))))
  (.seq (.reg [.op (some 85) (.load true 11 (.t 9)) none,
    .op (some 86) (.call 13 [(.t 85)]) none,
    .op (some 84) (.mov (.t 86)) none,
    .op (some 87) (.extr (.t 84) 0) none,
    .op (some 88) (.extr (.t 84) 1) none,
    .op (some 15) (.mov (.t 87)) none,
    .op (some 16) (.mov (.t 88)) none])
  (.seq (.reg [.op (some 90) (.load true 11 (.t 9)) none,
    .op (some 91) (.call 14 [(.t 90)]) none,
    .op (some 89) (.mov (.t 91)) none,
    .op (some 92) (.extr (.t 89) 0) none,
    .op (some 93) (.extr (.t 89) 1) none,
    .op (some 17) (.mov (.t 92)) none,
    .op (some 18) (.mov (.t 93)) none])
  (.seq (.regD [.op (some 94) (.mov (.t 13)) none,
    .op (some 95) (.mov (.t 94)) none,
    .op (some 96) (.mov (.t 0)) (some (95, true)),
    .op (some 98) (.mov (.t 0)) (some (95, true)),
    .op (some 97) (.callD 15 [(.t 96)]) (some (95, true)),
    .op (some 99) (.callD 16 [(.t 98)]) (some (95, true)),
    .op (some 100) (.bin .eql (.t 97) (.t 99)) (some (95, true)),
    .op (some 101) (.pick (.t 95) (.t 100) (.c (.bool false))) none,
    .op (some 102) (.mov (.t 101)) none,
    .op (some 103) (.mov (.t 1)) (some (102, true)),
    .op (some 105) (.mov (.t 1)) (some (102, true)),
    .op (some 104) (.callD 17 [(.t 103)]) (some (102, true)),
    .op (some 106) (.callD 18 [(.t 105)]) (some (102, true)),
    .op (some 107) (.bin .eql (.t 104) (.t 106)) (some (102, true)),
    .op (some 108) (.pick (.t 102) (.t 107) (.c (.bool false))) none,
    .op (some 109) (.mov (.t 108)) none,
    .op (some 110) (.loadD true 3 (.t 8)) (some (109, true)),
    .op (some 112) (.loadD true 3 (.t 8)) (some (109, true)),
    .op (some 111) (.callD 20 [(.t 110)]) (some (109, true)),
    .op (some 113) (.callD 21 [(.t 112)]) (some (109, true)),
    .op (some 114) (.callD 19 [(.t 111), (.t 113)]) (some (109, true)),
    .op (some 115) (.pick (.t 109) (.t 114) (.c (.bool false))) none,
    .op (some 116) (.mov (.t 115)) none,
    .op (some 117) (.mov (.t 15)) (some (116, true)),
    .op (some 118) (.mov (.t 17)) (some (116, true)),
    .op (some 119) (.bin .eql (.t 117) (.t 118)) (some (116, true)),
    .op (some 120) (.pick (.t 116) (.t 119) (.c (.bool false))) none,
    .op (some 121) (.mov (.t 120)) none,
    .op (some 122) (.mov (.t 16)) (some (121, true)),
    .op (some 123) (.mov (.t 18)) (some (121, true)),
    .op (some 124) (.bin .eql (.t 122) (.t 123)) (some (121, true)),
    .op (some 125) (.pick (.t 121) (.t 124) (.c (.bool false))) none,
    .op (some 126) (.mov (.t 125)) none,
    .op (some 127) (.loadD true 8 (.t 10)) (some (126, true)),
    .op (some 128) (.mov (.t 5)) (some (126, true)),
    .op (some 130) (.loadD true 8 (.t 10)) (some (126, true)),
    .op (some 131) (.mov (.t 5)) (some (126, true)),
    .op (some 129) (.callD 22 [(.t 127), (.t 128)]) (some (126, true)),
    .op (some 132) (.callD 23 [(.t 130), (.t 131)]) (some (126, true)),
    .op (some 133) (.bin .eql (.t 129) (.t 132)) (some (126, true)),
    .op (some 134) (.pick (.t 126) (.t 133) (.c (.bool false))) none,
    .op (some 12) (.mov (.t 134)) none])
  .ret)))))))
def A3 : Ann := { n := 135, own := [], frz := [], ord := [(11, [0, 1, 2, 4, 3, 5, 6, 7, 8, 9, 11, 10, 12, 13, 14, 15, 16, 18, 17, 19, 20, 21, 22, 23, 24, 25, 26, 27, 28, 29, 30, 31, 32, 33, 34, 36, 37, 35, 38, 39, 40, 41], [[], [0], [0, 1], [0, 1, 2], [0, 1], [0, 1, 2, 3, 4], [0, 1, 2, 3, 4, 5], [0, 1, 2, 3, 4, 5, 6], [0, 1, 2, 3, 4, 5, 6, 7], [0, 1, 2, 3, 4, 5, 6, 7, 8], [0, 1, 2, 3, 4, 5, 6, 7, 8, 9], [0, 1, 2, 3, 4, 5, 6, 7, 8], [0, 1, 2, 3, 4, 5, 6, 7, 8, 9, 10, 11], [0, 1, 2, 3, 4, 5, 6, 7, 8, 9, 10, 11, 12], [0, 1, 2, 3, 4, 5, 6, 7, 8, 9, 10, 11, 12, 13], [0, 1, 2, 3, 4, 5, 6, 7, 8, 9, 10, 11, 12, 13, 14], [0, 1, 2, 3, 4, 5, 6, 7, 8, 9, 10, 11, 12, 13, 14, 15], [0, 1, 2, 3, 4, 5, 6, 7, 8, 9, 10, 11, 12, 13, 14, 15, 16], [0, 1, 2, 3, 4, 5, 6, 7, 8, 9, 10, 11, 12, 13, 14, 15], [0, 1, 2, 3, 4, 5, 6, 7, 8, 9, 10, 11, 12, 13, 14, 15, 16, 17, 18], [0, 1, 2, 3, 4, 5, 6, 7, 8, 9, 10, 11, 12, 13, 14, 15, 16, 17, 18, 19], [0, 1, 2, 3, 4, 5, 6, 7, 8, 9, 10, 11, 12, 13, 14, 15, 16, 17, 18, 19, 20], [0, 1, 2, 3, 4, 5, 6, 7, 8, 9, 10, 11, 12, 13, 14, 15, 16, 17, 18, 19, 20, 21], [0, 1, 2, 3, 4, 5, 6, 7, 8, 9, 10, 11, 12, 13, 14, 15, 16, 17, 18, 19, 20, 21, 22], [0, 1, 2, 3, 4, 5, 6, 7, 8, 9, 10, 11, 12, 13, 14, 15, 16, 17, 18, 19, 20, 21, 22], [0, 1, 2, 3, 4, 5, 6, 7, 8, 9, 10, 11, 12, 13, 14, 15, 16, 17, 18, 19, 20, 21, 22, 23, 24], [0, 1, 2, 3, 4, 5, 6, 7, 8, 9, 10, 11, 12, 13, 14, 15, 16, 17, 18, 19, 20, 21, 22, 23, 24, 25], [0, 1, 2, 3, 4, 5, 6, 7, 8, 9, 10, 11, 12, 13, 14, 15, 16, 17, 18, 19, 20, 21, 22, 23, 24, 25, 26], [0, 1, 2, 3, 4, 5, 6, 7, 8, 9, 10, 11, 12, 13, 14, 15, 16, 17, 18, 19, 20, 21, 22, 23, 24, 25, 26, 27], [0, 1, 2, 3, 4, 5, 6, 7, 8, 9, 10, 11, 12, 13, 14, 15, 16, 17, 18, 19, 20, 21, 22, 23, 24, 25, 26, 27], [0, 1, 2, 3, 4, 5, 6, 7, 8, 9, 10, 11, 12, 13, 14, 15, 16, 17, 18, 19, 20, 21, 22, 23, 24, 25, 26, 27, 28, 29], [0, 1, 2, 3, 4, 5, 6, 7, 8, 9, 10, 11, 12, 13, 14, 15, 16, 17, 18, 19, 20, 21, 22, 23, 24, 25, 26, 27, 28, 29, 30], [0, 1, 2, 3, 4, 5, 6, 7, 8, 9, 10, 11, 12, 13, 14, 15, 16, 17, 18, 19, 20, 21, 22, 23, 24, 25, 26, 27, 28, 29, 30, 31], [0, 1, 2, 3, 4, 5, 6, 7, 8, 9, 10, 11, 12, 13, 14, 15, 16, 17, 18, 19, 20, 21, 22, 23, 24, 25, 26, 27, 28, 29, 30, 31, 32], [0, 1, 2, 3, 4, 5, 6, 7, 8, 9, 10, 11, 12, 13, 14, 15, 16, 17, 18, 19, 20, 21, 22, 23, 24, 25, 26, 27, 28, 29, 30, 31, 32], [0, 1, 2, 3, 4, 5, 6, 7, 8, 9, 10, 11, 12, 13, 14, 15, 16, 17, 18, 19, 20, 21, 22, 23, 24, 25, 26, 27, 28, 29, 30, 31, 32, 33, 34], [0, 1, 2, 3, 4, 5, 6, 7, 8, 9, 10, 11, 12, 13, 14, 15, 16, 17, 18, 19, 20, 21, 22, 23, 24, 25, 26, 27, 28, 29, 30, 31, 32], [0, 1, 2, 3, 4, 5, 6, 7, 8, 9, 10, 11, 12, 13, 14, 15, 16, 17, 18, 19, 20, 21, 22, 23, 24, 25, 26, 27, 28, 29, 30, 31, 32], [0, 1, 2, 3, 4, 5, 6, 7, 8, 9, 10, 11, 12, 13, 14, 15, 16, 17, 18, 19, 20, 21, 22, 23, 24, 25, 26, 27, 28, 29, 30, 31, 32, 33, 34, 35, 36, 37], [0, 1, 2, 3, 4, 5, 6, 7, 8, 9, 10, 11, 12, 13, 14, 15, 16, 17, 18, 19, 20, 21, 22, 23, 24, 25, 26, 27, 28, 29, 30, 31, 32, 33, 34, 35, 36, 37, 38], [0, 1, 2, 3, 4, 5, 6, 7, 8, 9, 10, 11, 12, 13, 14, 15, 16, 17, 18, 19, 20, 21, 22, 23, 24, 25, 26, 27, 28, 29, 30, 31, 32, 33, 34, 35, 36, 37, 38, 39], [0, 1, 2, 3, 4, 5, 6, 7, 8, 9, 10, 11, 12, 13, 14, 15, 16, 17, 18, 19, 20, 21, 22, 23, 24, 25, 26, 27, 28, 29, 30, 31, 32, 33, 34, 35, 36, 37, 38, 39, 40]])] }
theorem facts3 : factsOf Try.prog A3 Try.f3 = some (c3, 135, [(12, none)], false) := by kernel_rfl

/- 4 leasehold/leaseholdlaw20.DigestBytes -/
def c4 : SCode := (.seq (.reg [.op (some 6) (.mov (.c (.bool false))) none])
  (.seq (.reg [.op (some 12) (.call 9 []) none,
    .op (some 7) (.mov (.t 12)) none])
  (.seq (.seq (.reg [.op (some 13) (.mov (.t 0)) none,
    .op (some 14) (.len (.t 13)) none,
    .op (some 15) (.bin .gtr (.t 14) (.c (.int .i64 1000))) none])
  (.cond (.t 15)
  (.seq (.reg [.op (some 16) (.mov (.t 7)) none,
      .op (some 6) (.mov (.t 16)) none])
    .ret)
  .skip))
  (.seq (.reg [.op (some 17) (.mov (.t 0)) none,
    .op (some 18) (.call 15 [(.t 17)]) none,
    .op (some 8) (.mov (.t 18)) none])
  (.seq (.seq (.reg [.op (some 19) (.mov (.t 8)) none,
    .op (some 20) (.bin .lss (.t 19) (.c (.int .i64 0))) none,
    .op (some 21) (.mov (.t 20)) none,
    .op (some 22) (.mov (.t 8)) (some (21, false)),
    .op (some 23) (.bin .gtr (.t 22) (.c (.int .i64 2147483646))) (some (21, false)),
    .op (some 24) (.pick (.t 21) (.c (.bool true)) (.t 23)) none,
    .op (some 25) (.mov (.t 24)) none,
    .op (some 26) (.mov (.t 2)) (some (25, false)),
    .op (some 27) (.mkR 5 1 1 [(.t 26)]) (some (25, false)),
    .op (some 28) (.mov (.t 0)) (some (25, false)),
    .op (some 29) (.app 5 1 1 [(.int .u8 0)] (.t 27) (.t 28)) (some (25, false)),
    .op (some 30) (.call 15 [(.t 29)]) (some (25, false)),
    .op (some 31) (.mov (.t 8)) (some (25, false)),
    .op (some 32) (.bin .eql (.t 30) (.t 31)) (some (25, false)),
    .op (some 33) (.pick (.t 25) (.c (.bool true)) (.t 32)) none])
  (.cond (.t 33)
  (.seq (.reg [.op (some 6) (.mov (.c (.bool false))) none])
    .ret)
  .skip))
  (.seq (.seq (.reg [.op (some 34) (.mov (.t 0)) none,
    .op (some 35) (.len (.t 34)) none,
    .op (some 36) (.bin .eql (.t 35) (.c (.int .i64 0))) none])
  (.cond (.t 36)
  (.seq (.reg [.op (some 37) (.mov (.t 7)) none,
      .op (some 6) (.mov (.t 37)) none])
    .ret)
  .skip))
  (.seq (.reg [.op (some 38) (.mov (.t 1)) none,
    .op (some 39) (.conv .i64 (.t 38)) none,
    .op (some 40) (.mov (.t 0)) none,
    .op (some 41) (.len (.t 40)) none,
    .op (some 42) (.bin .rem (.t 39) (.t 41)) none,
    .op (some 9) (.mov (.t 42)) none])
  (.seq (.reg [.op (some 43) (.mkR 5 0 1 []) none,
    .op (some 44) (.mov (.t 0)) none,
    .op (some 45) (.app 5 1 1 [(.int .u8 0)] (.t 43) (.t 44)) none,
    .op (some 10) (.mov (.t 45)) none])
  (.seq (.reg [.op (some 46) (.mov (.t 10)) none,
    .op (some 47) (.mov (.t 9)) none,
    .op (some 48) (.mov (.t 2)) none,
    .op (some 49) (.idxA 1 (.t 46) (.t 47)) none,
    .op none (.store 1 (.t 49) (.t 48)) none])
  (.seq (.seq (.seq (.reg [.frz 43])
  (.regD [.op (some 50) (.mov (.t 10)) none,
    .op (some 52) (.mov (.t 8)) none,
    .op (some 54) (.mov (.t 2)) none,
    .op (some 55) (.mov (.t 0)) none,
    .op (some 56) (.mov (.t 9)) none,
    .op (some 57) (.idxA 1 (.t 55) (.t 56)) none,
    .op (some 58) (.loadD false 1 (.t 57)) none,
    .op (some 59) (.bin .eql (.t 54) (.t 58)) none,
    .op (some 51) (.callD 15 [(.t 50)]) none,
    .op (some 53) (.bin .eql (.t 51) (.t 52)) none,
    .op (some 60) (.eqB true (.t 53) (.t 59)) none]))
  (.cond (.t 60)
  (.seq (.reg [.op (some 6) (.mov (.c (.bool false))) none])
    .ret)
  .skip))
  (.seq (.seq (.reg [.op (some 61) (.mov (.t 9)) none,
    .op (some 62) (.bin .eql (.t 61) (.c (.int .i64 0))) none])
  (.cond (.t 62)
  (.seq (.reg [.op (some 63) (.mov (.t 7)) none,
      .op (some 6) (.mov (.t 63)) none])
    .ret)
  .skip))
  (.seq (.reg [.op (some 64) (.mkR 5 0 1 []) none,
    .op (some 65) (.mov (.t 0)) none,
    .op (some 66) (.app 5 1 1 [(.int .u8 0)] (.t 64) (.t 65)) none,
    .op (some 11) (.mov (.t 66)) none])
  (.seq (.reg [.op (some 67) (.mov (.t 11)) none,
    .op (some 68) (.mov (.t 9)) none,
    .op (some 69) (.mov (.t 0)) none,
    .op (some 70) (.mov (.t 9)) none,
    .op (some 71) (.bin .sub (.t 70) (.c (.int .i64 1))) none,
    .op (some 72) (.idxA 1 (.t 69) (.t 71)) none,
    .op (some 73) (.load false 1 (.t 72)) none,
    .op (some 74) (.idxA 1 (.t 67) (.t 68)) none,
    .op none (.store 1 (.t 74) (.t 73)) none])
  (.seq (.reg [.op (some 75) (.mov (.t 11)) none,
    .op (some 76) (.mov (.t 9)) none,
    .op (some 77) (.bin .sub (.t 76) (.c (.int .i64 1))) none,
    .op (some 78) (.mov (.t 0)) none,
    .op (some 79) (.mov (.t 9)) none,
    .op (some 80) (.idxA 1 (.t 78) (.t 79)) none,
    .op (some 81) (.load false 1 (.t 80)) none,
    .op (some 82) (.idxA 1 (.t 75) (.t 77)) none,
    .op none (.store 1 (.t 82) (.t 81)) none])
  (.seq (.seq (.reg [.frz 64])
  (.regD [.op (some 83) (.mov (.t 7)) none,
    .op (some 84) (.mov (.t 83)) none,
    .op (some 85) (.mov (.t 11)) (some (84, true)),
    .op (some 87) (.mov (.t 8)) (some (84, true)),
    .op (some 89) (.mov (.t 0)) (some (84, true)),
    .op (some 90) (.mov (.t 9)) (some (84, true)),
    .op (some 91) (.idxA 1 (.t 89) (.t 90)) (some (84, true)),
    .op (some 92) (.loadD false 1 (.t 91)) (some (84, true)),
    .op (some 93) (.mov (.t 0)) (some (84, true)),
    .op (some 94) (.mov (.t 9)) (some (84, true)),
    .op (some 95) (.bin .sub (.t 94) (.c (.int .i64 1))) (some (84, true)),
    .op (some 96) (.idxA 1 (.t 93) (.t 95)) (some (84, true)),
    .op (some 97) (.loadD false 1 (.t 96)) (some (84, true)),
    .op (some 98) (.bin .eql (.t 92) (.t 97)) (some (84, true)),
    .op (some 86) (.callD 15 [(.t 85)]) (some (84, true)),
    .op (some 88) (.bin .eql (.t 86) (.t 87)) (some (84, true)),
    .op (some 99) (.eqB false (.t 88) (.t 98)) (some (84, true)),
    .op (some 100) (.pick (.t 84) (.t 99) (.c (.bool false))) none,
    .op (some 6) (.mov (.t 100)) none]))
  .ret)))))))))))))))
def A4 : Ann := { n := 101, own := [27, 43, 64], frz := [(12, 0, [43]), (19, 0, [64])], ord := [(12, [0, 2, 4, 5, 6, 7, 8, 9, 1, 3, 10], [[], [0], [], [0, 1, 2], [], [], [], [5, 6], [5, 6, 7], [4, 5, 6, 7, 8], [0, 1, 2, 3, 4, 5, 6, 7, 8, 9]]), (19, [0, 1, 2, 4, 6, 7, 8, 9, 10, 11, 12, 13, 14, 15, 3, 5, 16, 17, 18], [[], [0], [0, 1], [0, 1, 2], [0, 1], [0, 1, 2, 3, 4], [0, 1], [0, 1], [0, 1, 6, 7], [0, 1, 6, 7, 8], [0, 1], [0, 1], [0, 1, 11], [0, 1, 10, 11, 12], [0, 1, 10, 11, 12, 13], [0, 1, 6, 7, 8, 9, 10, 11, 12, 13, 14], [0, 1, 2, 3, 4, 5, 6, 7, 8, 9, 10, 11, 12, 13, 14, 15], [0, 1, 2, 3, 4, 5, 6, 7, 8, 9, 10, 11, 12, 13, 14, 15, 16], [0, 1, 2, 3, 4, 5, 6, 7, 8, 9, 10, 11, 12, 13, 14, 15, 16, 17]])] }
theorem facts4 : factsOf Try.prog A4 Try.f4 = some (c4, 101, [(6, none)], false) := by kernel_rfl

/- 5 leasehold/leaseholdlaw20.DigestTypes -/
def c5 : SCode := (.seq (.reg [.op (some 2) (.box 26 (.t 0)) none,
    .op (some 3) (.box 26 (.t 1)) none,
    .op (some 4) (.mov (.c (.bool false))) none])
  (.seq (.reg [.op (some 8) (.call 9 []) none,
    .op (some 5) (.mov (.t 8)) none])
  (.seq (.seq (.reg [.op (some 9) (.load true 3 (.t 2)) none,
    .op (some 10) (.load true 3 (.t 3)) none,
    .op (some 11) (.mkF 26 2 3 [(.t 9), (.t 10)]) none,
    .op (some 12) (.call 10 [(.t 11)]) none,
    .op (some 13) (.un .not (.t 12)) none])
  (.cond (.t 13)
  (.seq (.reg [.op (some 14) (.mov (.t 5)) none,
      .op (some 4) (.mov (.t 14)) none])
    .ret)
  .skip))
  (.seq (.reg [.op (some 15) (.load true 3 (.t 2)) none,
    .op (some 16) (.call 20 [(.t 15)]) none,
    .op (some 6) (.mov (.t 16)) none])
  (.seq (.reg [.op (some 17) (.load true 3 (.t 3)) none,
    .op (some 18) (.call 20 [(.t 17)]) none,
    .op (some 7) (.mov (.t 18)) none])
  (.seq (.regD [.op (some 19) (.mov (.t 5)) none,
    .op (some 20) (.mov (.t 19)) none,
    .op (some 21) (.mov (.t 6)) (some (20, true)),
    .op (some 22) (.mov (.t 7)) (some (20, true)),
    .op (some 24) (.loadD true 3 (.t 2)) (some (20, true)),
    .op (some 25) (.loadD true 3 (.t 3)) (some (20, true)),
    .op (some 23) (.callD 24 [(.t 21), (.t 22)]) (some (20, true)),
    .op (some 26) (.callD 25 [(.t 24), (.t 25)]) (some (20, true)),
    .op (some 27) (.eqB false (.t 23) (.t 26)) (some (20, true)),
    .op (some 28) (.pick (.t 20) (.t 27) (.c (.bool false))) none,
    .op (some 29) (.mov (.t 28)) none,
    .op (some 30) (.mov (.t 7)) (some (29, true)),
    .op (some 31) (.mov (.t 6)) (some (29, true)),
    .op (some 33) (.loadD true 3 (.t 2)) (some (29, true)),
    .op (some 34) (.loadD true 3 (.t 3)) (some (29, true)),
    .op (some 32) (.callD 24 [(.t 30), (.t 31)]) (some (29, true)),
    .op (some 35) (.callD 25 [(.t 33), (.t 34)]) (some (29, true)),
    .op (some 36) (.eqB false (.t 32) (.t 35)) (some (29, true)),
    .op (some 37) (.pick (.t 29) (.t 36) (.c (.bool false))) none,
    .op (some 38) (.mov (.t 37)) none,
    .op (some 39) (.mov (.t 6)) (some (38, true)),
    .op (some 40) (.len (.t 39)) (some (38, true)),
    .op (some 41) (.bin .gtr (.t 40) (.c (.int .i64 0))) (some (38, true)),
    .op (some 42) (.pick (.t 38) (.t 41) (.c (.bool false))) none,
    .op (some 4) (.mov (.t 42)) none])
  .ret))))))
def A5 : Ann := { n := 43, own := [], frz := [], ord := [(6, [0, 1, 2, 3, 5, 6, 4, 7, 8, 9, 10, 11, 12, 14, 15, 13, 16, 17, 18, 19, 20, 21, 22, 23, 24], [[], [0], [0, 1], [0, 1], [0, 1, 2, 3], [0, 1], [0, 1], [0, 1, 2, 3, 4, 5, 6], [0, 1, 2, 3, 4, 5, 6, 7], [0, 1, 2, 3, 4, 5, 6, 7, 8], [0, 1, 2, 3, 4, 5, 6, 7, 8, 9], [0, 1, 2, 3, 4, 5, 6, 7, 8, 9, 10], [0, 1, 2, 3, 4, 5, 6, 7, 8, 9, 10], [0, 1, 2, 3, 4, 5, 6, 7, 8, 9, 10, 11, 12], [0, 1, 2, 3, 4, 5, 6, 7, 8, 9, 10], [0, 1, 2, 3, 4, 5, 6, 7, 8, 9, 10], [0, 1, 2, 3, 4, 5, 6, 7, 8, 9, 10, 11, 12, 13, 14, 15], [0, 1, 2, 3, 4, 5, 6, 7, 8, 9, 10, 11, 12, 13, 14, 15, 16], [0, 1, 2, 3, 4, 5, 6, 7, 8, 9, 10, 11, 12, 13, 14, 15, 16, 17], [0, 1, 2, 3, 4, 5, 6, 7, 8, 9, 10, 11, 12, 13, 14, 15, 16, 17, 18], [0, 1, 2, 3, 4, 5, 6, 7, 8, 9, 10, 11, 12, 13, 14, 15, 16, 17, 18, 19], [0, 1, 2, 3, 4, 5, 6, 7, 8, 9, 10, 11, 12, 13, 14, 15, 16, 17, 18, 19, 20], [0, 1, 2, 3, 4, 5, 6, 7, 8, 9, 10, 11, 12, 13, 14, 15, 16, 17, 18, 19, 20, 21], [0, 1, 2, 3, 4, 5, 6, 7, 8, 9, 10, 11, 12, 13, 14, 15, 16, 17, 18, 19, 20, 21, 22], [0, 1, 2, 3, 4, 5, 6, 7, 8, 9, 10, 11, 12, 13, 14, 15, 16, 17, 18, 19, 20, 21, 22, 23]])] }
theorem facts5 : factsOf Try.prog A5 Try.f5 = some (c5, 43, [(4, none)], false) := by kernel_rfl

/- 6 leasehold/leaseholdlaw20.DigestFunctions -/
def c6 : SCode := (.seq (.reg [.op (some 4) (.box 30 (.t 0)) none,
    .op (some 8) (.mov (.c (.bool false))) none])
  (.seq (.reg [.op (some 17) (.call 9 []) none,
    .op (some 9) (.mov (.t 17)) none])
  (.seq (.seq (.reg [.op (some 18) (.load true 11 (.t 4)) none,
    .op (some 19) (.call 11 [(.t 18)]) none,
    .op (some 20) (.un .not (.t 19)) none,
    .op (some 21) (.mov (.t 20)) none,
    .op (some 22) (.mov (.t 2)) (some (21, false)),
    .op (some 23) (.call 10 [(.t 22)]) (some (21, false)),
    .op (some 24) (.un .not (.t 23)) (some (21, false)),
    .op (some 25) (.pick (.t 21) (.c (.bool true)) (.t 24)) none,
    .op (some 26) (.mov (.t 25)) none,
    .op (some 27) (.mov (.t 3)) (some (26, false)),
    .op (some 28) (.build [(.string ⟨#[]⟩), (.int .i64 0), (.int .i64 0), (.slice none 0 0), (.int .i64 0), (.int .i64 0), (.int .i64 0), (.slice none 0 0), (.slice none 0 0), (.slice none 0 0), (.slice none 0 0)] [(9, 1, (.t 27))]) (some (26, false)),
    .op (some 29) (.call 11 [(.t 28)]) (some (26, false)),
    .op (some 30) (.un .not (.t 29)) (some (26, false)),
    .op (some 31) (.pick (.t 26) (.c (.bool true)) (.t 30)) none,
    .op (some 32) (.mov (.t 31)) none,
    .op (some 33) (.fieldA 4 (.t 4)) (some (32, false)),
    .op (some 34) (.load false 1 (.t 33)) (some (32, false)),
    .op (some 35) (.fieldA 8 (.t 4)) (some (32, false)),
    .op (some 36) (.load false 1 (.t 35)) (some (32, false)),
    .op (some 37) (.len (.t 36)) (some (32, false)),
    .op (some 38) (.bin .gtr (.t 34) (.t 37)) (some (32, false)),
    .op (some 39) (.pick (.t 32) (.c (.bool true)) (.t 38)) none])
  (.cond (.t 39)
  (.seq (.reg [.op (some 40) (.mov (.t 9)) none,
      .op (some 8) (.mov (.t 40)) none])
    .ret)
  .skip))
  (.seq (.reg [.op (some 42) (.load true 11 (.t 4)) none,
    .op (some 43) (.call 13 [(.t 42)]) none,
    .op (some 41) (.mov (.t 43)) none,
    .op (some 44) (.extr (.t 41) 0) none,
    .op (some 45) (.extr (.t 41) 1) none,
    .op (some 10) (.mov (.t 44)) none,
    .op (some 11) (.mov (.t 45)) none])
  (.seq (.reg [.op (some 46) (.load true 11 (.t 4)) none,
    .op (some 12) (.alloc 30 [(.string ⟨#[]⟩), (.int .i64 0), (.int .i64 0), (.slice none 0 0), (.int .i64 0), (.int .i64 0), (.int .i64 0), (.slice none 0 0), (.slice none 0 0), (.slice none 0 0), (.slice none 0 0)]) none,
    .op none (.store 11 (.t 12) (.t 46)) none])
  (.seq (.reg [.op (some 47) (.mov (.t 1)) none,
    .op (some 48) (.fieldA 1 (.t 12)) none,
    .op none (.store 1 (.t 48) (.t 47)) none])
  (.seq (.reg [.op (some 50) (.load true 11 (.t 12)) none,
    .op (some 51) (.call 13 [(.t 50)]) none,
    .op (some 49) (.mov (.t 51)) none,
    .op (some 52) (.extr (.t 49) 0) none,
    .op (some 53) (.extr (.t 49) 1) none,
    .op (some 13) (.mov (.t 52)) none,
    .op (some 14) (.mov (.t 53)) none])
  (.seq (.reg [.op (some 54) (.mkF 26 0 3 []) none,
    .op (some 55) (.fieldA 8 (.t 4)) none,
    .op (some 56) (.load false 1 (.t 55)) none,
    .op (some 57) (.app 26 3 40 [(.int .i64 0), (.int .i64 0), (.slice none 0 0)] (.t 54) (.t 56)) none,
    .op (some 58) (.mov (.t 2)) none,
    .op (some 59) (.app 26 3 40 [(.int .i64 0), (.int .i64 0), (.slice none 0 0)] (.t 57) (.t 58)) none,
    .op (some 60) (.fieldA 8 (.t 12)) none,
    .op none (.store 1 (.t 60) (.t 59)) none])
  (.seq (.reg [.op (some 61) (.mov (.t 3)) none,
    .op (some 62) (.fieldA 9 (.t 12)) none,
    .op none (.store 1 (.t 62) (.t 61)) none])
  (.seq (.reg [.op (some 64) (.load true 11 (.t 12)) none,
    .op (some 65) (.call 13 [(.t 64)]) none,
    .op (some 63) (.mov (.t 65)) none,
    .op (some 66) (.extr (.t 63) 0) none,
    .op (some 67) (.extr (.t 63) 1) none,
    .op (some 15) (.mov (.t 66)) none,
    .op (some 16) (.mov (.t 67)) none])
  (.seq (.reg [.op (some 68) (.mov (.t 9)) none,
    .op (some 69) (.mov (.t 68)) none,
    .op (some 70) (.mov (.t 10)) (some (69, true)),
    .op (some 71) (.mov (.t 13)) (some (69, true)),
    .op (some 72) (.bin .eql (.t 70) (.t 71)) (some (69, true)),
    .op (some 73) (.pick (.t 69) (.t 72) (.c (.bool false))) none,
    .op (some 74) (.mov (.t 73)) none,
    .op (some 75) (.mov (.t 11)) (some (74, true)),
    .op (some 76) (.mov (.t 14)) (some (74, true)),
    .op (some 77) (.bin .eql (.t 75) (.t 76)) (some (74, true)),
    .op (some 78) (.pick (.t 74) (.t 77) (.c (.bool false))) none,
    .op (some 79) (.mov (.t 78)) none,
    .op (some 80) (.mov (.t 10)) (some (79, true)),
    .op (some 81) (.mov (.t 15)) (some (79, true)),
    .op (some 82) (.bin .eql (.t 80) (.t 81)) (some (79, true)),
    .op (some 83) (.pick (.t 79) (.t 82) (.c (.bool false))) none,
    .op (some 8) (.mov (.t 83)) none])
  .ret)))))))))))
def A6 : Ann := { n := 84, own := [], frz := [], ord := [] }
theorem facts6 : factsOf Try.prog A6 Try.f6 = some (c6, 84, [(8, none)], false) := by kernel_rfl

/- 7 leasehold/leaseholdlaw20.DigestModules -/
def c7 : SCode := (.seq (.reg [.op (some 3) (.box 37 (.t 0)) none,
    .op (some 5) (.box 58 (.t 2)) none,
    .op (some 6) (.mov (.c (.bool false))) none])
  (.seq (.reg [.op (some 16) (.call 9 []) none,
    .op (some 7) (.mov (.t 16)) none])
  (.seq (.reg [.op (some 17) (.fieldA 2 (.t 3)) none,
    .op (some 18) (.load false 1 (.t 17)) none,
    .op (some 19) (.len (.t 18)) none,
    .op (some 8) (.mov (.t 19)) none])
  (.seq (.seq (.reg [.op (some 20) (.load true 8 (.t 3)) none,
    .op (some 21) (.call 12 [(.t 20)]) none,
    .op (some 22) (.un .not (.t 21)) none,
    .op (some 23) (.mov (.t 22)) none,
    .op (some 24) (.fieldA 0 (.t 3)) (some (23, false)),
    .op (some 25) (.load false 1 (.t 24)) (some (23, false)),
    .op (some 26) (.len (.t 25)) (some (23, false)),
    .op (some 27) (.bin .gtr (.t 26) (.c (.int .i64 10))) (some (23, false)),
    .op (some 28) (.pick (.t 23) (.c (.bool true)) (.t 27)) none,
    .op (some 29) (.mov (.t 28)) none,
    .op (some 30) (.mov (.t 1)) (some (29, false)),
    .op (some 31) (.bin .lss (.t 30) (.c (.int .i64 0))) (some (29, false)),
    .op (some 32) (.pick (.t 29) (.c (.bool true)) (.t 31)) none,
    .op (some 33) (.mov (.t 32)) none,
    .op (some 34) (.mov (.t 1)) (some (33, false)),
    .op (some 35) (.fieldA 0 (.t 3)) (some (33, false)),
    .op (some 36) (.load false 1 (.t 35)) (some (33, false)),
    .op (some 37) (.len (.t 36)) (some (33, false)),
    .op (some 38) (.bin .geq (.t 34) (.t 37)) (some (33, false)),
    .op (some 39) (.pick (.t 33) (.c (.bool true)) (.t 38)) none,
    .op (some 40) (.mov (.t 39)) none,
    .op (some 41) (.fieldA 1 (.t 5)) (some (40, false)),
    .op (some 42) (.load false 1 (.t 41)) (some (40, false)),
    .op (some 43) (.mov (.t 1)) (some (40, false)),
    .op (some 44) (.bin .eql (.t 42) (.t 43)) (some (40, false)),
    .op (some 45) (.pick (.t 40) (.c (.bool true)) (.t 44)) none,
    .op (some 46) (.mov (.t 45)) none,
    .op (some 47) (.fieldA 5 (.t 3)) (some (46, false)),
    .op (some 48) (.load false 1 (.t 47)) (some (46, false)),
    .op (some 49) (.len (.t 48)) (some (46, false)),
    .op (some 50) (.bin .gtr (.t 49) (.c (.int .i64 0))) (some (46, false)),
    .op (some 51) (.pick (.t 46) (.c (.bool true)) (.t 50)) none])
  (.cond (.t 51)
  (.seq (.reg [.op (some 52) (.mov (.t 7)) none,
      .op (some 6) (.mov (.t 52)) none])
    .ret)
  .skip))
  (.seq (.reg [.op (some 53) (.load true 8 (.t 3)) none,
    .op (some 9) (.alloc 37 [(.slice none 0 0), (.slice none 0 0), (.slice none 0 0), (.slice none 0 0), (.slice none 0 0), (.slice none 0 0), (.slice none 0 0), (.int .i64 0)]) none,
    .op none (.store 8 (.t 9) (.t 53)) none])
  (.seq (.reg [.op (some 54) (.fieldA 6 (.t 9)) none,
    .op none (.store 1 (.t 54) (.c (.slice none 0 0))) none])
  (.seq (.reg [.op (some 55) (.load true 5 (.t 5)) none,
    .op (some 56) (.mkF 58 1 5 [(.t 55)]) none,
    .op (some 57) (.fieldA 2 (.t 9)) none,
    .op none (.store 1 (.t 57) (.t 56)) none])
  (.seq (.seq (.reg [.op (some 10) (.mov (.c (.int .i64 0))) none])
  (.block 0
  (.loop [58, 59, 60, 63, 64, 65, 66, 67, 11, 68, 12, 69, 70, 71, 72, 73, 74, 75, 76, 77, 80, 81, 82, 83, 84, 85, 86, 87, 88, 13, 89, 90, 91, 92, 93, 94, 6, 95, 96, 97, 98, 99, 100, 101, 102, 103, 104, 105, 78, 79, 12, 106, 107, 108, 109, 110, 111, 61, 62, 10]
    (.seq (.seq (.reg [.op (some 58) (.mov (.t 10)) none,
        .op (some 59) (.mov (.t 8)) none,
        .op (some 60) (.bin .lss (.t 58) (.t 59)) none])
      (.cond (.t 60)
      .skip
      (.exit 0)))
      (.seq (.block 1
      (.seq (.reg [.op (some 63) (.fieldA 2 (.t 3)) none,
          .op (some 64) (.load false 1 (.t 63)) none,
          .op (some 65) (.mov (.t 10)) none,
          .op (some 66) (.idxA 5 (.t 64) (.t 65)) none,
          .op (some 67) (.load true 5 (.t 66)) none,
          .op (some 11) (.alloc 58 [(.string ⟨#[]⟩), (.int .i64 0), (.int .i64 0), (.slice none 0 0), (.int .i64 0)]) none,
          .op none (.store 5 (.t 11) (.t 67)) none])
        (.seq (.reg [.op (some 68) (.fieldA 3 (.t 11)) none,
          .op none (.store 1 (.t 68) (.c (.slice none 0 0))) none])
        (.seq (.seq (.reg [.op (some 12) (.mov (.c (.int .i64 0))) none])
        (.block 2
        (.loop [69, 70, 71, 72, 73, 74, 75, 76, 77, 80, 81, 82, 83, 84, 85, 86, 87, 88, 13, 89, 90, 91, 92, 93, 94, 6, 95, 96, 97, 98, 99, 100, 101, 102, 103, 104, 105, 78, 79, 12]
          (.seq (.seq (.reg [.op (some 69) (.mov (.t 12)) none,
              .op (some 70) (.fieldA 2 (.t 3)) none,
              .op (some 71) (.load false 1 (.t 70)) none,
              .op (some 72) (.mov (.t 10)) none,
              .op (some 73) (.idxA 5 (.t 71) (.t 72)) none,
              .op (some 74) (.fieldA 3 (.t 73)) none,
              .op (some 75) (.load false 1 (.t 74)) none,
              .op (some 76) (.len (.t 75)) none,
              .op (some 77) (.bin .lss (.t 69) (.t 76)) none])
            (.cond (.t 77)
            .skip
            (.exit 2)))
            (.seq (.block 3
            (.seq (.reg [.op (some 80) (.fieldA 2 (.t 3)) none,
                .op (some 81) (.load false 1 (.t 80)) none,
                .op (some 82) (.mov (.t 10)) none,
                .op (some 83) (.idxA 5 (.t 81) (.t 82)) none,
                .op (some 84) (.fieldA 3 (.t 83)) none,
                .op (some 85) (.load false 1 (.t 84)) none,
                .op (some 86) (.mov (.t 12)) none,
                .op (some 87) (.idxA 2 (.t 85) (.t 86)) none,
                .op (some 88) (.load true 2 (.t 87)) none,
                .op (some 13) (.alloc 60 [(.string ⟨#[]⟩), (.slice none 0 0)]) none,
                .op none (.store 2 (.t 13) (.t 88)) none])
              (.seq (.seq (.reg [.op (some 89) (.fieldA 1 (.t 13)) none,
                .op (some 90) (.load false 1 (.t 89)) none,
                .op (some 91) (.mov (.t 8)) none,
                .op (some 92) (.call 26 [(.t 90), (.t 91)]) none,
                .op (some 93) (.un .not (.t 92)) none])
              (.cond (.t 93)
              (.seq (.reg [.op (some 94) (.mov (.t 7)) none,
                  .op (some 6) (.mov (.t 94)) none])
                .ret)
              .skip))
              (.seq (.reg [.op (some 95) (.fieldA 1 (.t 13)) none,
                .op (some 96) (.load false 1 (.t 95)) none,
                .op (some 97) (.mov (.t 8)) none,
                .op (some 98) (.call 27 [(.t 96), (.t 97)]) none,
                .op (some 99) (.fieldA 1 (.t 13)) none,
                .op none (.store 1 (.t 99) (.t 98)) none])
              (.reg [.op (some 100) (.fieldA 3 (.t 11)) none,
                .op (some 101) (.load false 1 (.t 100)) none,
                .op (some 102) (.load true 2 (.t 13)) none,
                .op (some 103) (.mkF 60 1 2 [(.t 102)]) none,
                .op (some 104) (.app 60 2 40 [(.string ⟨#[]⟩), (.slice none 0 0)] (.t 101) (.t 103)) none,
                .op (some 105) (.fieldA 3 (.t 11)) none,
                .op none (.store 1 (.t 105) (.t 104)) none])))))
            (.reg [.op (some 78) (.mov (.t 12)) none,
              .op (some 79) (.bin .add (.t 78) (.c (.int .i64 1))) none,
              .op (some 12) (.mov (.t 79)) none]))))))
        (.reg [.op (some 106) (.fieldA 2 (.t 9)) none,
          .op (some 107) (.load false 1 (.t 106)) none,
          .op (some 108) (.load true 5 (.t 11)) none,
          .op (some 109) (.mkF 58 1 5 [(.t 108)]) none,
          .op (some 110) (.app 58 5 64 [(.string ⟨#[]⟩), (.int .i64 0), (.int .i64 0), (.slice none 0 0), (.int .i64 0)] (.t 107) (.t 109)) none,
          .op (some 111) (.fieldA 2 (.t 9)) none,
          .op none (.store 1 (.t 111) (.t 110)) none])))))
      (.reg [.op (some 61) (.mov (.t 10)) none,
        .op (some 62) (.bin .add (.t 61) (.c (.int .i64 1))) none,
        .op (some 10) (.mov (.t 62)) none]))))))
  (.seq (.seq (.reg [.op (some 14) (.mov (.c (.int .i64 0))) none])
  (.block 4
  (.loop [112, 113, 114, 115, 116, 119, 120, 121, 122, 123, 15, 124, 125, 126, 127, 128, 129, 130, 131, 132, 133, 134, 135, 136, 137, 6, 138, 139, 140, 141, 142, 143, 144, 145, 146, 147, 148, 149, 150, 151, 152, 153, 154, 155, 156, 157, 158, 117, 118, 14]
    (.seq (.seq (.reg [.op (some 112) (.mov (.t 14)) none,
        .op (some 113) (.fieldA 6 (.t 3)) none,
        .op (some 114) (.load false 1 (.t 113)) none,
        .op (some 115) (.len (.t 114)) none,
        .op (some 116) (.bin .lss (.t 112) (.t 115)) none])
      (.cond (.t 116)
      .skip
      (.exit 4)))
      (.seq (.block 5
      (.seq (.reg [.op (some 119) (.fieldA 6 (.t 3)) none,
          .op (some 120) (.load false 1 (.t 119)) none,
          .op (some 121) (.mov (.t 14)) none,
          .op (some 122) (.idxA 11 (.t 120) (.t 121)) none,
          .op (some 123) (.load true 11 (.t 122)) none,
          .op (some 15) (.alloc 30 [(.string ⟨#[]⟩), (.int .i64 0), (.int .i64 0), (.slice none 0 0), (.int .i64 0), (.int .i64 0), (.int .i64 0), (.slice none 0 0), (.slice none 0 0), (.slice none 0 0), (.slice none 0 0)]) none,
          .op none (.store 11 (.t 15) (.t 123)) none])
        (.seq (.seq (.reg [.op (some 124) (.fieldA 8 (.t 15)) none,
          .op (some 125) (.load false 1 (.t 124)) none,
          .op (some 126) (.mov (.t 8)) none,
          .op (some 127) (.call 26 [(.t 125), (.t 126)]) none,
          .op (some 128) (.un .not (.t 127)) none,
          .op (some 129) (.mov (.t 128)) none,
          .op (some 130) (.fieldA 5 (.t 15)) (some (129, false)),
          .op (some 131) (.load true 3 (.t 130)) (some (129, false)),
          .op (some 132) (.mkF 26 1 3 [(.t 131)]) (some (129, false)),
          .op (some 133) (.mov (.t 8)) (some (129, false)),
          .op (some 134) (.call 26 [(.t 132), (.t 133)]) (some (129, false)),
          .op (some 135) (.un .not (.t 134)) (some (129, false)),
          .op (some 136) (.pick (.t 129) (.c (.bool true)) (.t 135)) none])
        (.cond (.t 136)
        (.seq (.reg [.op (some 137) (.mov (.t 7)) none,
            .op (some 6) (.mov (.t 137)) none])
          .ret)
        .skip))
        (.seq (.reg [.op (some 138) (.fieldA 1 (.t 15)) none,
          .op (some 139) (.load false 1 (.t 138)) none,
          .op (some 140) (.mov (.t 1)) none,
          .op (some 141) (.bin .eql (.t 139) (.t 140)) none])
        (.cond (.t 141)
        (.seq (.reg [.op (some 142) (.fieldA 9 (.t 15)) none,
            .op none (.store 1 (.t 142) (.c (.slice none 0 0))) none])
          (.seq (.reg [.op (some 143) (.fieldA 8 (.t 15)) none,
            .op (some 144) (.load false 1 (.t 143)) none,
            .op (some 145) (.mov (.t 8)) none,
            .op (some 146) (.call 27 [(.t 144), (.t 145)]) none,
            .op (some 147) (.fieldA 8 (.t 15)) none,
            .op none (.store 1 (.t 147) (.t 146)) none])
          (.seq (.reg [.op (some 148) (.fieldA 5 (.t 15)) none,
            .op (some 149) (.load true 3 (.t 148)) none,
            .op (some 150) (.mov (.t 8)) none,
            .op (some 151) (.call 28 [(.t 149), (.t 150)]) none,
            .op (some 152) (.fieldA 5 (.t 15)) none,
            .op none (.store 3 (.t 152) (.t 151)) none])
          (.reg [.op (some 153) (.fieldA 6 (.t 9)) none,
            .op (some 154) (.load false 1 (.t 153)) none,
            .op (some 155) (.load true 11 (.t 15)) none,
            .op (some 156) (.mkF 30 1 11 [(.t 155)]) none,
            .op (some 157) (.app 30 11 176 [(.string ⟨#[]⟩), (.int .i64 0), (.int .i64 0), (.slice none 0 0), (.int .i64 0), (.int .i64 0), (.int .i64 0), (.slice none 0 0), (.slice none 0 0), (.slice none 0 0), (.slice none 0 0)] (.t 154) (.t 156)) none,
            .op (some 158) (.fieldA 6 (.t 9)) none,
            .op none (.store 1 (.t 158) (.t 157)) none]))))
        .skip)))))
      (.reg [.op (some 117) (.mov (.t 14)) none,
        .op (some 118) (.bin .add (.t 117) (.c (.int .i64 1))) none,
        .op (some 14) (.mov (.t 118)) none]))))))
  (.seq (.regD [.op (some 159) (.mov (.t 7)) none,
    .op (some 160) (.mov (.t 159)) none,
    .op (some 161) (.loadD true 8 (.t 3)) (some (160, true)),
    .op (some 162) (.mov (.t 1)) (some (160, true)),
    .op (some 164) (.loadD true 8 (.t 9)) (some (160, true)),
    .op (some 165) (.mov (.t 1)) (some (160, true)),
    .op (some 163) (.callD 22 [(.t 161), (.t 162)]) (some (160, true)),
    .op (some 166) (.callD 22 [(.t 164), (.t 165)]) (some (160, true)),
    .op (some 167) (.bin .eql (.t 163) (.t 166)) (some (160, true)),
    .op (some 168) (.pick (.t 160) (.t 167) (.c (.bool false))) none,
    .op (some 6) (.mov (.t 168)) none])
  .ret))))))))))
def A7 : Ann := { n := 169, own := [], frz := [], ord := [(33, [0, 1, 2, 3, 5, 6, 4, 7, 8, 9, 10], [[], [0], [0, 1], [0, 1], [0, 1, 2, 3], [0, 1], [0, 1], [0, 1, 2, 3, 4, 5, 6], [0, 1, 2, 3, 4, 5, 6, 7], [0, 1, 2, 3, 4, 5, 6, 7, 8], [0, 1, 2, 3, 4, 5, 6, 7, 8, 9]])] }
theorem facts7 : factsOf Try.prog A7 Try.f7 = some (c7, 169, [(6, none)], false) := by kernel_rfl

/- 8 leasehold/leaseholdlaw20.DigestNumbers -/
def c8 : SCode := (.seq (.reg [.op (some 5) (.box 30 (.t 0)) none,
    .op (some 10) (.mov (.c (.bool false))) none])
  (.seq (.reg [.op (some 18) (.call 9 []) none,
    .op (some 11) (.mov (.t 18)) none])
  (.seq (.seq (.reg [.op (some 19) (.load true 11 (.t 5)) none,
    .op (some 20) (.call 11 [(.t 19)]) none,
    .op (some 21) (.un .not (.t 20)) none,
    .op (some 22) (.mov (.t 21)) none,
    .op (some 23) (.fieldA 9 (.t 5)) (some (22, false)),
    .op (some 24) (.load false 1 (.t 23)) (some (22, false)),
    .op (some 25) (.len (.t 24)) (some (22, false)),
    .op (some 26) (.bin .eql (.t 25) (.c (.int .i64 0))) (some (22, false)),
    .op (some 27) (.pick (.t 22) (.c (.bool true)) (.t 26)) none])
  (.cond (.t 27)
  (.seq (.reg [.op (some 28) (.mov (.t 11)) none,
      .op (some 10) (.mov (.t 28)) none])
    .ret)
  .skip))
  (.seq (.reg [.op (some 29) (.mov (.t 1)) none,
    .op (some 30) (.conv .i64 (.t 29)) none,
    .op (some 31) (.fieldA 9 (.t 5)) none,
    .op (some 32) (.load false 1 (.t 31)) none,
    .op (some 33) (.len (.t 32)) none,
    .op (some 34) (.bin .rem (.t 30) (.t 33)) none,
    .op (some 12) (.mov (.t 34)) none])
  (.seq (.seq (.reg [.op (some 35) (.fieldA 9 (.t 5)) none,
    .op (some 36) (.load false 1 (.t 35)) none,
    .op (some 37) (.mov (.t 12)) none,
    .op (some 38) (.idxA 4 (.t 36) (.t 37)) none,
    .op (some 39) (.fieldA 0 (.t 38)) none,
    .op (some 40) (.load false 1 (.t 39)) none,
    .op (some 41) (.len (.t 40)) none,
    .op (some 42) (.bin .eql (.t 41) (.c (.int .i64 0))) none])
  (.cond (.t 42)
  (.seq (.reg [.op (some 43) (.mov (.t 11)) none,
      .op (some 10) (.mov (.t 43)) none])
    .ret)
  .skip))
  (.seq (.reg [.op (some 44) (.mov (.t 2)) none,
    .op (some 45) (.conv .i64 (.t 44)) none,
    .op (some 46) (.fieldA 9 (.t 5)) none,
    .op (some 47) (.load false 1 (.t 46)) none,
    .op (some 48) (.mov (.t 12)) none,
    .op (some 49) (.idxA 4 (.t 47) (.t 48)) none,
    .op (some 50) (.fieldA 0 (.t 49)) none,
    .op (some 51) (.load false 1 (.t 50)) none,
    .op (some 52) (.len (.t 51)) none,
    .op (some 53) (.bin .rem (.t 45) (.t 52)) none,
    .op (some 13) (.mov (.t 53)) none])
  (.seq (.reg [.op (some 55) (.load true 11 (.t 5)) none,
    .op (some 56) (.mov (.t 12)) none,
    .op (some 57) (.mov (.t 13)) none,
    .op (some 58) (.mov (.t 3)) none,
    .op (some 59) (.conv .i64 (.t 58)) none,
    .op (some 60) (.bin .rem (.t 59) (.c (.int .i64 64))) none,
    .op (some 61) (.call 29 [(.t 55), (.t 56), (.t 57), (.t 60)]) none,
    .op (some 62) (.call 13 [(.t 61)]) none,
    .op (some 54) (.mov (.t 62)) none,
    .op (some 63) (.extr (.t 54) 0) none,
    .op (some 64) (.extr (.t 54) 1) none,
    .op (some 14) (.mov (.t 63)) none,
    .op (some 15) (.mov (.t 64)) none])
  (.seq (.reg [.op (some 66) (.load true 11 (.t 5)) none,
    .op (some 67) (.mov (.t 12)) none,
    .op (some 68) (.mov (.t 13)) none,
    .op (some 69) (.mov (.t 4)) none,
    .op (some 70) (.conv .i64 (.t 69)) none,
    .op (some 71) (.bin .rem (.t 70) (.c (.int .i64 64))) none,
    .op (some 72) (.call 29 [(.t 66), (.t 67), (.t 68), (.t 71)]) none,
    .op (some 73) (.call 13 [(.t 72)]) none,
    .op (some 65) (.mov (.t 73)) none,
    .op (some 74) (.extr (.t 65) 0) none,
    .op (some 75) (.extr (.t 65) 1) none,
    .op (some 16) (.mov (.t 74)) none,
    .op (some 17) (.mov (.t 75)) none])
  (.seq (.reg [.op (some 76) (.mov (.t 11)) none,
    .op (some 77) (.mov (.t 76)) none,
    .op (some 78) (.mov (.t 14)) (some (77, true)),
    .op (some 79) (.mov (.t 16)) (some (77, true)),
    .op (some 80) (.bin .eql (.t 78) (.t 79)) (some (77, true)),
    .op (some 81) (.pick (.t 77) (.t 80) (.c (.bool false))) none,
    .op (some 82) (.mov (.t 81)) none,
    .op (some 83) (.mov (.t 15)) (some (82, true)),
    .op (some 84) (.mov (.t 17)) (some (82, true)),
    .op (some 85) (.bin .eql (.t 83) (.t 84)) (some (82, true)),
    .op (some 86) (.mov (.t 3)) (some (82, true)),
    .op (some 87) (.bin .rem (.t 86) (.c (.int .u8 64))) (some (82, true)),
    .op (some 88) (.mov (.t 4)) (some (82, true)),
    .op (some 89) (.bin .rem (.t 88) (.c (.int .u8 64))) (some (82, true)),
    .op (some 90) (.bin .eql (.t 87) (.t 89)) (some (82, true)),
    .op (some 91) (.eqB false (.t 85) (.t 90)) (some (82, true)),
    .op (some 92) (.pick (.t 82) (.t 91) (.c (.bool false))) none,
    .op (some 10) (.mov (.t 92)) none])
  .ret)))))))))
def A8 : Ann := { n := 93, own := [], frz := [], ord := [] }
theorem facts8 : factsOf Try.prog A8 Try.f8 = some (c8, 93, [(10, none)], false) := by kernel_rfl

/- 9 leasehold/leaseholdlaw20.head -/
def c9 : SCode := (.seq (.reg [.op (some 0) (.mov (.c (.bool false))) none])
  (.seq (.reg [.op (some 7) (.call 30 []) none,
    .op (some 8) (.call 30 []) none,
    .op (some 9) (.mkF 26 1 3 [(.t 8)]) none,
    .op (some 10) (.build [(.string ⟨#[]⟩), (.int .i64 0), (.int .i64 0), (.slice none 0 0), (.int .i64 0), (.int .i64 0), (.int .i64 0), (.slice none 0 0), (.slice none 0 0), (.slice none 0 0), (.slice none 0 0)] [(0, 1, (.c (.string ⟨#[102]⟩))), (5, 3, (.t 7)), (4, 1, (.c (.int .i64 1))), (8, 1, (.t 9))]) none,
    .op (some 1) (.alloc 30 [(.string ⟨#[]⟩), (.int .i64 0), (.int .i64 0), (.slice none 0 0), (.int .i64 0), (.int .i64 0), (.int .i64 0), (.slice none 0 0), (.slice none 0 0), (.slice none 0 0), (.slice none 0 0)]) none,
    .op none (.store 11 (.t 1) (.t 10)) none])
  (.seq (.reg [.op (some 12) (.load true 11 (.t 1)) none,
    .op (some 13) (.call 13 [(.t 12)]) none,
    .op (some 11) (.mov (.t 13)) none,
    .op (some 14) (.extr (.t 11) 0) none,
    .op (some 15) (.extr (.t 11) 1) none,
    .op (some 2) (.mov (.t 14)) none,
    .op (some 3) (.mov (.t 15)) none])
  (.seq (.regD [.op (some 16) (.fieldA 8 (.t 1)) none,
    .op (some 17) (.loadD false 1 (.t 16)) none,
    .op (some 18) (.callD 30 []) none,
    .op (some 19) (.mkFD 26 1 3 [(.t 18)]) none,
    .op (some 20) (.appX 26 3 40 [(.int .i64 0), (.int .i64 0), (.slice none 0 0)] (.t 17) (.t 19)) none,
    .op (some 21) (.fieldA 8 (.t 1)) none,
    .op none (.storeD 1 (.t 21) (.t 20)) none])
  (.seq (.reg [.op (some 23) (.load true 11 (.t 1)) none,
    .op (some 24) (.call 13 [(.t 23)]) none,
    .op (some 22) (.mov (.t 24)) none,
    .op (some 25) (.extr (.t 22) 0) none,
    .op (some 26) (.extr (.t 22) 1) none,
    .op (some 4) (.mov (.t 25)) none,
    .op (some 5) (.mov (.t 26)) none])
  (.seq (.reg [.op (some 27) (.mkF 9 1 1 [(.c (.string ⟨#[97]⟩))]) none,
    .op (some 28) (.load true 11 (.t 1)) none,
    .op (some 29) (.mkF 30 1 11 [(.t 28)]) none,
    .op (some 30) (.build [(.slice none 0 0), (.slice none 0 0), (.slice none 0 0), (.slice none 0 0), (.slice none 0 0), (.slice none 0 0), (.slice none 0 0), (.int .i64 0)] [(0, 1, (.t 27)), (6, 1, (.t 29))]) none,
    .op (some 6) (.alloc 37 [(.slice none 0 0), (.slice none 0 0), (.slice none 0 0), (.slice none 0 0), (.slice none 0 0), (.slice none 0 0), (.slice none 0 0), (.int .i64 0)]) none,
    .op none (.store 8 (.t 6) (.t 30)) none])
  (.seq (.regD [.op (some 31) (.callD 15 [(.c (.slice none 0 0))]) none,
    .op (some 32) (.bin .eql (.t 31) (.c (.int .i64 7))) none,
    .op (some 33) (.mov (.t 32)) none,
    .op (some 34) (.mkFD 5 1 1 [(.c (.int .u8 0))]) (some (33, true)),
    .op (some 35) (.callD 15 [(.t 34)]) (some (33, true)),
    .op (some 36) (.bin .eql (.t 35) (.c (.int .i64 7000022))) (some (33, true)),
    .op (some 37) (.pick (.t 33) (.t 36) (.c (.bool false))) none,
    .op (some 38) (.mov (.t 37)) none,
    .op (some 39) (.mkFD 3 1 1 [(.c (.int .i64 0))]) (some (38, true)),
    .op (some 40) (.callD 17 [(.t 39)]) (some (38, true)),
    .op (some 41) (.bin .eql (.t 40) (.c (.int .i64 7000022))) (some (38, true)),
    .op (some 42) (.pick (.t 38) (.t 41) (.c (.bool false))) none,
    .op (some 43) (.mov (.t 42)) none,
    .op (some 44) (.mkFD 3 1 1 [(.c (.int .i64 (-1)))]) (some (43, true)),
    .op (some 45) (.callD 17 [(.t 44)]) (some (43, true)),
    .op (some 46) (.bin .eql (.t 45) (.c (.int .i64 7000021))) (some (43, true)),
    .op (some 47) (.pick (.t 43) (.t 46) (.c (.bool false))) none,
    .op (some 48) (.mov (.t 47)) none,
    .op (some 49) (.callD 30 []) (some (48, true)),
    .op (some 50) (.callD 20 [(.t 49)]) (some (48, true)),
    .op (some 51) (.mkFD 5 3 1 [(.c (.int .u8 2)), (.c (.int .u8 0)), (.c (.int .u8 0))]) (some (48, true)),
    .op (some 52) (.callD 19 [(.t 50), (.t 51)]) (some (48, true)),
    .op (some 53) (.pick (.t 48) (.t 52) (.c (.bool false))) none,
    .op (some 54) (.mov (.t 53)) none,
    .op (some 55) (.build [(.int .i64 0), (.int .i64 0), (.slice none 0 0)] [(0, 1, (.c (.int .i64 9))), (1, 1, (.c (.int .i64 (-1))))]) (some (54, true)),
    .op (some 56) (.callD 20 [(.t 55)]) (some (54, true)),
    .op (some 57) (.mkFD 5 3 1 [(.c (.int .u8 18)), (.c (.int .u8 1)), (.c (.int .u8 0))]) (some (54, true)),
    .op (some 58) (.callD 19 [(.t 56), (.t 57)]) (some (54, true)),
    .op (some 59) (.pick (.t 54) (.t 58) (.c (.bool false))) none,
    .op (some 60) (.mov (.t 59)) none,
    .op (some 61) (.mov (.t 2)) (some (60, true)),
    .op (some 62) (.mov (.t 4)) (some (60, true)),
    .op (some 63) (.bin .eql (.t 61) (.t 62)) (some (60, true)),
    .op (some 64) (.pick (.t 60) (.t 63) (.c (.bool false))) none,
    .op (some 65) (.mov (.t 64)) none,
    .op (some 66) (.mov (.t 3)) (some (65, true)),
    .op (some 67) (.mov (.t 5)) (some (65, true)),
    .op (some 68) (.bin .neq (.t 66) (.t 67)) (some (65, true)),
    .op (some 69) (.pick (.t 65) (.t 68) (.c (.bool false))) none,
    .op (some 70) (.mov (.t 69)) none,
    .op (some 71) (.loadD true 8 (.t 6)) (some (70, true)),
    .op (some 73) (.loadD true 8 (.t 6)) (some (70, true)),
    .op (some 72) (.callD 22 [(.t 71), (.c (.int .i64 0))]) (some (70, true)),
    .op (some 74) (.callD 22 [(.t 73), (.c (.int .i64 1))]) (some (70, true)),
    .op (some 75) (.bin .neq (.t 72) (.t 74)) (some (70, true)),
    .op (some 76) (.pick (.t 70) (.t 75) (.c (.bool false))) none,
    .op (some 77) (.mov (.t 76)) none,
    .op (some 78) (.loadD true 8 (.t 6)) (some (77, true)),
    .op (some 79) (.callD 22 [(.t 78), (.c (.int .i64 1))]) (some (77, true)),
    .op (some 80) (.bin .eql (.t 79) (.c (.int .i64 0))) (some (77, true)),
    .op (some 81) (.pick (.t 77) (.t 80) (.c (.bool false))) none,
    .op (some 0) (.mov (.t 81)) none])
  .ret)))))))
def A9 : Ann := { n := 82, own := [], frz := [], ord := [(3, [0, 1, 2, 3, 4, 5, 6], [[], [0], [], [2], [0, 1, 2, 3], [0, 1, 2, 3, 4], [0, 1, 2, 3, 4, 5]]), (6, [0, 1, 2, 3, 4, 5, 6, 7, 8, 9, 10, 11, 12, 13, 14, 15, 16, 17, 18, 19, 20, 21, 22, 23, 24, 25, 26, 27, 28, 29, 30, 31, 32, 33, 34, 35, 36, 37, 38, 39, 40, 42, 41, 43, 44, 45, 46, 47, 48, 49, 50, 51], [[], [0], [0, 1], [0, 1, 2], [0, 1, 2, 3], [0, 1, 2, 3, 4], [0, 1, 2, 3, 4, 5], [0, 1, 2, 3, 4, 5, 6], [0, 1, 2, 3, 4, 5, 6, 7], [0, 1, 2, 3, 4, 5, 6, 7, 8], [0, 1, 2, 3, 4, 5, 6, 7, 8, 9], [0, 1, 2, 3, 4, 5, 6, 7, 8, 9, 10], [0, 1, 2, 3, 4, 5, 6, 7, 8, 9, 10, 11], [0, 1, 2, 3, 4, 5, 6, 7, 8, 9, 10, 11, 12], [0, 1, 2, 3, 4, 5, 6, 7, 8, 9, 10, 11, 12, 13], [0, 1, 2, 3, 4, 5, 6, 7, 8, 9, 10, 11, 12, 13, 14], [0, 1, 2, 3, 4, 5, 6, 7, 8, 9, 10, 11, 12, 13, 14, 15], [0, 1, 2, 3, 4, 5, 6, 7, 8, 9, 10, 11, 12, 13, 14, 15, 16], [0, 1, 2, 3, 4, 5, 6, 7, 8, 9, 10, 11, 12, 13, 14, 15, 16, 17], [0, 1, 2, 3, 4, 5, 6, 7, 8, 9, 10, 11, 12, 13, 14, 15, 16, 17, 18], [0, 1, 2, 3, 4, 5, 6, 7, 8, 9, 10, 11, 12, 13, 14, 15, 16, 17], [0, 1, 2, 3, 4, 5, 6, 7, 8, 9, 10, 11, 12, 13, 14, 15, 16, 17, 18, 19, 20], [0, 1, 2, 3, 4, 5, 6, 7, 8, 9, 10, 11, 12, 13, 14, 15, 16, 17, 18, 19, 20, 21], [0, 1, 2, 3, 4, 5, 6, 7, 8, 9, 10, 11, 12, 13, 14, 15, 16, 17, 18, 19, 20, 21, 22], [0, 1, 2, 3, 4, 5, 6, 7, 8, 9, 10, 11, 12, 13, 14, 15, 16, 17, 18, 19, 20, 21, 22, 23], [0, 1, 2, 3, 4, 5, 6, 7, 8, 9, 10, 11, 12, 13, 14, 15, 16, 17, 18, 19, 20, 21, 22, 23, 24], [0, 1, 2, 3, 4, 5, 6, 7, 8, 9, 10, 11, 12, 13, 14, 15, 16, 17, 18, 19, 20, 21, 22, 23], [0, 1, 2, 3, 4, 5, 6, 7, 8, 9, 10, 11, 12, 13, 14, 15, 16, 17, 18, 19, 20, 21, 22, 23, 24, 25, 26], [0, 1, 2, 3, 4, 5, 6, 7, 8, 9, 10, 11, 12, 13, 14, 15, 16, 17, 18, 19, 20, 21, 22, 23, 24, 25, 26, 27], [0, 1, 2, 3, 4, 5, 6, 7, 8, 9, 10, 11, 12, 13, 14, 15, 16, 17, 18, 19, 20, 21, 22, 23, 24, 25, 26, 27, 28], [0, 1, 2, 3, 4, 5, 6, 7, 8, 9, 10, 11, 12, 13, 14, 15, 16, 17, 18, 19, 20, 21, 22, 23, 24, 25, 26, 27, 28, 29], [0, 1, 2, 3, 4, 5, 6, 7, 8, 9, 10, 11, 12, 13, 14, 15, 16, 17, 18, 19, 20, 21, 22, 23, 24, 25, 26, 27, 28, 29], [0, 1, 2, 3, 4, 5, 6, 7, 8, 9, 10, 11, 12, 13, 14, 15, 16, 17, 18, 19, 20, 21, 22, 23, 24, 25, 26, 27, 28, 29, 30, 31], [0, 1, 2, 3, 4, 5, 6, 7, 8, 9, 10, 11, 12, 13, 14, 15, 16, 17, 18, 19, 20, 21, 22, 23, 24, 25, 26, 27, 28, 29, 30, 31, 32], [0, 1, 2, 3, 4, 5, 6, 7, 8, 9, 10, 11, 12, 13, 14, 15, 16, 17, 18, 19, 20, 21, 22, 23, 24, 25, 26, 27, 28, 29, 30, 31, 32, 33], [0, 1, 2, 3, 4, 5, 6, 7, 8, 9, 10, 11, 12, 13, 14, 15, 16, 17, 18, 19, 20, 21, 22, 23, 24, 25, 26, 27, 28, 29, 30, 31, 32, 33, 34], [0, 1, 2, 3, 4, 5, 6, 7, 8, 9, 10, 11, 12, 13, 14, 15, 16, 17, 18, 19, 20, 21, 22, 23, 24, 25, 26, 27, 28, 29, 30, 31, 32, 33, 34], [0, 1, 2, 3, 4, 5, 6, 7, 8, 9, 10, 11, 12, 13, 14, 15, 16, 17, 18, 19, 20, 21, 22, 23, 24, 25, 26, 27, 28, 29, 30, 31, 32, 33, 34, 35, 36], [0, 1, 2, 3, 4, 5, 6, 7, 8, 9, 10, 11, 12, 13, 14, 15, 16, 17, 18, 19, 20, 21, 22, 23, 24, 25, 26, 27, 28, 29, 30, 31, 32, 33, 34, 35, 36, 37], [0, 1, 2, 3, 4, 5, 6, 7, 8, 9, 10, 11, 12, 13, 14, 15, 16, 17, 18, 19, 20, 21, 22, 23, 24, 25, 26, 27, 28, 29, 30, 31, 32, 33, 34, 35, 36, 37, 38], [0, 1, 2, 3, 4, 5, 6, 7, 8, 9, 10, 11, 12, 13, 14, 15, 16, 17, 18, 19, 20, 21, 22, 23, 24, 25, 26, 27, 28, 29, 30, 31, 32, 33, 34, 35, 36, 37, 38, 39], [0, 1, 2, 3, 4, 5, 6, 7, 8, 9, 10, 11, 12, 13, 14, 15, 16, 17, 18, 19, 20, 21, 22, 23, 24, 25, 26, 27, 28, 29, 30, 31, 32, 33, 34, 35, 36, 37, 38, 39, 40], [0, 1, 2, 3, 4, 5, 6, 7, 8, 9, 10, 11, 12, 13, 14, 15, 16, 17, 18, 19, 20, 21, 22, 23, 24, 25, 26, 27, 28, 29, 30, 31, 32, 33, 34, 35, 36, 37, 38, 39], [0, 1, 2, 3, 4, 5, 6, 7, 8, 9, 10, 11, 12, 13, 14, 15, 16, 17, 18, 19, 20, 21, 22, 23, 24, 25, 26, 27, 28, 29, 30, 31, 32, 33, 34, 35, 36, 37, 38, 39, 40, 41, 42], [0, 1, 2, 3, 4, 5, 6, 7, 8, 9, 10, 11, 12, 13, 14, 15, 16, 17, 18, 19, 20, 21, 22, 23, 24, 25, 26, 27, 28, 29, 30, 31, 32, 33, 34, 35, 36, 37, 38, 39, 40, 41, 42, 43], [0, 1, 2, 3, 4, 5, 6, 7, 8, 9, 10, 11, 12, 13, 14, 15, 16, 17, 18, 19, 20, 21, 22, 23, 24, 25, 26, 27, 28, 29, 30, 31, 32, 33, 34, 35, 36, 37, 38, 39, 40, 41, 42, 43, 44], [0, 1, 2, 3, 4, 5, 6, 7, 8, 9, 10, 11, 12, 13, 14, 15, 16, 17, 18, 19, 20, 21, 22, 23, 24, 25, 26, 27, 28, 29, 30, 31, 32, 33, 34, 35, 36, 37, 38, 39, 40, 41, 42, 43, 44, 45], [0, 1, 2, 3, 4, 5, 6, 7, 8, 9, 10, 11, 12, 13, 14, 15, 16, 17, 18, 19, 20, 21, 22, 23, 24, 25, 26, 27, 28, 29, 30, 31, 32, 33, 34, 35, 36, 37, 38, 39, 40, 41, 42, 43, 44, 45, 46], [0, 1, 2, 3, 4, 5, 6, 7, 8, 9, 10, 11, 12, 13, 14, 15, 16, 17, 18, 19, 20, 21, 22, 23, 24, 25, 26, 27, 28, 29, 30, 31, 32, 33, 34, 35, 36, 37, 38, 39, 40, 41, 42, 43, 44, 45, 46, 47], [0, 1, 2, 3, 4, 5, 6, 7, 8, 9, 10, 11, 12, 13, 14, 15, 16, 17, 18, 19, 20, 21, 22, 23, 24, 25, 26, 27, 28, 29, 30, 31, 32, 33, 34, 35, 36, 37, 38, 39, 40, 41, 42, 43, 44, 45, 46, 47, 48], [0, 1, 2, 3, 4, 5, 6, 7, 8, 9, 10, 11, 12, 13, 14, 15, 16, 17, 18, 19, 20, 21, 22, 23, 24, 25, 26, 27, 28, 29, 30, 31, 32, 33, 34, 35, 36, 37, 38, 39, 40, 41, 42, 43, 44, 45, 46, 47, 48, 49], [0, 1, 2, 3, 4, 5, 6, 7, 8, 9, 10, 11, 12, 13, 14, 15, 16, 17, 18, 19, 20, 21, 22, 23, 24, 25, 26, 27, 28, 29, 30, 31, 32, 33, 34, 35, 36, 37, 38, 39, 40, 41, 42, 43, 44, 45, 46, 47, 48, 49, 50]])], co := [20] }
theorem facts9 : factsOf Try.prog A9 Try.f9 = some (c9, 82, [(0, none)], false) := by kernel_rfl

/- 10 leasehold/leaseholdref05.Small -/
def c10 : SCode := (.seq (.reg [.op (some 2) (.mov (.c (.bool false))) none])
  (.seq (.seq (.reg [.op (some 3) (.mov (.c (.int .i64 0))) none])
  (.block 0
  (.loop [4, 5, 6, 7, 10, 11, 12, 13, 14, 15, 2, 8, 9, 3]
    (.seq (.seq (.reg [.op (some 4) (.mov (.t 3)) none,
        .op (some 5) (.mov (.t 0)) none,
        .op (some 6) (.len (.t 5)) none,
        .op (some 7) (.bin .lss (.t 4) (.t 6)) none])
      (.cond (.t 7)
      .skip
      (.exit 0)))
      (.seq (.block 1
      (.seq (.reg [.op (some 10) (.mov (.t 0)) none,
          .op (some 11) (.mov (.t 3)) none,
          .op (some 12) (.idxA 3 (.t 10) (.t 11)) none,
          .op (some 13) (.load true 3 (.t 12)) none,
          .op (some 14) (.call 31 [(.t 13), (.c (.int .i64 30))]) none,
          .op (some 15) (.bin .gtr (.t 14) (.c (.int .i64 30))) none])
        (.cond (.t 15)
        (.seq (.reg [.op (some 2) (.mov (.c (.bool false))) none])
          .ret)
        .skip)))
      (.reg [.op (some 8) (.mov (.t 3)) none,
        .op (some 9) (.bin .add (.t 8) (.c (.int .i64 1))) none,
        .op (some 3) (.mov (.t 9)) none]))))))
  (.seq (.reg [.op (some 16) (.mov (.t 0)) none,
    .op (some 17) (.len (.t 16)) none,
    .op (some 18) (.bin .leq (.t 17) (.c (.int .i64 8))) none,
    .op (some 2) (.mov (.t 18)) none])
  .ret)))
def A10 : Ann := { n := 19, own := [], frz := [], ord := [] }
theorem facts10 : factsOf Try.prog A10 Try.f10 = some (c10, 19, [(2, none)], false) := by kernel_rfl

/- 11 leasehold/leaseholdref11.Tiny -/
def c11 : SCode := (.seq (.reg [.op (some 1) (.box 30 (.t 0)) none,
    .op (some 2) (.mov (.c (.bool false))) none])
  (.seq (.seq (.reg [.op (some 7) (.fieldA 8 (.t 1)) none,
    .op (some 8) (.load false 1 (.t 7)) none,
    .op (some 9) (.len (.t 8)) none,
    .op (some 10) (.bin .gtr (.t 9) (.c (.int .i64 40))) none,
    .op (some 11) (.mov (.t 10)) none,
    .op (some 12) (.fieldA 9 (.t 1)) (some (11, false)),
    .op (some 13) (.load false 1 (.t 12)) (some (11, false)),
    .op (some 14) (.len (.t 13)) (some (11, false)),
    .op (some 15) (.bin .gtr (.t 14) (.c (.int .i64 40))) (some (11, false)),
    .op (some 16) (.pick (.t 11) (.c (.bool true)) (.t 15)) none,
    .op (some 17) (.mov (.t 16)) none,
    .op (some 18) (.fieldA 3 (.t 1)) (some (17, false)),
    .op (some 19) (.load false 1 (.t 18)) (some (17, false)),
    .op (some 20) (.len (.t 19)) (some (17, false)),
    .op (some 21) (.bin .gtr (.t 20) (.c (.int .i64 10))) (some (17, false)),
    .op (some 22) (.pick (.t 17) (.c (.bool true)) (.t 21)) none,
    .op (some 23) (.mov (.t 22)) none,
    .op (some 24) (.fieldA 10 (.t 1)) (some (23, false)),
    .op (some 25) (.load false 1 (.t 24)) (some (23, false)),
    .op (some 26) (.len (.t 25)) (some (23, false)),
    .op (some 27) (.bin .gtr (.t 26) (.c (.int .i64 20))) (some (23, false)),
    .op (some 28) (.pick (.t 23) (.c (.bool true)) (.t 27)) none,
    .op (some 29) (.mov (.t 28)) none,
    .op (some 30) (.fieldA 5 (.t 1)) (some (29, false)),
    .op (some 31) (.load true 3 (.t 30)) (some (29, false)),
    .op (some 32) (.call 31 [(.t 31), (.c (.int .i64 30))]) (some (29, false)),
    .op (some 33) (.bin .gtr (.t 32) (.c (.int .i64 30))) (some (29, false)),
    .op (some 34) (.pick (.t 29) (.c (.bool true)) (.t 33)) none])
  (.cond (.t 34)
  (.seq (.reg [.op (some 2) (.mov (.c (.bool false))) none])
    .ret)
  .skip))
  (.seq (.seq (.reg [.op (some 3) (.mov (.c (.int .i64 0))) none])
  (.block 0
  (.loop [35, 36, 37, 38, 39, 42, 43, 44, 45, 46, 47, 48, 2, 40, 41, 3]
    (.seq (.seq (.reg [.op (some 35) (.mov (.t 3)) none,
        .op (some 36) (.fieldA 8 (.t 1)) none,
        .op (some 37) (.load false 1 (.t 36)) none,
        .op (some 38) (.len (.t 37)) none,
        .op (some 39) (.bin .lss (.t 35) (.t 38)) none])
      (.cond (.t 39)
      .skip
      (.exit 0)))
      (.seq (.block 1
      (.seq (.reg [.op (some 42) (.fieldA 8 (.t 1)) none,
          .op (some 43) (.load false 1 (.t 42)) none,
          .op (some 44) (.mov (.t 3)) none,
          .op (some 45) (.idxA 3 (.t 43) (.t 44)) none,
          .op (some 46) (.load true 3 (.t 45)) none,
          .op (some 47) (.call 31 [(.t 46), (.c (.int .i64 30))]) none,
          .op (some 48) (.bin .gtr (.t 47) (.c (.int .i64 30))) none])
        (.cond (.t 48)
        (.seq (.reg [.op (some 2) (.mov (.c (.bool false))) none])
          .ret)
        .skip)))
      (.reg [.op (some 40) (.mov (.t 3)) none,
        .op (some 41) (.bin .add (.t 40) (.c (.int .i64 1))) none,
        .op (some 3) (.mov (.t 41)) none]))))))
  (.seq (.seq (.reg [.op (some 4) (.mov (.c (.int .i64 0))) none])
  (.block 2
  (.loop [49, 50, 51, 52, 53, 56, 57, 58, 59, 60, 61, 62, 63, 64, 65, 66, 67, 68, 69, 70, 71, 72, 73, 74, 2, 5, 75, 76, 77, 78, 79, 80, 81, 82, 83, 86, 87, 88, 89, 90, 91, 92, 93, 94, 6, 95, 96, 97, 98, 99, 100, 101, 102, 103, 104, 2, 84, 85, 5, 54, 55, 4]
    (.seq (.seq (.reg [.op (some 49) (.mov (.t 4)) none,
        .op (some 50) (.fieldA 9 (.t 1)) none,
        .op (some 51) (.load false 1 (.t 50)) none,
        .op (some 52) (.len (.t 51)) none,
        .op (some 53) (.bin .lss (.t 49) (.t 52)) none])
      (.cond (.t 53)
      .skip
      (.exit 2)))
      (.seq (.block 3
      (.seq (.seq (.reg [.op (some 56) (.fieldA 9 (.t 1)) none,
          .op (some 57) (.load false 1 (.t 56)) none,
          .op (some 58) (.mov (.t 4)) none,
          .op (some 59) (.idxA 4 (.t 57) (.t 58)) none,
          .op (some 60) (.fieldA 0 (.t 59)) none,
          .op (some 61) (.load false 1 (.t 60)) none,
          .op (some 62) (.len (.t 61)) none,
          .op (some 63) (.bin .gtr (.t 62) (.c (.int .i64 20))) none,
          .op (some 64) (.mov (.t 63)) none,
          .op (some 65) (.fieldA 9 (.t 1)) (some (64, false)),
          .op (some 66) (.load false 1 (.t 65)) (some (64, false)),
          .op (some 67) (.mov (.t 4)) (some (64, false)),
          .op (some 68) (.idxA 4 (.t 66) (.t 67)) (some (64, false)),
          .op (some 69) (.fieldA 1 (.t 68)) (some (64, false)),
          .op (some 70) (.fieldA 2 (.t 69)) (some (64, false)),
          .op (some 71) (.load false 1 (.t 70)) (some (64, false)),
          .op (some 72) (.len (.t 71)) (some (64, false)),
          .op (some 73) (.bin .gtr (.t 72) (.c (.int .i64 20))) (some (64, false)),
          .op (some 74) (.pick (.t 64) (.c (.bool true)) (.t 73)) none])
        (.cond (.t 74)
        (.seq (.reg [.op (some 2) (.mov (.c (.bool false))) none])
          .ret)
        .skip))
        (.seq (.reg [.op (some 5) (.mov (.c (.int .i64 0))) none])
        (.block 4
        (.loop [75, 76, 77, 78, 79, 80, 81, 82, 83, 86, 87, 88, 89, 90, 91, 92, 93, 94, 6, 95, 96, 97, 98, 99, 100, 101, 102, 103, 104, 2, 84, 85, 5]
          (.seq (.seq (.reg [.op (some 75) (.mov (.t 5)) none,
              .op (some 76) (.fieldA 9 (.t 1)) none,
              .op (some 77) (.load false 1 (.t 76)) none,
              .op (some 78) (.mov (.t 4)) none,
              .op (some 79) (.idxA 4 (.t 77) (.t 78)) none,
              .op (some 80) (.fieldA 0 (.t 79)) none,
              .op (some 81) (.load false 1 (.t 80)) none,
              .op (some 82) (.len (.t 81)) none,
              .op (some 83) (.bin .lss (.t 75) (.t 82)) none])
            (.cond (.t 83)
            .skip
            (.exit 4)))
            (.seq (.block 5
            (.seq (.reg [.op (some 86) (.fieldA 9 (.t 1)) none,
                .op (some 87) (.load false 1 (.t 86)) none,
                .op (some 88) (.mov (.t 4)) none,
                .op (some 89) (.idxA 4 (.t 87) (.t 88)) none,
                .op (some 90) (.fieldA 0 (.t 89)) none,
                .op (some 91) (.load false 1 (.t 90)) none,
                .op (some 92) (.mov (.t 5)) none,
                .op (some 93) (.idxA 7 (.t 91) (.t 92)) none,
                .op (some 94) (.load true 7 (.t 93)) none,
                .op (some 6) (.alloc 75 [(.int .i64 0), (.int .i64 0), (.int .i64 0), (.int .i64 0), (.int .i64 0), (.slice none 0 0), (.slice none 0 0)]) none,
                .op none (.store 7 (.t 6) (.t 94)) none])
              (.seq (.reg [.op (some 95) (.fieldA 5 (.t 6)) none,
                .op (some 96) (.load false 1 (.t 95)) none,
                .op (some 97) (.len (.t 96)) none,
                .op (some 98) (.bin .gtr (.t 97) (.c (.int .i64 20))) none,
                .op (some 99) (.mov (.t 98)) none,
                .op (some 100) (.fieldA 6 (.t 6)) (some (99, false)),
                .op (some 101) (.load false 1 (.t 100)) (some (99, false)),
                .op (some 102) (.call 10 [(.t 101)]) (some (99, false)),
                .op (some 103) (.un .not (.t 102)) (some (99, false)),
                .op (some 104) (.pick (.t 99) (.c (.bool true)) (.t 103)) none])
              (.cond (.t 104)
              (.seq (.reg [.op (some 2) (.mov (.c (.bool false))) none])
                .ret)
              .skip))))
            (.reg [.op (some 84) (.mov (.t 5)) none,
              .op (some 85) (.bin .add (.t 84) (.c (.int .i64 1))) none,
              .op (some 5) (.mov (.t 85)) none]))))))))
      (.reg [.op (some 54) (.mov (.t 4)) none,
        .op (some 55) (.bin .add (.t 54) (.c (.int .i64 1))) none,
        .op (some 4) (.mov (.t 55)) none]))))))
  (.seq (.reg [.op (some 2) (.mov (.c (.bool true))) none])
  .ret)))))
def A11 : Ann := { n := 105, own := [], frz := [], ord := [] }
theorem facts11 : factsOf Try.prog A11 Try.f11 = some (c11, 105, [(2, none)], false) := by kernel_rfl

/- 12 leasehold/leaseholdref11.Small -/
def c12 : SCode := (.seq (.reg [.op (some 1) (.box 37 (.t 0)) none,
    .op (some 2) (.mov (.c (.bool false))) none])
  (.seq (.seq (.reg [.op (some 8) (.fieldA 2 (.t 1)) none,
    .op (some 9) (.load false 1 (.t 8)) none,
    .op (some 10) (.len (.t 9)) none,
    .op (some 11) (.bin .gtr (.t 10) (.c (.int .i64 20))) none,
    .op (some 12) (.mov (.t 11)) none,
    .op (some 13) (.fieldA 6 (.t 1)) (some (12, false)),
    .op (some 14) (.load false 1 (.t 13)) (some (12, false)),
    .op (some 15) (.len (.t 14)) (some (12, false)),
    .op (some 16) (.bin .gtr (.t 15) (.c (.int .i64 10))) (some (12, false)),
    .op (some 17) (.pick (.t 12) (.c (.bool true)) (.t 16)) none,
    .op (some 18) (.mov (.t 17)) none,
    .op (some 19) (.fieldA 3 (.t 1)) (some (18, false)),
    .op (some 20) (.load false 1 (.t 19)) (some (18, false)),
    .op (some 21) (.len (.t 20)) (some (18, false)),
    .op (some 22) (.bin .gtr (.t 21) (.c (.int .i64 10))) (some (18, false)),
    .op (some 23) (.pick (.t 18) (.c (.bool true)) (.t 22)) none])
  (.cond (.t 23)
  (.seq (.reg [.op (some 2) (.mov (.c (.bool false))) none])
    .ret)
  .skip))
  (.seq (.seq (.reg [.op (some 3) (.mov (.c (.int .i64 0))) none])
  (.block 0
  (.loop [24, 25, 26, 27, 28, 31, 32, 33, 34, 35, 36, 37, 38, 2, 4, 39, 40, 41, 42, 43, 44, 45, 46, 47, 50, 51, 52, 53, 54, 55, 56, 57, 58, 59, 5, 60, 61, 62, 2, 6, 63, 64, 65, 66, 69, 70, 71, 72, 73, 74, 2, 67, 68, 6, 48, 49, 4, 29, 30, 3]
    (.seq (.seq (.reg [.op (some 24) (.mov (.t 3)) none,
        .op (some 25) (.fieldA 2 (.t 1)) none,
        .op (some 26) (.load false 1 (.t 25)) none,
        .op (some 27) (.len (.t 26)) none,
        .op (some 28) (.bin .lss (.t 24) (.t 27)) none])
      (.cond (.t 28)
      .skip
      (.exit 0)))
      (.seq (.block 1
      (.seq (.seq (.reg [.op (some 31) (.fieldA 2 (.t 1)) none,
          .op (some 32) (.load false 1 (.t 31)) none,
          .op (some 33) (.mov (.t 3)) none,
          .op (some 34) (.idxA 5 (.t 32) (.t 33)) none,
          .op (some 35) (.fieldA 3 (.t 34)) none,
          .op (some 36) (.load false 1 (.t 35)) none,
          .op (some 37) (.len (.t 36)) none,
          .op (some 38) (.bin .gtr (.t 37) (.c (.int .i64 8))) none])
        (.cond (.t 38)
        (.seq (.reg [.op (some 2) (.mov (.c (.bool false))) none])
          .ret)
        .skip))
        (.seq (.reg [.op (some 4) (.mov (.c (.int .i64 0))) none])
        (.block 2
        (.loop [39, 40, 41, 42, 43, 44, 45, 46, 47, 50, 51, 52, 53, 54, 55, 56, 57, 58, 59, 5, 60, 61, 62, 2, 6, 63, 64, 65, 66, 69, 70, 71, 72, 73, 74, 2, 67, 68, 6, 48, 49, 4]
          (.seq (.seq (.reg [.op (some 39) (.mov (.t 4)) none,
              .op (some 40) (.fieldA 2 (.t 1)) none,
              .op (some 41) (.load false 1 (.t 40)) none,
              .op (some 42) (.mov (.t 3)) none,
              .op (some 43) (.idxA 5 (.t 41) (.t 42)) none,
              .op (some 44) (.fieldA 3 (.t 43)) none,
              .op (some 45) (.load false 1 (.t 44)) none,
              .op (some 46) (.len (.t 45)) none,
              .op (some 47) (.bin .lss (.t 39) (.t 46)) none])
            (.cond (.t 47)
            .skip
            (.exit 2)))
            (.seq (.block 3
            (.seq (.reg [.op (some 50) (.fieldA 2 (.t 1)) none,
                .op (some 51) (.load false 1 (.t 50)) none,
                .op (some 52) (.mov (.t 3)) none,
                .op (some 53) (.idxA 5 (.t 51) (.t 52)) none,
                .op (some 54) (.fieldA 3 (.t 53)) none,
                .op (some 55) (.load false 1 (.t 54)) none,
                .op (some 56) (.mov (.t 4)) none,
                .op (some 57) (.idxA 2 (.t 55) (.t 56)) none,
                .op (some 58) (.fieldA 1 (.t 57)) none,
                .op (some 59) (.load false 1 (.t 58)) none,
                .op (some 5) (.mov (.t 59)) none])
              (.seq (.seq (.reg [.op (some 60) (.mov (.t 5)) none,
                .op (some 61) (.len (.t 60)) none,
                .op (some 62) (.bin .gtr (.t 61) (.c (.int .i64 10))) none])
              (.cond (.t 62)
              (.seq (.reg [.op (some 2) (.mov (.c (.bool false))) none])
                .ret)
              .skip))
              (.seq (.reg [.op (some 6) (.mov (.c (.int .i64 0))) none])
              (.block 4
              (.loop [63, 64, 65, 66, 69, 70, 71, 72, 73, 74, 2, 67, 68, 6]
                (.seq (.seq (.reg [.op (some 63) (.mov (.t 6)) none,
                    .op (some 64) (.mov (.t 5)) none,
                    .op (some 65) (.len (.t 64)) none,
                    .op (some 66) (.bin .lss (.t 63) (.t 65)) none])
                  (.cond (.t 66)
                  .skip
                  (.exit 4)))
                  (.seq (.block 5
                  (.seq (.reg [.op (some 69) (.mov (.t 5)) none,
                      .op (some 70) (.mov (.t 6)) none,
                      .op (some 71) (.idxA 3 (.t 69) (.t 70)) none,
                      .op (some 72) (.load true 3 (.t 71)) none,
                      .op (some 73) (.call 31 [(.t 72), (.c (.int .i64 30))]) none,
                      .op (some 74) (.bin .gtr (.t 73) (.c (.int .i64 30))) none])
                    (.cond (.t 74)
                    (.seq (.reg [.op (some 2) (.mov (.c (.bool false))) none])
                      .ret)
                    .skip)))
                  (.reg [.op (some 67) (.mov (.t 6)) none,
                    .op (some 68) (.bin .add (.t 67) (.c (.int .i64 1))) none,
                    .op (some 6) (.mov (.t 68)) none])))))))))
            (.reg [.op (some 48) (.mov (.t 4)) none,
              .op (some 49) (.bin .add (.t 48) (.c (.int .i64 1))) none,
              .op (some 4) (.mov (.t 49)) none]))))))))
      (.reg [.op (some 29) (.mov (.t 3)) none,
        .op (some 30) (.bin .add (.t 29) (.c (.int .i64 1))) none,
        .op (some 3) (.mov (.t 30)) none]))))))
  (.seq (.seq (.reg [.op (some 7) (.mov (.c (.int .i64 0))) none])
  (.block 6
  (.loop [75, 76, 77, 78, 79, 82, 83, 84, 85, 86, 87, 88, 2, 80, 81, 7]
    (.seq (.seq (.reg [.op (some 75) (.mov (.t 7)) none,
        .op (some 76) (.fieldA 6 (.t 1)) none,
        .op (some 77) (.load false 1 (.t 76)) none,
        .op (some 78) (.len (.t 77)) none,
        .op (some 79) (.bin .lss (.t 75) (.t 78)) none])
      (.cond (.t 79)
      .skip
      (.exit 6)))
      (.seq (.block 7
      (.seq (.reg [.op (some 82) (.fieldA 6 (.t 1)) none,
          .op (some 83) (.load false 1 (.t 82)) none,
          .op (some 84) (.mov (.t 7)) none,
          .op (some 85) (.idxA 11 (.t 83) (.t 84)) none,
          .op (some 86) (.load true 11 (.t 85)) none,
          .op (some 87) (.call 11 [(.t 86)]) none,
          .op (some 88) (.un .not (.t 87)) none])
        (.cond (.t 88)
        (.seq (.reg [.op (some 2) (.mov (.c (.bool false))) none])
          .ret)
        .skip)))
      (.reg [.op (some 80) (.mov (.t 7)) none,
        .op (some 81) (.bin .add (.t 80) (.c (.int .i64 1))) none,
        .op (some 7) (.mov (.t 81)) none]))))))
  (.seq (.reg [.op (some 2) (.mov (.c (.bool true))) none])
  .ret)))))
def A12 : Ann := { n := 89, own := [], frz := [], ord := [] }
theorem facts12 : factsOf Try.prog A12 Try.f12 = some (c12, 89, [(2, none)], false) := by kernel_rfl

/- 13 leasehold/digest.Func -/
def c13 : SCode := (.seq (.reg [.op (some 1) (.box 30 (.t 0)) none,
    .op (some 2) (.mov (.c (.int .i64 0))) none,
    .op (some 3) (.mov (.c (.int .i64 0))) none])
  (.seq (.reg [.op (some 4) (.mkfn 33 [] [(.t 1)]) none,
    .op (some 5) (.call 32 [(.c (.pointer none)), (.t 4)]) none,
    .op (some 6) (.call 15 [(.t 5)]) none,
    .op (some 7) (.mkfn 35 [] [(.t 1)]) none,
    .op (some 8) (.call 32 [(.c (.pointer none)), (.t 7)]) none,
    .op (some 9) (.call 15 [(.t 8)]) none,
    .op (some 2) (.mov (.t 6)) none,
    .op (some 3) (.mov (.t 9)) none])
  .ret))
def A13 : Ann := { n := 10, own := [], frz := [], ord := [] }
theorem facts13 : factsOf Try.prog A13 Try.f13 = some (c13, 10, [(2, none), (3, none)], false) := by kernel_rfl

/- 14 leasehold/leaseholdref20.Func -/
def c14 : SCode := (.seq (.reg [.op (some 1) (.box 30 (.t 0)) none,
    .op (some 2) (.mov (.c (.int .i64 0))) none,
    .op (some 3) (.mov (.c (.int .i64 0))) none])
  (.seq (.regD [.op (some 4) (.loadD true 11 (.t 1)) none,
    .op (some 7) (.loadD true 11 (.t 1)) none,
    .op (some 5) (.callD 37 [(.t 4)]) none,
    .op (some 6) (.callD 16 [(.t 5)]) none,
    .op (some 8) (.callD 38 [(.t 7)]) none,
    .op (some 9) (.callD 16 [(.t 8)]) none,
    .op (some 2) (.mov (.t 6)) none,
    .op (some 3) (.mov (.t 9)) none])
  .ret))
def A14 : Ann := { n := 10, own := [], frz := [], ord := [(1, [0, 3, 1, 2, 4, 5, 6, 7], [[], [0], [0, 1], [], [0, 1, 2, 3], [0, 1, 2, 3, 4], [0, 1, 2, 3, 4, 5], [0, 1, 2, 3, 4, 5, 6]])] }
theorem facts14 : factsOf Try.prog A14 Try.f14 = some (c14, 10, [(2, none), (3, none)], false) := by kernel_rfl

/- 15 leasehold/digest.Sum -/
def c15 : SCode := (.seq (.reg [.op (some 2) (.mov (.c (.int .i64 0))) none])
  (.seq (.reg [.op (some 3) (.mov (.t 0)) none,
    .op (some 4) (.call 39 [(.t 3), (.fn 40)]) none,
    .op (some 2) (.mov (.t 4)) none])
  .ret))
def A15 : Ann := { n := 5, own := [], frz := [], ord := [] }
theorem facts15 : factsOf Try.prog A15 Try.f15 = some (c15, 5, [(2, none)], false) := by kernel_rfl

/- 16 leasehold/leaseholdref20.Sum -/
def c16 : SCode := (.seq (.reg [.op (some 2) (.mov (.c (.int .i64 0))) none])
  (.seq (.reg [.op (some 3) (.mov (.c (.int .i64 7))) none])
  (.seq (.seq (.reg [.op (some 4) (.mov (.c (.int .i64 0))) none])
  (.block 0
  (.loop [5, 6, 7, 8, 11, 12, 13, 14, 15, 16, 17, 18, 19, 20, 3, 9, 10, 4]
    (.seq (.seq (.reg [.op (some 5) (.mov (.t 4)) none,
        .op (some 6) (.mov (.t 0)) none,
        .op (some 7) (.len (.t 6)) none,
        .op (some 8) (.bin .lss (.t 5) (.t 7)) none])
      (.cond (.t 8)
      .skip
      (.exit 0)))
      (.seq (.block 1
      (.reg [.op (some 11) (.mov (.t 3)) none,
          .op (some 12) (.bin .mul (.t 11) (.c (.int .i64 1000003))) none,
          .op (some 13) (.mov (.t 0)) none,
          .op (some 14) (.mov (.t 4)) none,
          .op (some 15) (.idxA 1 (.t 13) (.t 14)) none,
          .op (some 16) (.load false 1 (.t 15)) none,
          .op (some 17) (.conv .i64 (.t 16)) none,
          .op (some 18) (.bin .add (.t 12) (.t 17)) none,
          .op (some 19) (.bin .add (.t 18) (.c (.int .i64 1))) none,
          .op (some 20) (.bin .rem (.t 19) (.c (.int .i64 2147483647))) none,
          .op (some 3) (.mov (.t 20)) none]))
      (.reg [.op (some 9) (.mov (.t 4)) none,
        .op (some 10) (.bin .add (.t 9) (.c (.int .i64 1))) none,
        .op (some 4) (.mov (.t 10)) none]))))))
  (.seq (.reg [.op (some 21) (.mov (.t 3)) none,
    .op (some 2) (.mov (.t 21)) none])
  .ret))))
def A16 : Ann := { n := 22, own := [], frz := [], ord := [] }
theorem facts16 : factsOf Try.prog A16 Try.f16 = some (c16, 22, [(2, none)], false) := by kernel_rfl

/- 17 leasehold/digest.Join -/
def c17 : SCode := (.seq (.reg [.op (some 2) (.mov (.c (.int .i64 0))) none])
  (.seq (.reg [.op (some 3) (.mov (.t 0)) none,
    .op (some 4) (.call 41 [(.t 3), (.fn 42)]) none,
    .op (some 2) (.mov (.t 4)) none])
  .ret))
def A17 : Ann := { n := 5, own := [], frz := [], ord := [] }
theorem facts17 : factsOf Try.prog A17 Try.f17 = some (c17, 5, [(2, none)], false) := by kernel_rfl

/- 18 leasehold/leaseholdref20.Join -/
def c18 : SCode := (.seq (.reg [.op (some 2) (.mov (.c (.int .i64 0))) none])
  (.seq (.reg [.op (some 3) (.mov (.c (.int .i64 7))) none])
  (.seq (.seq (.reg [.op (some 4) (.mov (.c (.int .i64 0))) none])
  (.block 0
  (.loop [5, 6, 7, 8, 11, 12, 13, 14, 15, 16, 17, 18, 19, 20, 3, 9, 10, 4]
    (.seq (.seq (.reg [.op (some 5) (.mov (.t 4)) none,
        .op (some 6) (.mov (.t 0)) none,
        .op (some 7) (.len (.t 6)) none,
        .op (some 8) (.bin .lss (.t 5) (.t 7)) none])
      (.cond (.t 8)
      .skip
      (.exit 0)))
      (.seq (.block 1
      (.reg [.op (some 11) (.mov (.t 3)) none,
          .op (some 12) (.bin .mul (.t 11) (.c (.int .i64 1000003))) none,
          .op (some 13) (.mov (.t 0)) none,
          .op (some 14) (.mov (.t 4)) none,
          .op (some 15) (.idxA 1 (.t 13) (.t 14)) none,
          .op (some 16) (.load false 1 (.t 15)) none,
          .op (some 17) (.call 43 [(.t 16)]) none,
          .op (some 18) (.bin .add (.t 12) (.t 17)) none,
          .op (some 19) (.bin .add (.t 18) (.c (.int .i64 1))) none,
          .op (some 20) (.bin .rem (.t 19) (.c (.int .i64 2147483647))) none,
          .op (some 3) (.mov (.t 20)) none]))
      (.reg [.op (some 9) (.mov (.t 4)) none,
        .op (some 10) (.bin .add (.t 9) (.c (.int .i64 1))) none,
        .op (some 4) (.mov (.t 10)) none]))))))
  (.seq (.reg [.op (some 21) (.mov (.t 3)) none,
    .op (some 2) (.mov (.t 21)) none])
  .ret))))
def A18 : Ann := { n := 22, own := [], frz := [], ord := [] }
theorem facts18 : factsOf Try.prog A18 Try.f18 = some (c18, 22, [(2, none)], false) := by kernel_rfl

/- 19 leasehold/leaseholdref20.Bytes -/
def c19 : SCode := (.seq (.reg [.op (some 4) (.mov (.c (.bool false))) none])
  (.seq (.reg [.op (some 5) (.mov (.t 0)) none,
    .op (some 6) (.b2s (.t 5)) none,
    .op (some 7) (.mov (.t 1)) none,
    .op (some 8) (.b2s (.t 7)) none,
    .op (some 9) (.bin .eql (.t 6) (.t 8)) none,
    .op (some 4) (.mov (.t 9)) none])
  .ret))
def A19 : Ann := { n := 10, own := [], frz := [], ord := [] }
theorem facts19 : factsOf Try.prog A19 Try.f19 = some (c19, 10, [(4, none)], false) := by kernel_rfl

/- 20 leasehold/digest.Type -/
def c20 : SCode := (.seq (.reg [.op (some 1) (.box 26 (.t 0)) none,
    .op (some 2) (.mov (.c (.slice none 0 0))) none])
  (.seq (.reg [.op (some 3) (.mkfn 44 [] [(.t 1)]) none,
    .op (some 4) (.call 32 [(.c (.pointer none)), (.t 3)]) none,
    .op (some 2) (.mov (.t 4)) none])
  .ret))
def A20 : Ann := { n := 5, own := [], frz := [], ord := [] }
theorem facts20 : factsOf Try.prog A20 Try.f20 = some (c20, 5, [(2, none)], false) := by kernel_rfl

/- 21 leasehold/leaseholdref20.Type -/
def c21 : SCode := (.seq (.reg [.op (some 1) (.box 26 (.t 0)) none,
    .op (some 2) (.mov (.c (.slice none 0 0))) none])
  (.seq (.regD [.op (some 3) (.fieldA 0 (.t 1)) none,
    .op (some 4) (.loadD false 1 (.t 3)) none,
    .op (some 5) (.fieldA 1 (.t 1)) none,
    .op (some 6) (.loadD false 1 (.t 5)) none,
    .op (some 9) (.fieldA 2 (.t 1)) none,
    .op (some 10) (.loadD false 1 (.t 9)) none,
    .op (some 7) (.mkFD 3 2 1 [(.t 4), (.t 6)]) none,
    .op (some 8) (.callD 46 [(.t 7)]) none,
    .op (some 11) (.callD 47 [(.t 10)]) none,
    .op (some 12) (.appD 5 1 1 [(.int .u8 0)] (.t 8) (.t 11)) none,
    .op (some 2) (.mov (.t 12)) none])
  .ret))
def A21 : Ann := { n := 13, own := [], frz := [], ord := [(1, [0, 1, 2, 3, 6, 7, 4, 5, 8, 9, 10], [[], [0], [], [2], [0, 1, 2, 3], [0, 1, 2, 3, 4], [], [6], [0, 1, 2, 3, 4, 5, 6, 7], [0, 1, 2, 3, 4, 5, 6, 7, 8], [0, 1, 2, 3, 4, 5, 6, 7, 8, 9]])] }
theorem facts21 : factsOf Try.prog A21 Try.f21 = some (c21, 13, [(2, none)], false) := by kernel_rfl

/- 22 leasehold/digest.Module -/
def c22 : SCode := (.seq (.reg [.op (some 2) (.boxF 37 (.t 0)) none,
    .op (some 3) (.boxF 3 (.t 1)) none,
    .op (some 4) (.mov (.c (.int .i64 0))) none])
  (.seq (.reg [.op (some 8) (.fieldA 0 (.t 2)) none,
    .op (some 9) (.load false 1 (.t 8)) none,
    .op (some 10) (.load false 1 (.t 3)) none,
    .op (some 11) (.call 48 [(.t 9), (.t 10)]) none,
    .op (some 7) (.mov (.t 11)) none,
    .op (some 12) (.extr (.t 7) 0) none,
    .op (some 13) (.extr (.t 7) 1) none,
    .op (some 5) (.alloc 9 [(.string ⟨#[]⟩)]) none,
    .op none (.store 1 (.t 5) (.t 12)) none,
    .op (some 6) (.mov (.t 13)) none])
  (.seq (.seq (.reg [.op (some 14) (.mov (.t 6)) none,
    .op (some 15) (.un .not (.t 14)) none])
  (.cond (.t 15)
  (.seq (.reg [.op (some 4) (.mov (.c (.int .i64 0))) none])
    .ret)
  .skip))
  (.seq (.reg [.op (some 16) (.mkfn 49 [] [(.t 5), (.t 2), (.t 3)]) none,
    .op (some 17) (.call 32 [(.t 2), (.t 16)]) none,
    .op (some 18) (.call 15 [(.t 17)]) none,
    .op (some 4) (.mov (.t 18)) none])
  .ret))))
def A22 : Ann := { n := 19, own := [2, 3], frz := [], ord := [] }
theorem facts22 : factsOf Try.prog A22 Try.f22 = some (c22, 19, [(4, none)], false) := by kernel_rfl

/- 23 leasehold/leaseholdref20.Module -/
def c23 : SCode := (.seq (.reg [.op (some 2) (.box 37 (.t 0)) none,
    .op (some 4) (.mov (.c (.int .i64 0))) none])
  (.seq (.seq (.reg [.op (some 5) (.mov (.t 1)) none,
    .op (some 6) (.bin .lss (.t 5) (.c (.int .i64 0))) none,
    .op (some 7) (.mov (.t 6)) none,
    .op (some 8) (.mov (.t 1)) (some (7, false)),
    .op (some 9) (.fieldA 0 (.t 2)) (some (7, false)),
    .op (some 10) (.load false 1 (.t 9)) (some (7, false)),
    .op (some 11) (.len (.t 10)) (some (7, false)),
    .op (some 12) (.bin .geq (.t 8) (.t 11)) (some (7, false)),
    .op (some 13) (.pick (.t 7) (.c (.bool true)) (.t 12)) none])
  (.cond (.t 13)
  (.seq (.reg [.op (some 4) (.mov (.c (.int .i64 0))) none])
    .ret)
  .skip))
  (.seq (.reg [.op (some 14) (.load true 8 (.t 2)) none,
    .op (some 15) (.mov (.t 1)) none,
    .op (some 16) (.call 69 [(.t 14), (.t 15)]) none,
    .op (some 17) (.call 16 [(.t 16)]) none,
    .op (some 4) (.mov (.t 17)) none])
  .ret)))
def A23 : Ann := { n := 18, own := [], frz := [], ord := [] }
theorem facts23 : factsOf Try.prog A23 Try.f23 = some (c23, 18, [(4, none)], false) := by kernel_rfl

/- 24 leasehold/leaseholdlaw20.begins -/
def c24 : SCode := (.seq (.reg [.op (some 4) (.mov (.c (.bool false))) none])
  (.seq (.reg [.op (some 5) (.mov (.t 1)) none,
    .op (some 6) (.len (.t 5)) none,
    .op (some 7) (.mov (.t 0)) none,
    .op (some 8) (.len (.t 7)) none,
    .op (some 9) (.bin .leq (.t 6) (.t 8)) none,
    .op (some 10) (.mov (.t 9)) none,
    .op (some 11) (.mov (.t 0)) (some (10, true)),
    .op (some 12) (.mov (.t 1)) (some (10, true)),
    .op (some 13) (.len (.t 12)) (some (10, true)),
    .op (some 14) (.slc 1 (.t 11) none (some (.t 13))) (some (10, true)),
    .op (some 15) (.mov (.t 1)) (some (10, true)),
    .op (some 16) (.call 19 [(.t 14), (.t 15)]) (some (10, true)),
    .op (some 17) (.pick (.t 10) (.t 16) (.c (.bool false))) none,
    .op (some 4) (.mov (.t 17)) none])
  .ret))
def A24 : Ann := { n := 18, own := [], frz := [], ord := [] }
theorem facts24 : factsOf Try.prog A24 Try.f24 = some (c24, 18, [(4, none)], false) := by kernel_rfl

/- 25 leasehold/leaseholdref05.Same -/
def c25 : SCode := (.seq (.reg [.op (some 2) (.box 26 (.t 0)) none,
    .op (some 3) (.box 26 (.t 1)) none,
    .op (some 4) (.mov (.c (.bool false))) none])
  (.seq (.reg [.op (some 5) (.fieldA 0 (.t 2)) none,
    .op (some 6) (.load false 1 (.t 5)) none,
    .op (some 7) (.fieldA 0 (.t 3)) none,
    .op (some 8) (.load false 1 (.t 7)) none,
    .op (some 9) (.bin .eql (.t 6) (.t 8)) none,
    .op (some 10) (.mov (.t 9)) none,
    .op (some 11) (.fieldA 1 (.t 2)) (some (10, true)),
    .op (some 12) (.load false 1 (.t 11)) (some (10, true)),
    .op (some 13) (.fieldA 1 (.t 3)) (some (10, true)),
    .op (some 14) (.load false 1 (.t 13)) (some (10, true)),
    .op (some 15) (.bin .eql (.t 12) (.t 14)) (some (10, true)),
    .op (some 16) (.pick (.t 10) (.t 15) (.c (.bool false))) none,
    .op (some 17) (.mov (.t 16)) none,
    .op (some 18) (.fieldA 2 (.t 2)) (some (17, true)),
    .op (some 19) (.load false 1 (.t 18)) (some (17, true)),
    .op (some 20) (.fieldA 2 (.t 3)) (some (17, true)),
    .op (some 21) (.load false 1 (.t 20)) (some (17, true)),
    .op (some 22) (.call 70 [(.t 19), (.t 21)]) (some (17, true)),
    .op (some 23) (.pick (.t 17) (.t 22) (.c (.bool false))) none,
    .op (some 4) (.mov (.t 23)) none])
  .ret))
def A25 : Ann := { n := 24, own := [], frz := [], ord := [] }
theorem facts25 : factsOf Try.prog A25 Try.f25 = some (c25, 24, [(4, none)], false) := by kernel_rfl

/- 26 leasehold/leaseholdlaw20.fits -/
def c26 : SCode := (.seq (.reg [.op (some 4) (.mov (.c (.bool false))) none])
  (.seq (.seq (.reg [.op (some 5) (.mov (.c (.int .i64 0))) none])
  (.block 0
  (.loop [6, 7, 8, 9, 12, 13, 14, 15, 16, 17, 18, 19, 20, 21, 22, 23, 24, 25, 26, 27, 28, 29, 30, 31, 32, 33, 34, 35, 36, 37, 38, 39, 40, 41, 42, 43, 44, 4, 10, 11, 5]
    (.seq (.seq (.reg [.op (some 6) (.mov (.t 5)) none,
        .op (some 7) (.mov (.t 0)) none,
        .op (some 8) (.len (.t 7)) none,
        .op (some 9) (.bin .lss (.t 6) (.t 8)) none])
      (.cond (.t 9)
      .skip
      (.exit 0)))
      (.seq (.block 1
      (.seq (.reg [.op (some 12) (.mov (.t 0)) none,
          .op (some 13) (.mov (.t 5)) none,
          .op (some 14) (.idxA 3 (.t 12) (.t 13)) none,
          .op (some 15) (.fieldA 0 (.t 14)) none,
          .op (some 16) (.load false 1 (.t 15)) none,
          .op (some 17) (.bin .eql (.t 16) (.c (.int .i64 2))) none,
          .op (some 18) (.mov (.t 17)) none,
          .op (some 19) (.mov (.t 0)) (some (18, true)),
          .op (some 20) (.mov (.t 5)) (some (18, true)),
          .op (some 21) (.idxA 3 (.t 19) (.t 20)) (some (18, true)),
          .op (some 22) (.fieldA 1 (.t 21)) (some (18, true)),
          .op (some 23) (.load false 1 (.t 22)) (some (18, true)),
          .op (some 24) (.bin .lss (.t 23) (.c (.int .i64 0))) (some (18, true)),
          .op (some 25) (.mov (.t 24)) (some (18, true)),
          .op (some 26) (.mov (.t 0)) (some (25, false)),
          .op (some 27) (.mov (.t 5)) (some (25, false)),
          .op (some 28) (.idxA 3 (.t 26) (.t 27)) (some (25, false)),
          .op (some 29) (.fieldA 1 (.t 28)) (some (25, false)),
          .op (some 30) (.load false 1 (.t 29)) (some (25, false)),
          .op (some 31) (.mov (.t 1)) (some (25, false)),
          .op (some 32) (.bin .geq (.t 30) (.t 31)) (some (25, false)),
          .op (some 33) (.pick (.t 25) (.c (.bool true)) (.t 32)) (some (18, true)),
          .op (some 34) (.pick (.t 18) (.t 33) (.c (.bool false))) none,
          .op (some 35) (.mov (.t 34)) none,
          .op (some 36) (.mov (.t 0)) (some (35, false)),
          .op (some 37) (.mov (.t 5)) (some (35, false)),
          .op (some 38) (.idxA 3 (.t 36) (.t 37)) (some (35, false)),
          .op (some 39) (.fieldA 2 (.t 38)) (some (35, false)),
          .op (some 40) (.load false 1 (.t 39)) (some (35, false)),
          .op (some 41) (.mov (.t 1)) (some (35, false)),
          .op (some 42) (.call 26 [(.t 40), (.t 41)]) (some (35, false)),
          .op (some 43) (.un .not (.t 42)) (some (35, false)),
          .op (some 44) (.pick (.t 35) (.c (.bool true)) (.t 43)) none])
        (.cond (.t 44)
        (.seq (.reg [.op (some 4) (.mov (.c (.bool false))) none])
          .ret)
        .skip)))
      (.reg [.op (some 10) (.mov (.t 5)) none,
        .op (some 11) (.bin .add (.t 10) (.c (.int .i64 1))) none,
        .op (some 5) (.mov (.t 11)) none]))))))
  (.seq (.reg [.op (some 4) (.mov (.c (.bool true))) none])
  .ret)))
def A26 : Ann := { n := 45, own := [], frz := [], ord := [] }
theorem facts26 : factsOf Try.prog A26 Try.f26 = some (c26, 45, [(4, none)], false) := by kernel_rfl

/- 27 leasehold/leaseholdlaw20.shiftedAll -/
def c27 : SCode := (.seq (.reg [.op (some 4) (.mov (.c (.slice none 0 0))) none])
  (.seq (.reg [.op (some 5) (.mov (.c (.slice none 0 0))) none])
  (.seq (.seq (.reg [.op (some 6) (.mov (.c (.int .i64 0))) none])
  (.block 0
  (.loop [7, 8, 9, 10, 13, 14, 15, 16, 17, 18, 19, 20, 21, 5, 11, 12, 6]
    (.seq (.seq (.reg [.op (some 7) (.mov (.t 6)) none,
        .op (some 8) (.mov (.t 0)) none,
        .op (some 9) (.len (.t 8)) none,
        .op (some 10) (.bin .lss (.t 7) (.t 9)) none])
      (.cond (.t 10)
      .skip
      (.exit 0)))
      (.seq (.block 1
      (.reg [.op (some 13) (.mov (.t 5)) none,
          .op (some 14) (.mov (.t 0)) none,
          .op (some 15) (.mov (.t 6)) none,
          .op (some 16) (.idxA 3 (.t 14) (.t 15)) none,
          .op (some 17) (.load true 3 (.t 16)) none,
          .op (some 18) (.mov (.t 1)) none,
          .op (some 19) (.call 28 [(.t 17), (.t 18)]) none,
          .op (some 20) (.mkF 26 1 3 [(.t 19)]) none,
          .op (some 21) (.app 26 3 40 [(.int .i64 0), (.int .i64 0), (.slice none 0 0)] (.t 13) (.t 20)) none,
          .op (some 5) (.mov (.t 21)) none]))
      (.reg [.op (some 11) (.mov (.t 6)) none,
        .op (some 12) (.bin .add (.t 11) (.c (.int .i64 1))) none,
        .op (some 6) (.mov (.t 12)) none]))))))
  (.seq (.reg [.op (some 22) (.mov (.t 5)) none,
    .op (some 4) (.mov (.t 22)) none])
  .ret))))
def A27 : Ann := { n := 23, own := [], frz := [], ord := [] }
theorem facts27 : factsOf Try.prog A27 Try.f27 = some (c27, 23, [(4, none)], false) := by kernel_rfl

/- 28 leasehold/leaseholdlaw20.shifted -/
def c28 : SCode := (.seq (.reg [.op (some 2) (.box 26 (.t 0)) none,
    .op (some 4) (.alloc 26 [(.int .i64 0), (.int .i64 0), (.slice none 0 0)]) none])
  (.seq (.regD [.op (some 6) (.fieldA 0 (.t 2)) none,
    .op (some 7) (.loadD false 1 (.t 6)) none,
    .op (some 8) (.fieldA 1 (.t 2)) none,
    .op (some 9) (.loadD false 1 (.t 8)) none,
    .op (some 10) (.fieldA 2 (.t 2)) none,
    .op (some 11) (.loadD false 1 (.t 10)) none,
    .op (some 12) (.mov (.t 1)) none,
    .op (some 13) (.callD 27 [(.t 11), (.t 12)]) none,
    .op (some 14) (.build [(.int .i64 0), (.int .i64 0), (.slice none 0 0)] [(0, 1, (.t 7)), (1, 1, (.t 9)), (2, 1, (.t 13))]) none,
    .op (some 5) (.allocD 26 [(.int .i64 0), (.int .i64 0), (.slice none 0 0)]) none,
    .op none (.storeD 3 (.t 5) (.t 14)) none])
  (.seq (.seq (.reg [.op (some 15) (.fieldA 0 (.t 2)) none,
    .op (some 16) (.load false 1 (.t 15)) none,
    .op (some 17) (.bin .eql (.t 16) (.c (.int .i64 2))) none,
    .op (some 18) (.mov (.t 17)) none,
    .op (some 19) (.fieldA 1 (.t 2)) (some (18, true)),
    .op (some 20) (.load false 1 (.t 19)) (some (18, true)),
    .op (some 21) (.bin .geq (.t 20) (.c (.int .i64 0))) (some (18, true)),
    .op (some 22) (.pick (.t 18) (.t 21) (.c (.bool false))) none,
    .op (some 23) (.mov (.t 22)) none,
    .op (some 24) (.fieldA 1 (.t 2)) (some (23, true)),
    .op (some 25) (.load false 1 (.t 24)) (some (23, true)),
    .op (some 26) (.mov (.t 1)) (some (23, true)),
    .op (some 27) (.bin .lss (.t 25) (.t 26)) (some (23, true)),
    .op (some 28) (.pick (.t 23) (.t 27) (.c (.bool false))) none])
  (.cond (.t 28)
  (.reg [.op (some 29) (.fieldA 1 (.t 5)) none,
      .op (some 30) (.load false 1 (.t 29)) none,
      .op (some 31) (.bin .add (.t 30) (.c (.int .i64 1))) none,
      .op (some 32) (.fieldA 1 (.t 5)) none,
      .op none (.store 1 (.t 32) (.t 31)) none])
  .skip))
  (.seq (.reg [.op (some 33) (.load true 3 (.t 5)) none,
    .op none (.store 3 (.t 4) (.t 33)) none])
  .ret))))
def A28 : Ann := { n := 34, own := [], frz := [], ord := [(1, [0, 1, 2, 3, 4, 5, 6, 7, 8, 9, 10], [[], [0], [], [2], [], [4], [], [4, 5, 6], [0, 1, 2, 3, 4, 5, 6, 7], [], [0, 1, 2, 3, 4, 5, 6, 7, 8, 9]])] }
theorem facts28 : factsOf Try.prog A28 Try.f28 = some (c28, 34, [(4, some (true, 3))], false) := by kernel_rfl

/- 29 leasehold/leaseholdlaw20.numbered -/
def c29 : SCode := (.seq (.reg [.op (some 4) (.box 30 (.t 0)) none,
    .op (some 8) (.alloc 30 [(.string ⟨#[]⟩), (.int .i64 0), (.int .i64 0), (.slice none 0 0), (.int .i64 0), (.int .i64 0), (.int .i64 0), (.slice none 0 0), (.slice none 0 0), (.slice none 0 0), (.slice none 0 0)]) none])
  (.seq (.reg [.op (some 10) (.mkF 69 0 4 []) none,
    .op (some 11) (.fieldA 9 (.t 4)) none,
    .op (some 12) (.load false 1 (.t 11)) none,
    .op (some 13) (.app 69 4 64 [(.slice none 0 0), (.int .i64 0), (.int .i64 0), (.slice none 0 0)] (.t 10) (.t 12)) none,
    .op (some 9) (.mov (.t 13)) none])
  (.seq (.reg [.op (some 14) (.mov (.t 9)) none,
    .op (some 15) (.mov (.t 1)) none,
    .op (some 16) (.mkF 75 0 7 []) none,
    .op (some 17) (.mov (.t 9)) none,
    .op (some 18) (.mov (.t 1)) none,
    .op (some 19) (.idxA 4 (.t 17) (.t 18)) none,
    .op (some 20) (.fieldA 0 (.t 19)) none,
    .op (some 21) (.load false 1 (.t 20)) none,
    .op (some 22) (.app 75 7 88 [(.int .i64 0), (.int .i64 0), (.int .i64 0), (.int .i64 0), (.int .i64 0), (.slice none 0 0), (.slice none 0 0)] (.t 16) (.t 21)) none,
    .op (some 23) (.idxA 4 (.t 14) (.t 15)) none,
    .op (some 24) (.fieldA 0 (.t 23)) none,
    .op none (.store 1 (.t 24) (.t 22)) none])
  (.seq (.reg [.op (some 25) (.mov (.t 9)) none,
    .op (some 26) (.mov (.t 1)) none,
    .op (some 27) (.idxA 4 (.t 25) (.t 26)) none,
    .op (some 28) (.fieldA 0 (.t 27)) none,
    .op (some 29) (.load false 1 (.t 28)) none,
    .op (some 30) (.mov (.t 2)) none,
    .op (some 31) (.mov (.t 3)) none,
    .op (some 32) (.idxA 7 (.t 29) (.t 30)) none,
    .op (some 33) (.fieldA 4 (.t 32)) none,
    .op none (.store 1 (.t 33) (.t 31)) none])
  (.seq (.reg [.op (some 34) (.mov (.t 9)) none,
    .op (some 35) (.fieldA 9 (.t 4)) none,
    .op none (.store 1 (.t 35) (.t 34)) none])
  (.seq (.reg [.op (some 36) (.load true 11 (.t 4)) none,
    .op none (.store 11 (.t 8) (.t 36)) none])
  .ret))))))
def A29 : Ann := { n := 37, own := [], frz := [], ord := [] }
theorem facts29 : factsOf Try.prog A29 Try.f29 = some (c29, 37, [(8, some (true, 11))], false) := by kernel_rfl

/- 30 leasehold/leaseholdref05.Int -/
def c30 : SCode := (.seq (.reg [.op (some 0) (.alloc 26 [(.int .i64 0), (.int .i64 0), (.slice none 0 0)]) none])
  (.seq (.reg [.op (some 1) (.build [(.int .i64 0), (.int .i64 0), (.slice none 0 0)] [(0, 1, (.c (.int .i64 1)))]) none,
    .op none (.store 3 (.t 0) (.t 1)) none])
  .ret))
def A30 : Ann := { n := 2, own := [], frz := [], ord := [] }
theorem facts30 : factsOf Try.prog A30 Try.f30 = some (c30, 2, [(0, some (true, 3))], false) := by kernel_rfl

/- 31 leasehold/leaseholdref05.Few -/
def c31 : SCode := (.seq (.reg [.op (some 2) (.box 26 (.t 0)) none,
    .op (some 4) (.mov (.c (.int .i64 0))) none])
  (.seq (.reg [.op (some 5) (.mov (.c (.int .i64 1))) none])
  (.seq (.seq (.reg [.op (some 6) (.mov (.c (.int .i64 0))) none])
  (.block 0
  (.loop [7, 8, 9, 10, 11, 12, 13, 14, 15, 16, 19, 20, 21, 22, 23, 24, 25, 26, 27, 28, 29, 5, 17, 18, 6]
    (.seq (.seq (.reg [.op (some 7) (.mov (.t 6)) none,
        .op (some 8) (.fieldA 2 (.t 2)) none,
        .op (some 9) (.load false 1 (.t 8)) none,
        .op (some 10) (.len (.t 9)) none,
        .op (some 11) (.bin .lss (.t 7) (.t 10)) none,
        .op (some 12) (.mov (.t 11)) none,
        .op (some 13) (.mov (.t 5)) (some (12, true)),
        .op (some 14) (.mov (.t 1)) (some (12, true)),
        .op (some 15) (.bin .leq (.t 13) (.t 14)) (some (12, true)),
        .op (some 16) (.pick (.t 12) (.t 15) (.c (.bool false))) none])
      (.cond (.t 16)
      .skip
      (.exit 0)))
      (.seq (.block 1
      (.reg [.op (some 19) (.mov (.t 5)) none,
          .op (some 20) (.fieldA 2 (.t 2)) none,
          .op (some 21) (.load false 1 (.t 20)) none,
          .op (some 22) (.mov (.t 6)) none,
          .op (some 23) (.idxA 3 (.t 21) (.t 22)) none,
          .op (some 24) (.load true 3 (.t 23)) none,
          .op (some 25) (.mov (.t 1)) none,
          .op (some 26) (.mov (.t 5)) none,
          .op (some 27) (.bin .sub (.t 25) (.t 26)) none,
          .op (some 28) (.call 31 [(.t 24), (.t 27)]) none,
          .op (some 29) (.bin .add (.t 19) (.t 28)) none,
          .op (some 5) (.mov (.t 29)) none]))
      (.reg [.op (some 17) (.mov (.t 6)) none,
        .op (some 18) (.bin .add (.t 17) (.c (.int .i64 1))) none,
        .op (some 6) (.mov (.t 18)) none]))))))
  (.seq (.reg [.op (some 30) (.mov (.t 5)) none,
    .op (some 4) (.mov (.t 30)) none])
  .ret))))
def A31 : Ann := { n := 31, own := [], frz := [], ord := [] }
theorem facts31 : factsOf Try.prog A31 Try.f31 = some (c31, 31, [(4, none)], false) := by kernel_rfl

/- 32 leasehold/digest.written -/
def c32 : SCode := (.seq (.reg [.op (some 4) (.mov (.c (.slice none 0 0))) none])
  (.seq (.reg [.op (some 6) (.mov (.t 0)) none,
    .op (some 7) (.build [(.slice none 0 0), (.pointer none)] [(1, 1, (.t 6))]) none,
    .op (some 8) (.box 114 (.t 7)) none,
    .op (some 5) (.mov (.t 8)) none])
  (.seq (.reg [.op (some 9) (.mov (.t 1)) none,
    .op (some 10) (.mov (.t 5)) none,
    .op (some 11) (.callV (.t 9) [(.t 10)]) none])
  (.seq (.reg [.op (some 12) (.mov (.t 5)) none,
    .op (some 13) (.nilck (.t 12)) none,
    .op (some 14) (.fieldA 0 (.t 13)) none,
    .op (some 15) (.load false 1 (.t 14)) none,
    .op (some 4) (.mov (.t 15)) none])
  .ret))))
def A32 : Ann := { n := 16, own := [], frz := [], ord := [] }
theorem facts32 : factsOf Try.prog A32 Try.f32 = some (c32, 16, [(4, none)], false) := by kernel_rfl

/- 33 leasehold/digest.Func$1 -/
def c33 : SCode := (.reg [.op (some 3) (.mov (.t 0)) none,
    .op (some 4) (.load true 11 (.t 1)) none,
    .op (some 5) (.call 34 [(.t 3), (.t 4)]) none])
def A33 : Ann := { n := 6, own := [], frz := [], ord := [] }
theorem facts33 : factsOf Try.prog A33 Try.f33 = some (c33, 6, [], false) := by kernel_rfl

/- 34 (*leasehold/digest.writer).signature -/
def c34 : SCode := (.seq (.reg [.op (some 3) (.box 30 (.t 1)) none])
  (.seq (.reg [.op (some 4) (.mov (.t 0)) none,
    .op (some 5) (.fieldA 0 (.t 3)) none,
    .op (some 6) (.load false 1 (.t 5)) none,
    .op (some 7) (.mkF 9 1 1 [(.t 6)]) none,
    .op (some 8) (.call 50 [(.t 4), (.t 7)]) none])
  (.seq (.reg [.op (some 9) (.mov (.t 0)) none,
    .op (some 10) (.fieldA 2 (.t 3)) none,
    .op (some 11) (.load false 1 (.t 10)) none,
    .op (some 12) (.mkF 3 1 1 [(.t 11)]) none,
    .op (some 13) (.call 55 [(.t 9), (.t 12)]) none])
  (.seq (.reg [.op (some 14) (.mov (.t 0)) none,
    .op (some 15) (.fieldA 3 (.t 3)) none,
    .op (some 16) (.load false 1 (.t 15)) none,
    .op (some 17) (.call 64 [(.t 14), (.t 16)]) none])
  (.seq (.reg [.op (some 18) (.mov (.t 0)) none,
    .op (some 19) (.fieldA 4 (.t 3)) none,
    .op (some 20) (.load false 1 (.t 19)) none,
    .op (some 21) (.mkF 3 1 1 [(.t 20)]) none,
    .op (some 22) (.call 55 [(.t 18), (.t 21)]) none])
  (.seq (.reg [.op (some 23) (.mov (.t 0)) none,
    .op (some 24) (.fieldA 8 (.t 3)) none,
    .op (some 25) (.load false 1 (.t 24)) none,
    .op (some 26) (.fieldA 4 (.t 3)) none,
    .op (some 27) (.load false 1 (.t 26)) none,
    .op (some 28) (.fieldA 8 (.t 3)) none,
    .op (some 29) (.load false 1 (.t 28)) none,
    .op (some 30) (.len (.t 29)) none,
    .op (some 31) (.mm false [(.t 27), (.t 30)]) none,
    .op (some 32) (.mm true [(.c (.int .i64 0)), (.t 31)]) none,
    .op (some 33) (.slc 3 (.t 25) none (some (.t 32))) none,
    .op (some 34) (.mov (.t 0)) none,
    .op (some 35) (.mkfn 45 [(.t 34)] []) none,
    .op (some 36) (.call 58 [(.t 23), (.t 33), (.t 35)]) none])
  (.seq (.reg [.op (some 37) (.mov (.t 0)) none,
    .op (some 38) (.fieldA 5 (.t 3)) none,
    .op (some 39) (.load true 3 (.t 38)) none,
    .op (some 40) (.call 45 [(.t 37), (.t 39)]) none])
  (.reg [.op (some 41) (.mov (.t 0)) none,
    .op (some 42) (.fieldA 10 (.t 3)) none,
    .op (some 43) (.load false 1 (.t 42)) none,
    .op (some 44) (.call 71 [(.t 41), (.t 43)]) none]))))))))
def A34 : Ann := { n := 45, own := [], frz := [], ord := [] }
theorem facts34 : factsOf Try.prog A34 Try.f34 = some (c34, 45, [], false) := by kernel_rfl

/- 35 leasehold/digest.Func$2 -/
def c35 : SCode := (.reg [.op (some 3) (.mov (.t 0)) none,
    .op (some 4) (.load true 11 (.t 1)) none,
    .op (some 5) (.call 36 [(.t 3), (.t 4)]) none])
def A35 : Ann := { n := 6, own := [], frz := [], ord := [] }
theorem facts35 : factsOf Try.prog A35 Try.f35 = some (c35, 6, [], false) := by kernel_rfl

/- 36 (*leasehold/digest.writer).function -/
def c36 : SCode := (.seq (.reg [.op (some 2) (.box 77 (.t 0)) none,
    .op (some 3) (.box 30 (.t 1)) none])
  (.seq (.reg [.op (some 4) (.load false 1 (.t 2)) none,
    .op (some 5) (.load true 11 (.t 3)) none,
    .op (some 6) (.call 34 [(.t 4), (.t 5)]) none])
  (.seq (.reg [.op (some 7) (.load false 1 (.t 2)) none,
    .op (some 8) (.fieldA 8 (.t 3)) none,
    .op (some 9) (.load false 1 (.t 8)) none,
    .op (some 10) (.load false 1 (.t 2)) none,
    .op (some 11) (.mkfn 45 [(.t 10)] []) none,
    .op (some 12) (.call 58 [(.t 7), (.t 9), (.t 11)]) none])
  (.reg [.op (some 13) (.load false 1 (.t 2)) none,
    .op (some 14) (.fieldA 9 (.t 3)) none,
    .op (some 15) (.load false 1 (.t 14)) none,
    .op (some 16) (.mkfn 73 [] [(.t 2)]) none,
    .op (some 17) (.call 72 [(.t 13), (.t 15), (.t 16)]) none]))))
def A36 : Ann := { n := 18, own := [], frz := [], ord := [] }
theorem facts36 : factsOf Try.prog A36 Try.f36 = some (c36, 18, [], false) := by kernel_rfl

/- 37 leasehold/leaseholdref20.Signature -/
def c37 : SCode := (.seq (.reg [.op (some 1) (.box 30 (.t 0)) none,
    .op (some 2) (.mov (.c (.slice none 0 0))) none])
  (.seq (.regD [.op (some 5) (.fieldA 0 (.t 1)) none,
    .op (some 6) (.loadD false 1 (.t 5)) none,
    .op (some 8) (.fieldA 2 (.t 1)) none,
    .op (some 9) (.loadD false 1 (.t 8)) none,
    .op (some 10) (.fieldA 3 (.t 1)) none,
    .op (some 11) (.loadD false 1 (.t 10)) none,
    .op (some 12) (.len (.t 11)) none,
    .op (some 7) (.callD 76 [(.t 6)]) none,
    .op (some 13) (.mkFD 3 2 1 [(.t 9), (.t 12)]) none,
    .op (some 14) (.callD 46 [(.t 13)]) none,
    .op (some 15) (.appD 5 1 1 [(.int .u8 0)] (.t 7) (.t 14)) none,
    .op (some 3) (.mov (.t 15)) none])
  (.seq (.seq (.reg [.op (some 4) (.mov (.c (.int .i64 0))) none])
  (.block 0
  (.loop [16, 17, 18, 19, 20, 23, 24, 25, 26, 27, 28, 29, 30, 31, 32, 33, 34, 35, 36, 37, 38, 3, 21, 22, 4]
    (.seq (.seq (.reg [.op (some 16) (.mov (.t 4)) none,
        .op (some 17) (.fieldA 3 (.t 1)) none,
        .op (some 18) (.load false 1 (.t 17)) none,
        .op (some 19) (.len (.t 18)) none,
        .op (some 20) (.bin .lss (.t 16) (.t 19)) none])
      (.cond (.t 20)
      .skip
      (.exit 0)))
      (.seq (.block 1
      (.regD [.op (some 23) (.mov (.t 3)) none,
          .op (some 24) (.fieldA 3 (.t 1)) none,
          .op (some 25) (.loadD false 1 (.t 24)) none,
          .op (some 26) (.mov (.t 4)) none,
          .op (some 27) (.idxA 2 (.t 25) (.t 26)) none,
          .op (some 28) (.fieldA 0 (.t 27)) none,
          .op (some 29) (.loadD false 1 (.t 28)) none,
          .op (some 30) (.fieldA 3 (.t 1)) none,
          .op (some 31) (.loadD false 1 (.t 30)) none,
          .op (some 32) (.mov (.t 4)) none,
          .op (some 33) (.idxA 2 (.t 31) (.t 32)) none,
          .op (some 34) (.fieldA 1 (.t 33)) none,
          .op (some 35) (.loadD false 1 (.t 34)) none,
          .op (some 36) (.mkFD 3 2 1 [(.t 29), (.t 35)]) none,
          .op (some 37) (.callD 46 [(.t 36)]) none,
          .op (some 38) (.appD 5 1 1 [(.int .u8 0)] (.t 23) (.t 37)) none,
          .op (some 3) (.mov (.t 38)) none]))
      (.reg [.op (some 21) (.mov (.t 4)) none,
        .op (some 22) (.bin .add (.t 21) (.c (.int .i64 1))) none,
        .op (some 4) (.mov (.t 22)) none]))))))
  (.seq (.regD [.op (some 39) (.mov (.t 3)) none,
    .op (some 40) (.fieldA 4 (.t 1)) none,
    .op (some 41) (.loadD false 1 (.t 40)) none,
    .op (some 44) (.loadD true 11 (.t 1)) none,
    .op (some 42) (.callD 77 [(.t 41)]) none,
    .op (some 43) (.appD 5 1 1 [(.int .u8 0)] (.t 39) (.t 42)) none,
    .op (some 45) (.callD 78 [(.t 44)]) none,
    .op (some 46) (.callD 47 [(.t 45)]) none,
    .op (some 47) (.appD 5 1 1 [(.int .u8 0)] (.t 43) (.t 46)) none,
    .op (some 3) (.mov (.t 47)) none])
  (.seq (.regD [.op (some 48) (.mov (.t 3)) none,
    .op (some 49) (.fieldA 5 (.t 1)) none,
    .op (some 50) (.loadD true 3 (.t 49)) none,
    .op (some 53) (.fieldA 10 (.t 1)) none,
    .op (some 54) (.loadD false 1 (.t 53)) none,
    .op (some 51) (.callD 21 [(.t 50)]) none,
    .op (some 52) (.appD 5 1 1 [(.int .u8 0)] (.t 48) (.t 51)) none,
    .op (some 55) (.callD 79 [(.t 54)]) none,
    .op (some 56) (.appD 5 1 1 [(.int .u8 0)] (.t 52) (.t 55)) none,
    .op (some 2) (.mov (.t 56)) none])
  .ret)))))
def A37 : Ann := { n := 57, own := [], frz := [], ord := [(1, [0, 1, 3, 4, 5, 6, 7, 2, 8, 9, 10, 11], [[], [0], [0, 1], [], [3], [], [5], [5, 6], [3, 4, 5, 6, 7], [0, 1, 2, 3, 4, 5, 6, 7, 8], [0, 1, 2, 3, 4, 5, 6, 7, 8, 9], [0, 1, 2, 3, 4, 5, 6, 7, 8, 9, 10]]), (5, [0, 1, 2, 3, 4, 5, 6, 7, 8, 9, 10, 11, 12, 13, 14, 15, 16], [[], [], [1], [], [1, 2, 3], [1, 2, 3, 4], [1, 2, 3, 4, 5], [], [7], [], [7, 8, 9], [7, 8, 9, 10], [7, 8, 9, 10, 11], [1, 2, 3, 4, 5, 6, 7, 8, 9, 10, 11, 12], [1, 2, 3, 4, 5, 6, 7, 8, 9, 10, 11, 12, 13], [0, 1, 2, 3, 4, 5, 6, 7, 8, 9, 10, 11, 12, 13, 14], [0, 1, 2, 3, 4, 5, 6, 7, 8, 9, 10, 11, 12, 13, 14, 15]]), (6, [0, 1, 2, 5, 3, 4, 6, 7, 8, 9], [[], [], [1], [1, 2], [0, 1, 2, 3], [], [0, 1, 2, 3, 4, 5], [0, 1, 2, 3, 4, 5, 6], [0, 1, 2, 3, 4, 5, 6, 7], [0, 1, 2, 3, 4, 5, 6, 7, 8]]), (7, [0, 1, 2, 5, 6, 3, 4, 7, 8, 9], [[], [], [1], [1, 2], [0, 1, 2, 3], [], [5], [0, 1, 2, 3, 4, 5, 6], [0, 1, 2, 3, 4, 5, 6, 7], [0, 1, 2, 3, 4, 5, 6, 7, 8]])] }
theorem facts37 : factsOf Try.prog A37 Try.f37 = some (c37, 57, [(2, none)], false) := by kernel_rfl

/- 38 leasehold/leaseholdref20.Whole -/
def c38 : SCode := (.seq (.reg [.op (some 1) (.box 30 (.t 0)) none,
    .op (some 2) (.mov (.c (.slice none 0 0))) none])
  (.seq (.regD [.op (some 8) (.loadD true 11 (.t 1)) none,
    .op (some 10) (.fieldA 8 (.t 1)) none,
    .op (some 11) (.loadD false 1 (.t 10)) none,
    .op (some 14) (.fieldA 9 (.t 1)) none,
    .op (some 15) (.loadD false 1 (.t 14)) none,
    .op (some 16) (.len (.t 15)) none,
    .op (some 9) (.callD 37 [(.t 8)]) none,
    .op (some 12) (.callD 47 [(.t 11)]) none,
    .op (some 13) (.appD 5 1 1 [(.int .u8 0)] (.t 9) (.t 12)) none,
    .op (some 17) (.callD 77 [(.t 16)]) none,
    .op (some 18) (.appD 5 1 1 [(.int .u8 0)] (.t 13) (.t 17)) none,
    .op (some 3) (.mov (.t 18)) none])
  (.seq (.seq (.reg [.op (some 4) (.mov (.c (.int .i64 0))) none])
  (.block 0
  (.loop [19, 20, 21, 22, 23, 26, 27, 28, 29, 30, 5, 31, 32, 33, 34, 35, 36, 3, 6, 37, 38, 39, 40, 41, 44, 45, 46, 47, 48, 7, 49, 50, 51, 52, 53, 54, 55, 56, 57, 58, 59, 60, 61, 62, 63, 64, 65, 66, 67, 68, 69, 70, 3, 42, 43, 6, 71, 72, 73, 74, 75, 76, 77, 78, 79, 80, 81, 82, 83, 84, 85, 3, 24, 25, 4]
    (.seq (.seq (.reg [.op (some 19) (.mov (.t 4)) none,
        .op (some 20) (.fieldA 9 (.t 1)) none,
        .op (some 21) (.load false 1 (.t 20)) none,
        .op (some 22) (.len (.t 21)) none,
        .op (some 23) (.bin .lss (.t 19) (.t 22)) none])
      (.cond (.t 23)
      .skip
      (.exit 0)))
      (.seq (.block 1
      (.seq (.reg [.op (some 26) (.fieldA 9 (.t 1)) none,
          .op (some 27) (.load false 1 (.t 26)) none,
          .op (some 28) (.mov (.t 4)) none,
          .op (some 29) (.idxA 4 (.t 27) (.t 28)) none,
          .op (some 30) (.load true 4 (.t 29)) none,
          .op (some 5) (.alloc 69 [(.slice none 0 0), (.int .i64 0), (.int .i64 0), (.slice none 0 0)]) none,
          .op none (.store 4 (.t 5) (.t 30)) none])
        (.seq (.reg [.op (some 31) (.mov (.t 3)) none,
          .op (some 32) (.fieldA 0 (.t 5)) none,
          .op (some 33) (.load false 1 (.t 32)) none,
          .op (some 34) (.len (.t 33)) none,
          .op (some 35) (.call 77 [(.t 34)]) none,
          .op (some 36) (.app 5 1 1 [(.int .u8 0)] (.t 31) (.t 35)) none,
          .op (some 3) (.mov (.t 36)) none])
        (.seq (.seq (.reg [.op (some 6) (.mov (.c (.int .i64 0))) none])
        (.block 2
        (.loop [37, 38, 39, 40, 41, 44, 45, 46, 47, 48, 7, 49, 50, 51, 52, 53, 54, 55, 56, 57, 58, 59, 60, 61, 62, 63, 64, 65, 66, 67, 68, 69, 70, 3, 42, 43, 6]
          (.seq (.seq (.reg [.op (some 37) (.mov (.t 6)) none,
              .op (some 38) (.fieldA 0 (.t 5)) none,
              .op (some 39) (.load false 1 (.t 38)) none,
              .op (some 40) (.len (.t 39)) none,
              .op (some 41) (.bin .lss (.t 37) (.t 40)) none])
            (.cond (.t 41)
            .skip
            (.exit 2)))
            (.seq (.block 3
            (.seq (.reg [.op (some 44) (.fieldA 0 (.t 5)) none,
                .op (some 45) (.load false 1 (.t 44)) none,
                .op (some 46) (.mov (.t 6)) none,
                .op (some 47) (.idxA 7 (.t 45) (.t 46)) none,
                .op (some 48) (.load true 7 (.t 47)) none,
                .op (some 7) (.alloc 75 [(.int .i64 0), (.int .i64 0), (.int .i64 0), (.int .i64 0), (.int .i64 0), (.slice none 0 0), (.slice none 0 0)]) none,
                .op none (.store 7 (.t 7) (.t 48)) none])
              (.regD [.op (some 49) (.mov (.t 3)) none,
                .op (some 50) (.fieldA 0 (.t 7)) none,
                .op (some 51) (.loadD false 1 (.t 50)) none,
                .op (some 52) (.fieldA 1 (.t 7)) none,
                .op (some 53) (.loadD false 1 (.t 52)) none,
                .op (some 54) (.fieldA 2 (.t 7)) none,
                .op (some 55) (.loadD false 1 (.t 54)) none,
                .op (some 56) (.fieldA 3 (.t 7)) none,
                .op (some 57) (.loadD false 1 (.t 56)) none,
                .op (some 58) (.fieldA 4 (.t 7)) none,
                .op (some 59) (.loadD false 1 (.t 58)) none,
                .op (some 63) (.fieldA 5 (.t 7)) none,
                .op (some 64) (.loadD false 1 (.t 63)) none,
                .op (some 67) (.fieldA 6 (.t 7)) none,
                .op (some 68) (.loadD false 1 (.t 67)) none,
                .op (some 60) (.mkFD 3 5 1 [(.t 51), (.t 53), (.t 55), (.t 57), (.t 59)]) none,
                .op (some 61) (.callD 46 [(.t 60)]) none,
                .op (some 62) (.appD 5 1 1 [(.int .u8 0)] (.t 49) (.t 61)) none,
                .op (some 65) (.callD 79 [(.t 64)]) none,
                .op (some 66) (.appD 5 1 1 [(.int .u8 0)] (.t 62) (.t 65)) none,
                .op (some 69) (.callD 47 [(.t 68)]) none,
                .op (some 70) (.appD 5 1 1 [(.int .u8 0)] (.t 66) (.t 69)) none,
                .op (some 3) (.mov (.t 70)) none])))
            (.reg [.op (some 42) (.mov (.t 6)) none,
              .op (some 43) (.bin .add (.t 42) (.c (.int .i64 1))) none,
              .op (some 6) (.mov (.t 43)) none]))))))
        (.regD [.op (some 71) (.mov (.t 3)) none,
          .op (some 72) (.fieldA 1 (.t 5)) none,
          .op (some 73) (.fieldA 0 (.t 72)) none,
          .op (some 74) (.loadD false 1 (.t 73)) none,
          .op (some 75) (.fieldA 1 (.t 5)) none,
          .op (some 76) (.fieldA 1 (.t 75)) none,
          .op (some 77) (.loadD false 1 (.t 76)) none,
          .op (some 81) (.fieldA 1 (.t 5)) none,
          .op (some 82) (.fieldA 2 (.t 81)) none,
          .op (some 83) (.loadD false 1 (.t 82)) none,
          .op (some 78) (.mkFD 3 2 1 [(.t 74), (.t 77)]) none,
          .op (some 79) (.callD 46 [(.t 78)]) none,
          .op (some 80) (.appD 5 1 1 [(.int .u8 0)] (.t 71) (.t 79)) none,
          .op (some 84) (.callD 79 [(.t 83)]) none,
          .op (some 85) (.appD 5 1 1 [(.int .u8 0)] (.t 80) (.t 84)) none,
          .op (some 3) (.mov (.t 85)) none])))))
      (.reg [.op (some 24) (.mov (.t 4)) none,
        .op (some 25) (.bin .add (.t 24) (.c (.int .i64 1))) none,
        .op (some 4) (.mov (.t 25)) none]))))))
  (.seq (.reg [.op (some 86) (.mov (.t 3)) none,
    .op (some 2) (.mov (.t 86)) none])
  .ret))))
def A38 : Ann := { n := 87, own := [], frz := [], ord := [(1, [0, 2, 3, 6, 7, 8, 1, 4, 5, 9, 10, 11], [[], [0], [], [2], [0, 1, 2, 3], [0, 1, 2, 3, 4], [], [6], [6, 7], [0, 1, 2, 3, 4, 5, 6, 7, 8], [0, 1, 2, 3, 4, 5, 6, 7, 8, 9], [0, 1, 2, 3, 4, 5, 6, 7, 8, 9, 10]]), (11, [0, 1, 2, 3, 4, 5, 6, 7, 8, 9, 10, 14, 15, 18, 19, 11, 12, 13, 16, 17, 20, 21, 22], [[], [], [1], [], [3], [], [5], [], [7], [], [9], [1, 2, 3, 4, 5, 6, 7, 8, 9, 10], [1, 2, 3, 4, 5, 6, 7, 8, 9, 10, 11], [0, 1, 2, 3, 4, 5, 6, 7, 8, 9, 10, 11, 12], [], [14], [0, 1, 2, 3, 4, 5, 6, 7, 8, 9, 10, 11, 12, 13, 14, 15], [0, 1, 2, 3, 4, 5, 6, 7, 8, 9, 10, 11, 12, 13, 14, 15, 16], [], [18], [0, 1, 2, 3, 4, 5, 6, 7, 8, 9, 10, 11, 12, 13, 14, 15, 16, 17, 18, 19], [0, 1, 2, 3, 4, 5, 6, 7, 8, 9, 10, 11, 12, 13, 14, 15, 16, 17, 18, 19, 20], [0, 1, 2, 3, 4, 5, 6, 7, 8, 9, 10, 11, 12, 13, 14, 15, 16, 17, 18, 19, 20, 21]]), (12, [0, 1, 2, 3, 4, 5, 6, 10, 11, 12, 7, 8, 9, 13, 14, 15], [[], [], [1], [1, 2], [], [4], [4, 5], [1, 2, 3, 4, 5, 6], [1, 2, 3, 4, 5, 6, 7], [0, 1, 2, 3, 4, 5, 6, 7, 8], [], [10], [10, 11], [0, 1, 2, 3, 4, 5, 6, 7, 8, 9, 10, 11, 12], [0, 1, 2, 3, 4, 5, 6, 7, 8, 9, 10, 11, 12, 13], [0, 1, 2, 3, 4, 5, 6, 7, 8, 9, 10, 11, 12, 13, 14]])] }
theorem facts38 : factsOf Try.prog A38 Try.f38 = some (c38, 87, [(2, none)], false) := by kernel_rfl

/- 39 leasehold/digest.fold[byte] -/
def c39 : SCode := (.seq (.reg [.op (some 4) (.mov (.c (.int .i64 0))) none])
  (.seq (.reg [.op (some 5) (.mov (.c (.int .i64 7))) none])
  (.seq (.seq (.reg [.op (some 8) (.mov (.t 0)) none,
    .op (some 9) (.len (.t 8)) none,
    .op (some 10) (.mov (.c (.int .i64 0))) none])
  (.block 0
  (.loop [11, 12, 13, 7, 14, 15, 16, 17, 18, 19, 20, 21, 5, 22, 10]
    (.seq (.reg [.op (some 11) (.bin .lss (.t 10) (.t 9)) none])
      (.seq (.cond (.t 11)
      .skip
      (.exit 0))
      (.seq (.block 1
      (.seq (.reg [.op (some 12) (.idxA 1 (.t 8) (.t 10)) none,
          .op (some 13) (.load false 1 (.t 12)) none,
          .op (some 7) (.mov (.t 13)) none])
        (.reg [.op (some 14) (.mov (.t 5)) none,
          .op (some 15) (.bin .mul (.t 14) (.c (.int .i64 1000003))) none,
          .op (some 16) (.mov (.t 1)) none,
          .op (some 17) (.mov (.t 7)) none,
          .op (some 18) (.callV (.t 16) [(.t 17)]) none,
          .op (some 19) (.bin .add (.t 15) (.t 18)) none,
          .op (some 20) (.bin .add (.t 19) (.c (.int .i64 1))) none,
          .op (some 21) (.bin .rem (.t 20) (.c (.int .i64 2147483647))) none,
          .op (some 5) (.mov (.t 21)) none])))
      (.reg [.op (some 22) (.bin .add (.t 10) (.c (.int .i64 1))) none,
        .op (some 10) (.mov (.t 22)) none])))))))
  (.seq (.reg [.op (some 23) (.mov (.t 5)) none,
    .op (some 4) (.mov (.t 23)) none])
  .ret))))
def A39 : Ann := { n := 24, own := [], frz := [], ord := [] }
theorem facts39 : factsOf Try.prog A39 Try.f39 = some (c39, 24, [(4, none)], false) := by kernel_rfl

/- 40 leasehold/digest.Sum$1 -/
def c40 : SCode := (.seq (.reg [.op (some 2) (.mov (.c (.int .i64 0))) none])
  (.seq (.reg [.op (some 3) (.mov (.t 0)) none,
    .op (some 4) (.conv .i64 (.t 3)) none,
    .op (some 2) (.mov (.t 4)) none])
  .ret))
def A40 : Ann := { n := 5, own := [], frz := [], ord := [] }
theorem facts40 : factsOf Try.prog A40 Try.f40 = some (c40, 5, [(2, none)], false) := by kernel_rfl

/- 41 leasehold/digest.fold[int] -/
def c41 : SCode := (.seq (.reg [.op (some 4) (.mov (.c (.int .i64 0))) none])
  (.seq (.reg [.op (some 5) (.mov (.c (.int .i64 7))) none])
  (.seq (.seq (.reg [.op (some 8) (.mov (.t 0)) none,
    .op (some 9) (.len (.t 8)) none,
    .op (some 10) (.mov (.c (.int .i64 0))) none])
  (.block 0
  (.loop [11, 12, 13, 7, 14, 15, 16, 17, 18, 19, 20, 21, 5, 22, 10]
    (.seq (.reg [.op (some 11) (.bin .lss (.t 10) (.t 9)) none])
      (.seq (.cond (.t 11)
      .skip
      (.exit 0))
      (.seq (.block 1
      (.seq (.reg [.op (some 12) (.idxA 1 (.t 8) (.t 10)) none,
          .op (some 13) (.load false 1 (.t 12)) none,
          .op (some 7) (.mov (.t 13)) none])
        (.reg [.op (some 14) (.mov (.t 5)) none,
          .op (some 15) (.bin .mul (.t 14) (.c (.int .i64 1000003))) none,
          .op (some 16) (.mov (.t 1)) none,
          .op (some 17) (.mov (.t 7)) none,
          .op (some 18) (.callV (.t 16) [(.t 17)]) none,
          .op (some 19) (.bin .add (.t 15) (.t 18)) none,
          .op (some 20) (.bin .add (.t 19) (.c (.int .i64 1))) none,
          .op (some 21) (.bin .rem (.t 20) (.c (.int .i64 2147483647))) none,
          .op (some 5) (.mov (.t 21)) none])))
      (.reg [.op (some 22) (.bin .add (.t 10) (.c (.int .i64 1))) none,
        .op (some 10) (.mov (.t 22)) none])))))))
  (.seq (.reg [.op (some 23) (.mov (.t 5)) none,
    .op (some 4) (.mov (.t 23)) none])
  .ret))))
def A41 : Ann := { n := 24, own := [], frz := [], ord := [] }
theorem facts41 : factsOf Try.prog A41 Try.f41 = some (c41, 24, [(4, none)], false) := by kernel_rfl

/- 42 leasehold/digest.Join$1 -/
def c42 : SCode := (.seq (.reg [.op (some 2) (.mov (.c (.int .i64 0))) none])
  (.seq (.reg [.op (some 3) (.mov (.t 0)) none,
    .op (some 4) (.bin .rem (.t 3) (.c (.int .i64 2147483647))) none,
    .op (some 5) (.bin .add (.t 4) (.c (.int .i64 2147483647))) none,
    .op (some 6) (.bin .rem (.t 5) (.c (.int .i64 2147483647))) none,
    .op (some 2) (.mov (.t 6)) none])
  .ret))
def A42 : Ann := { n := 7, own := [], frz := [], ord := [] }
theorem facts42 : factsOf Try.prog A42 Try.f42 = some (c42, 7, [(2, none)], false) := by kernel_rfl

/- 43 leasehold/leaseholdref20.mod -/
def c43 : SCode := (.seq (.reg [.op (some 2) (.mov (.c (.int .i64 0))) none])
  (.seq (.reg [.op (some 3) (.mov (.t 0)) none,
    .op (some 4) (.bin .rem (.t 3) (.c (.int .i64 2147483647))) none,
    .op (some 5) (.bin .add (.t 4) (.c (.int .i64 2147483647))) none,
    .op (some 6) (.bin .rem (.t 5) (.c (.int .i64 2147483647))) none,
    .op (some 2) (.mov (.t 6)) none])
  .ret))
def A43 : Ann := { n := 7, own := [], frz := [], ord := [] }
theorem facts43 : factsOf Try.prog A43 Try.f43 = some (c43, 7, [(2, none)], false) := by kernel_rfl

/- 44 leasehold/digest.Type$1 -/
def c44 : SCode := (.reg [.op (some 3) (.mov (.t 0)) none,
    .op (some 4) (.load true 3 (.t 1)) none,
    .op (some 5) (.call 45 [(.t 3), (.t 4)]) none])
def A44 : Ann := { n := 6, own := [], frz := [], ord := [] }
theorem facts44 : factsOf Try.prog A44 Try.f44 = some (c44, 6, [], false) := by kernel_rfl

/- 45 (*leasehold/digest.writer).typ -/
def c45 : SCode := (.seq (.reg [.op (some 3) (.box 26 (.t 1)) none])
  (.seq (.reg [.op (some 4) (.mov (.t 0)) none,
    .op (some 5) (.fieldA 0 (.t 3)) none,
    .op (some 6) (.load false 1 (.t 5)) none,
    .op (some 7) (.mkF 3 1 1 [(.t 6)]) none,
    .op (some 8) (.call 55 [(.t 4), (.t 7)]) none])
  (.seq (.seq (.reg [.op (some 9) (.mov (.t 0)) none,
    .op (some 10) (.load true 3 (.t 3)) none,
    .op (some 11) (.call 80 [(.t 9), (.t 10)]) none,
    .op (some 12) (.un .not (.t 11)) none])
  (.cond (.t 12)
  (.reg [.op (some 13) (.mov (.t 0)) none,
      .op (some 14) (.fieldA 1 (.t 3)) none,
      .op (some 15) (.load false 1 (.t 14)) none,
      .op (some 16) (.mkF 3 1 1 [(.t 15)]) none,
      .op (some 17) (.call 55 [(.t 13), (.t 16)]) none])
  .skip))
  (.reg [.op (some 18) (.mov (.t 0)) none,
    .op (some 19) (.fieldA 2 (.t 3)) none,
    .op (some 20) (.load false 1 (.t 19)) none,
    .op (some 21) (.mov (.t 0)) none,
    .op (some 22) (.mkfn 45 [(.t 21)] []) none,
    .op (some 23) (.call 58 [(.t 18), (.t 20), (.t 22)]) none]))))
def A45 : Ann := { n := 24, own := [], frz := [], ord := [] }
theorem facts45 : factsOf Try.prog A45 Try.f45 = some (c45, 24, [], false) := by kernel_rfl

/- 46 leasehold/leaseholdref20.Numbers -/
def c46 : SCode := (.seq (.reg [.op (some 2) (.mov (.c (.slice none 0 0))) none])
  (.seq (.reg [.op (some 3) (.mov (.c (.slice none 0 0))) none])
  (.seq (.seq (.reg [.op (some 4) (.mov (.c (.int .i64 0))) none])
  (.block 0
  (.loop [5, 6, 7, 8, 11, 12, 13, 14, 15, 16, 17, 3, 9, 10, 4]
    (.seq (.seq (.reg [.op (some 5) (.mov (.t 4)) none,
        .op (some 6) (.mov (.t 0)) none,
        .op (some 7) (.len (.t 6)) none,
        .op (some 8) (.bin .lss (.t 5) (.t 7)) none])
      (.cond (.t 8)
      .skip
      (.exit 0)))
      (.seq (.block 1
      (.reg [.op (some 11) (.mov (.t 3)) none,
          .op (some 12) (.mov (.t 0)) none,
          .op (some 13) (.mov (.t 4)) none,
          .op (some 14) (.idxA 1 (.t 12) (.t 13)) none,
          .op (some 15) (.load false 1 (.t 14)) none,
          .op (some 16) (.call 77 [(.t 15)]) none,
          .op (some 17) (.app 5 1 1 [(.int .u8 0)] (.t 11) (.t 16)) none,
          .op (some 3) (.mov (.t 17)) none]))
      (.reg [.op (some 9) (.mov (.t 4)) none,
        .op (some 10) (.bin .add (.t 9) (.c (.int .i64 1))) none,
        .op (some 4) (.mov (.t 10)) none]))))))
  (.seq (.reg [.op (some 18) (.mov (.t 3)) none,
    .op (some 2) (.mov (.t 18)) none])
  .ret))))
def A46 : Ann := { n := 19, own := [], frz := [], ord := [] }
theorem facts46 : factsOf Try.prog A46 Try.f46 = some (c46, 19, [(2, none)], false) := by kernel_rfl

/- 47 leasehold/leaseholdref20.Types -/
def c47 : SCode := (.seq (.reg [.op (some 2) (.mov (.c (.slice none 0 0))) none])
  (.seq (.reg [.op (some 5) (.mov (.t 0)) none,
    .op (some 6) (.len (.t 5)) none,
    .op (some 7) (.call 77 [(.t 6)]) none,
    .op (some 3) (.mov (.t 7)) none])
  (.seq (.seq (.reg [.op (some 4) (.mov (.c (.int .i64 0))) none])
  (.block 0
  (.loop [8, 9, 10, 11, 14, 15, 16, 17, 18, 19, 20, 3, 12, 13, 4]
    (.seq (.seq (.reg [.op (some 8) (.mov (.t 4)) none,
        .op (some 9) (.mov (.t 0)) none,
        .op (some 10) (.len (.t 9)) none,
        .op (some 11) (.bin .lss (.t 8) (.t 10)) none])
      (.cond (.t 11)
      .skip
      (.exit 0)))
      (.seq (.block 1
      (.reg [.op (some 14) (.mov (.t 3)) none,
          .op (some 15) (.mov (.t 0)) none,
          .op (some 16) (.mov (.t 4)) none,
          .op (some 17) (.idxA 3 (.t 15) (.t 16)) none,
          .op (some 18) (.load true 3 (.t 17)) none,
          .op (some 19) (.call 21 [(.t 18)]) none,
          .op (some 20) (.app 5 1 1 [(.int .u8 0)] (.t 14) (.t 19)) none,
          .op (some 3) (.mov (.t 20)) none]))
      (.reg [.op (some 12) (.mov (.t 4)) none,
        .op (some 13) (.bin .add (.t 12) (.c (.int .i64 1))) none,
        .op (some 4) (.mov (.t 13)) none]))))))
  (.seq (.reg [.op (some 21) (.mov (.t 3)) none,
    .op (some 2) (.mov (.t 21)) none])
  .ret))))
def A47 : Ann := { n := 22, own := [], frz := [], ord := [] }
theorem facts47 : factsOf Try.prog A47 Try.f47 = some (c47, 22, [(2, none)], false) := by kernel_rfl

/- 48 leasehold/digest.element[string] -/
def c48 : SCode := (.seq (.reg [.op (some 4) (.mov (.c (.string ⟨#[]⟩))) none,
    .op (some 5) (.mov (.c (.bool false))) none])
  (.seq (.seq (.reg [.op (some 7) (.mov (.t 1)) none,
    .op (some 8) (.bin .lss (.t 7) (.c (.int .i64 0))) none,
    .op (some 9) (.mov (.t 8)) none,
    .op (some 10) (.mov (.t 1)) (some (9, false)),
    .op (some 11) (.mov (.t 0)) (some (9, false)),
    .op (some 12) (.len (.t 11)) (some (9, false)),
    .op (some 13) (.bin .geq (.t 10) (.t 12)) (some (9, false)),
    .op (some 14) (.pick (.t 9) (.c (.bool true)) (.t 13)) none])
  (.cond (.t 14)
  (.seq (.reg [.op (some 6) (.mov (.c (.string ⟨#[]⟩))) none])
    (.seq (.reg [.op (some 15) (.mov (.t 6)) none,
      .op (some 4) (.mov (.t 15)) none,
      .op (some 5) (.mov (.c (.bool false))) none])
    .ret))
  .skip))
  (.seq (.reg [.op (some 16) (.mov (.t 0)) none,
    .op (some 17) (.mov (.t 1)) none,
    .op (some 18) (.idxA 1 (.t 16) (.t 17)) none,
    .op (some 19) (.load false 1 (.t 18)) none,
    .op (some 4) (.mov (.t 19)) none,
    .op (some 5) (.mov (.c (.bool true))) none])
  .ret)))
def A48 : Ann := { n := 20, own := [], frz := [], ord := [] }
theorem facts48 : factsOf Try.prog A48 Try.f48 = some (c48, 20, [(4, none), (5, none)], false) := by kernel_rfl

/- 49 leasehold/digest.Module$1 -/
def c49 : SCode := (.seq (.reg [.op (some 4) (.box 77 (.t 0)) none])
  (.seq (.reg [.op (some 5) (.load false 1 (.t 4)) none,
    .op (some 6) (.load false 1 (.t 1)) none,
    .op (some 7) (.mkF 9 1 1 [(.t 6)]) none,
    .op (some 8) (.call 50 [(.t 5), (.t 7)]) none])
  (.seq (.regD [.op (some 9) (.loadD false 1 (.t 4)) none,
    .op (some 10) (.fieldA 2 (.t 2)) none,
    .op (some 11) (.loadD false 1 (.t 10)) none,
    .op (some 12) (.loadD false 1 (.t 3)) none,
    .op (some 14) (.mkfn 54 [] [(.t 4)]) none,
    .op (some 13) (.callD 52 [(.t 11), (.t 12), (.fn 53)]) none,
    .op (some 15) (.callO 51 [(.t 9), (.t 13), (.t 14)]) none])
  (.seq (.regD [.op (some 16) (.loadD false 1 (.t 4)) none,
    .op (some 17) (.fieldA 5 (.t 2)) none,
    .op (some 18) (.loadD false 1 (.t 17)) none,
    .op (some 19) (.loadD false 1 (.t 3)) none,
    .op (some 21) (.mkfn 62 [] [(.t 4), (.t 2)]) none,
    .op (some 20) (.callD 60 [(.t 18), (.t 19), (.fn 61)]) none,
    .op (some 22) (.callO 59 [(.t 16), (.t 20), (.t 21)]) none])
  (.regD [.op (some 23) (.loadD false 1 (.t 4)) none,
    .op (some 24) (.fieldA 6 (.t 2)) none,
    .op (some 25) (.loadD false 1 (.t 24)) none,
    .op (some 26) (.loadD false 1 (.t 3)) none,
    .op (some 28) (.loadD false 1 (.t 4)) none,
    .op (some 29) (.mkfn 34 [(.t 28)] []) none,
    .op (some 27) (.callD 67 [(.t 25), (.t 26), (.fn 68)]) none,
    .op (some 30) (.callO 66 [(.t 23), (.t 27), (.t 29)]) none])))))
def A49 : Ann := { n := 31, own := [], frz := [], ord := [(2, [0, 1, 2, 3, 5, 4, 6], [[], [], [1], [], [1, 2, 3], [], [0, 1, 2, 3, 4, 5]]), (3, [0, 1, 2, 3, 5, 4, 6], [[], [], [1], [], [1, 2, 3], [], [0, 1, 2, 3, 4, 5]]), (4, [0, 1, 2, 3, 5, 6, 4, 7], [[], [], [1], [], [1, 2, 3], [], [5], [0, 1, 2, 3, 4, 5, 6]])], co := [15, 22, 30] }
theorem facts49 : factsOf Try.prog A49 Try.f49 = some (c49, 31, [], false) := by kernel_rfl

/- 50 (*leasehold/digest.writer).text -/
def c50 : SCode := (.seq (.reg [.op (some 6) (.mov (.t 1)) none,
    .op (some 7) (.len (.t 6)) none,
    .op (some 8) (.mov (.c (.int .i64 0))) none])
  (.block 0
  (.loop [9, 10, 11, 5, 12, 13, 14, 15, 16, 17, 18, 19, 20, 21, 22, 23, 24, 25, 26, 8]
    (.seq (.reg [.op (some 9) (.bin .lss (.t 8) (.t 7)) none])
      (.seq (.cond (.t 9)
      .skip
      (.exit 0))
      (.seq (.block 1
      (.seq (.reg [.op (some 10) (.idxA 1 (.t 6) (.t 8)) none,
          .op (some 11) (.load false 1 (.t 10)) none,
          .op (some 5) (.mov (.t 11)) none])
        (.seq (.reg [.op (some 12) (.mov (.t 0)) none,
          .op (some 13) (.mov (.t 5)) none,
          .op (some 14) (.lenS (.t 13)) none,
          .op (some 15) (.mkF 3 1 1 [(.t 14)]) none,
          .op (some 16) (.call 55 [(.t 12), (.t 15)]) none])
        (.reg [.op (some 17) (.mov (.t 0)) none,
          .op (some 18) (.mov (.t 0)) none,
          .op (some 19) (.nilck (.t 18)) none,
          .op (some 20) (.fieldA 0 (.t 19)) none,
          .op (some 21) (.load false 1 (.t 20)) none,
          .op (some 22) (.mov (.t 5)) none,
          .op (some 23) (.appS 5 (.t 21) (.t 22)) none,
          .op (some 24) (.nilck (.t 17)) none,
          .op (some 25) (.fieldA 0 (.t 24)) none,
          .op none (.store 1 (.t 25) (.t 23)) none]))))
      (.reg [.op (some 26) (.bin .add (.t 8) (.c (.int .i64 1))) none,
        .op (some 8) (.mov (.t 26)) none])))))))
def A50 : Ann := { n := 27, own := [], frz := [], ord := [] }
theorem facts50 : factsOf Try.prog A50 Try.f50 = some (c50, 27, [], false) := by kernel_rfl

/- 51 leasehold/digest.list[leasehold/api.Data] -/
def c51 : SCode := (.seq (.reg [.op (some 8) (.mov (.t 0)) none,
    .op (some 9) (.mov (.t 1)) none,
    .op (some 10) (.len (.t 9)) none,
    .op (some 11) (.mkF 3 1 1 [(.t 10)]) none,
    .op (some 12) (.call 55 [(.t 8), (.t 11)]) none])
  (.seq (.reg [.op (some 13) (.mov (.t 1)) none,
    .op (some 14) (.len (.t 13)) none,
    .op (some 15) (.mov (.c (.int .i64 0))) none])
  (.block 0
  (.loop [16, 17, 18, 7, 19, 20, 21, 22, 15]
    (.seq (.reg [.op (some 16) (.bin .lss (.t 15) (.t 14)) none])
      (.seq (.cond (.t 16)
      .skip
      (.exit 0))
      (.seq (.block 1
      (.seq (.reg [.op (some 17) (.idxA 5 (.t 13) (.t 15)) none,
          .op (some 18) (.load true 5 (.t 17)) none,
          .op (some 7) (.alloc 58 [(.string ⟨#[]⟩), (.int .i64 0), (.int .i64 0), (.slice none 0 0), (.int .i64 0)]) none,
          .op none (.store 5 (.t 7) (.t 18)) none])
        (.reg [.op (some 19) (.mov (.t 2)) none,
          .op (some 20) (.load true 5 (.t 7)) none,
          .op (some 21) (.callV (.t 19) [(.t 20)]) none])))
      (.reg [.op (some 22) (.bin .add (.t 15) (.c (.int .i64 1))) none,
        .op (some 15) (.mov (.t 22)) none]))))))))
def A51 : Ann := { n := 23, own := [], frz := [], ord := [] }
theorem facts51 : factsOf Try.prog A51 Try.f51 = some (c51, 23, [], false) := by kernel_rfl

/- 52 leasehold/digest.of[leasehold/api.Data] -/
def c52 : SCode := (.seq (.reg [.op (some 6) (.mov (.c (.slice none 0 0))) none])
  (.seq (.reg [.op (some 7) (.mov (.c (.slice none 0 0))) none])
  (.seq (.seq (.reg [.op (some 10) (.mov (.t 0)) none,
    .op (some 11) (.len (.t 10)) none,
    .op (some 12) (.mov (.c (.int .i64 0))) none])
  (.block 0
  (.loop [13, 14, 15, 9, 16, 17, 18, 19, 20, 21, 22, 23, 24, 7, 25, 12]
    (.seq (.reg [.op (some 13) (.bin .lss (.t 12) (.t 11)) none])
      (.seq (.cond (.t 13)
      .skip
      (.exit 0))
      (.seq (.block 1
      (.seq (.reg [.op (some 14) (.idxA 5 (.t 10) (.t 12)) none,
          .op (some 15) (.load true 5 (.t 14)) none,
          .op (some 9) (.alloc 58 [(.string ⟨#[]⟩), (.int .i64 0), (.int .i64 0), (.slice none 0 0), (.int .i64 0)]) none,
          .op none (.store 5 (.t 9) (.t 15)) none])
        (.seq (.reg [.op (some 16) (.mov (.t 2)) none,
          .op (some 17) (.load true 5 (.t 9)) none,
          .op (some 18) (.callV (.t 16) [(.t 17)]) none,
          .op (some 19) (.mov (.t 1)) none,
          .op (some 20) (.bin .eql (.t 18) (.t 19)) none])
        (.cond (.t 20)
        (.reg [.op (some 21) (.mov (.t 7)) none,
            .op (some 22) (.load true 5 (.t 9)) none,
            .op (some 23) (.mkF 58 1 5 [(.t 22)]) none,
            .op (some 24) (.app 58 5 64 [(.string ⟨#[]⟩), (.int .i64 0), (.int .i64 0), (.slice none 0 0), (.int .i64 0)] (.t 21) (.t 23)) none,
            .op (some 7) (.mov (.t 24)) none])
        .skip))))
      (.reg [.op (some 25) (.bin .add (.t 12) (.c (.int .i64 1))) none,
        .op (some 12) (.mov (.t 25)) none])))))))
  (.seq (.reg [.op (some 26) (.mov (.t 7)) none,
    .op (some 6) (.mov (.t 26)) none])
  .ret))))
def A52 : Ann := { n := 27, own := [], frz := [], ord := [] }
theorem facts52 : factsOf Try.prog A52 Try.f52 = some (c52, 27, [(6, none)], false) := by kernel_rfl

/- 53 leasehold/digest.Module$1$1 -/
def c53 : SCode := (.seq (.reg [.op (some 1) (.box 58 (.t 0)) none,
    .op (some 2) (.mov (.c (.int .i64 0))) none])
  (.seq (.reg [.op (some 3) (.fieldA 1 (.t 1)) none,
    .op (some 4) (.load false 1 (.t 3)) none,
    .op (some 2) (.mov (.t 4)) none])
  .ret))
def A53 : Ann := { n := 5, own := [], frz := [], ord := [] }
theorem facts53 : factsOf Try.prog A53 Try.f53 = some (c53, 5, [(2, none)], false) := by kernel_rfl

/- 54 leasehold/digest.Module$1$2 -/
def c54 : SCode := (.seq (.reg [.op (some 2) (.box 58 (.t 0)) none])
  (.seq (.reg [.op (some 3) (.load false 1 (.t 1)) none,
    .op (some 4) (.fieldA 0 (.t 2)) none,
    .op (some 5) (.load false 1 (.t 4)) none,
    .op (some 6) (.mkF 9 1 1 [(.t 5)]) none,
    .op (some 7) (.call 50 [(.t 3), (.t 6)]) none])
  (.seq (.reg [.op (some 8) (.load false 1 (.t 1)) none,
    .op (some 9) (.fieldA 2 (.t 2)) none,
    .op (some 10) (.load false 1 (.t 9)) none,
    .op (some 11) (.fieldA 4 (.t 2)) none,
    .op (some 12) (.load false 1 (.t 11)) none,
    .op (some 13) (.mkF 3 2 1 [(.t 10), (.t 12)]) none,
    .op (some 14) (.call 55 [(.t 8), (.t 13)]) none])
  (.reg [.op (some 15) (.load false 1 (.t 1)) none,
    .op (some 16) (.fieldA 3 (.t 2)) none,
    .op (some 17) (.load false 1 (.t 16)) none,
    .op (some 18) (.mkfn 57 [] [(.t 1)]) none,
    .op (some 19) (.call 56 [(.t 15), (.t 17), (.t 18)]) none]))))
def A54 : Ann := { n := 20, own := [], frz := [], ord := [] }
theorem facts54 : factsOf Try.prog A54 Try.f54 = some (c54, 20, [], false) := by kernel_rfl

/- 55 (*leasehold/digest.writer).num -/
def c55 : SCode := (.seq (.reg [.op (some 7) (.mov (.t 1)) none,
    .op (some 8) (.len (.t 7)) none,
    .op (some 9) (.mov (.c (.int .i64 0))) none])
  (.block 0
  (.loop [10, 11, 12, 5, 13, 14, 15, 6, 16, 17, 18, 19, 6, 20, 21, 24, 25, 26, 27, 28, 29, 30, 31, 32, 33, 34, 35, 36, 22, 23, 6, 37, 38, 39, 40, 41, 42, 43, 44, 45, 46, 47, 48, 9]
    (.seq (.reg [.op (some 10) (.bin .lss (.t 9) (.t 8)) none])
      (.seq (.cond (.t 10)
      .skip
      (.exit 0))
      (.seq (.block 1
      (.seq (.reg [.op (some 11) (.idxA 1 (.t 7) (.t 9)) none,
          .op (some 12) (.load false 1 (.t 11)) none,
          .op (some 5) (.mov (.t 12)) none])
        (.seq (.reg [.op (some 13) (.mov (.t 5)) none,
          .op (some 14) (.conv .u64 (.t 13)) none,
          .op (some 15) (.bin .shl (.t 14) (.c (.int .u64 1))) none,
          .op (some 6) (.mov (.t 15)) none])
        (.seq (.seq (.reg [.op (some 16) (.mov (.t 5)) none,
          .op (some 17) (.bin .lss (.t 16) (.c (.int .i64 0))) none])
        (.cond (.t 17)
        (.reg [.op (some 18) (.mov (.t 6)) none,
            .op (some 19) (.un .xor (.t 18)) none,
            .op (some 6) (.mov (.t 19)) none])
        .skip))
        (.seq (.block 2
        (.loop [20, 21, 24, 25, 26, 27, 28, 29, 30, 31, 32, 33, 34, 35, 36, 22, 23, 6]
          (.seq (.seq (.reg [.op (some 20) (.mov (.t 6)) none,
              .op (some 21) (.bin .geq (.t 20) (.c (.int .u64 128))) none])
            (.cond (.t 21)
            .skip
            (.exit 2)))
            (.seq (.block 3
            (.reg [.op (some 24) (.mov (.t 0)) none,
                .op (some 25) (.mov (.t 0)) none,
                .op (some 26) (.nilck (.t 25)) none,
                .op (some 27) (.fieldA 0 (.t 26)) none,
                .op (some 28) (.load false 1 (.t 27)) none,
                .op (some 29) (.mov (.t 6)) none,
                .op (some 30) (.bin .rem (.t 29) (.c (.int .u64 128))) none,
                .op (some 31) (.bin .add (.c (.int .u64 128)) (.t 30)) none,
                .op (some 32) (.conv .u8 (.t 31)) none,
                .op (some 33) (.mkF 5 1 1 [(.t 32)]) none,
                .op (some 34) (.app 5 1 1 [(.int .u8 0)] (.t 28) (.t 33)) none,
                .op (some 35) (.nilck (.t 24)) none,
                .op (some 36) (.fieldA 0 (.t 35)) none,
                .op none (.store 1 (.t 36) (.t 34)) none]))
            (.reg [.op (some 22) (.mov (.t 6)) none,
              .op (some 23) (.bin .quo (.t 22) (.c (.int .u64 128))) none,
              .op (some 6) (.mov (.t 23)) none])))))
        (.reg [.op (some 37) (.mov (.t 0)) none,
          .op (some 38) (.mov (.t 0)) none,
          .op (some 39) (.nilck (.t 38)) none,
          .op (some 40) (.fieldA 0 (.t 39)) none,
          .op (some 41) (.load false 1 (.t 40)) none,
          .op (some 42) (.mov (.t 6)) none,
          .op (some 43) (.conv .u8 (.t 42)) none,
          .op (some 44) (.mkF 5 1 1 [(.t 43)]) none,
          .op (some 45) (.app 5 1 1 [(.int .u8 0)] (.t 41) (.t 44)) none,
          .op (some 46) (.nilck (.t 37)) none,
          .op (some 47) (.fieldA 0 (.t 46)) none,
          .op none (.store 1 (.t 47) (.t 45)) none]))))))
      (.reg [.op (some 48) (.bin .add (.t 9) (.c (.int .i64 1))) none,
        .op (some 9) (.mov (.t 48)) none])))))))
def A55 : Ann := { n := 49, own := [], frz := [], ord := [] }
theorem facts55 : factsOf Try.prog A55 Try.f55 = some (c55, 49, [], false) := by kernel_rfl

/- 56 leasehold/digest.list[leasehold/api.Variant] -/
def c56 : SCode := (.seq (.reg [.op (some 8) (.mov (.t 0)) none,
    .op (some 9) (.mov (.t 1)) none,
    .op (some 10) (.len (.t 9)) none,
    .op (some 11) (.mkF 3 1 1 [(.t 10)]) none,
    .op (some 12) (.call 55 [(.t 8), (.t 11)]) none])
  (.seq (.reg [.op (some 13) (.mov (.t 1)) none,
    .op (some 14) (.len (.t 13)) none,
    .op (some 15) (.mov (.c (.int .i64 0))) none])
  (.block 0
  (.loop [16, 17, 18, 7, 19, 20, 21, 22, 15]
    (.seq (.reg [.op (some 16) (.bin .lss (.t 15) (.t 14)) none])
      (.seq (.cond (.t 16)
      .skip
      (.exit 0))
      (.seq (.block 1
      (.seq (.reg [.op (some 17) (.idxA 2 (.t 13) (.t 15)) none,
          .op (some 18) (.load true 2 (.t 17)) none,
          .op (some 7) (.alloc 60 [(.string ⟨#[]⟩), (.slice none 0 0)]) none,
          .op none (.store 2 (.t 7) (.t 18)) none])
        (.reg [.op (some 19) (.mov (.t 2)) none,
          .op (some 20) (.load true 2 (.t 7)) none,
          .op (some 21) (.callV (.t 19) [(.t 20)]) none])))
      (.reg [.op (some 22) (.bin .add (.t 15) (.c (.int .i64 1))) none,
        .op (some 15) (.mov (.t 22)) none]))))))))
def A56 : Ann := { n := 23, own := [], frz := [], ord := [] }
theorem facts56 : factsOf Try.prog A56 Try.f56 = some (c56, 23, [], false) := by kernel_rfl

/- 57 leasehold/digest.Module$1$2$1 -/
def c57 : SCode := (.seq (.reg [.op (some 2) (.box 60 (.t 0)) none])
  (.seq (.reg [.op (some 3) (.load false 1 (.t 1)) none,
    .op (some 4) (.fieldA 0 (.t 2)) none,
    .op (some 5) (.load false 1 (.t 4)) none,
    .op (some 6) (.mkF 9 1 1 [(.t 5)]) none,
    .op (some 7) (.call 50 [(.t 3), (.t 6)]) none])
  (.reg [.op (some 8) (.load false 1 (.t 1)) none,
    .op (some 9) (.fieldA 1 (.t 2)) none,
    .op (some 10) (.load false 1 (.t 9)) none,
    .op (some 11) (.load false 1 (.t 1)) none,
    .op (some 12) (.mkfn 45 [(.t 11)] []) none,
    .op (some 13) (.call 58 [(.t 8), (.t 10), (.t 12)]) none])))
def A57 : Ann := { n := 14, own := [], frz := [], ord := [] }
theorem facts57 : factsOf Try.prog A57 Try.f57 = some (c57, 14, [], false) := by kernel_rfl

/- 58 leasehold/digest.list[leasehold/api.Type] -/
def c58 : SCode := (.seq (.reg [.op (some 8) (.mov (.t 0)) none,
    .op (some 9) (.mov (.t 1)) none,
    .op (some 10) (.len (.t 9)) none,
    .op (some 11) (.mkF 3 1 1 [(.t 10)]) none,
    .op (some 12) (.call 55 [(.t 8), (.t 11)]) none])
  (.seq (.reg [.op (some 13) (.mov (.t 1)) none,
    .op (some 14) (.len (.t 13)) none,
    .op (some 15) (.mov (.c (.int .i64 0))) none])
  (.block 0
  (.loop [16, 17, 18, 7, 19, 20, 21, 22, 15]
    (.seq (.reg [.op (some 16) (.bin .lss (.t 15) (.t 14)) none])
      (.seq (.cond (.t 16)
      .skip
      (.exit 0))
      (.seq (.block 1
      (.seq (.reg [.op (some 17) (.idxA 3 (.t 13) (.t 15)) none,
          .op (some 18) (.load true 3 (.t 17)) none,
          .op (some 7) (.alloc 26 [(.int .i64 0), (.int .i64 0), (.slice none 0 0)]) none,
          .op none (.store 3 (.t 7) (.t 18)) none])
        (.reg [.op (some 19) (.mov (.t 2)) none,
          .op (some 20) (.load true 3 (.t 7)) none,
          .op (some 21) (.callV (.t 19) [(.t 20)]) none])))
      (.reg [.op (some 22) (.bin .add (.t 15) (.c (.int .i64 1))) none,
        .op (some 15) (.mov (.t 22)) none]))))))))
def A58 : Ann := { n := 23, own := [], frz := [], ord := [] }
theorem facts58 : factsOf Try.prog A58 Try.f58 = some (c58, 23, [], false) := by kernel_rfl

/- 59 leasehold/digest.list[leasehold/api.Impl] -/
def c59 : SCode := (.seq (.reg [.op (some 8) (.mov (.t 0)) none,
    .op (some 9) (.mov (.t 1)) none,
    .op (some 10) (.len (.t 9)) none,
    .op (some 11) (.mkF 3 1 1 [(.t 10)]) none,
    .op (some 12) (.call 55 [(.t 8), (.t 11)]) none])
  (.seq (.reg [.op (some 13) (.mov (.t 1)) none,
    .op (some 14) (.len (.t 13)) none,
    .op (some 15) (.mov (.c (.int .i64 0))) none])
  (.block 0
  (.loop [16, 17, 18, 7, 19, 20, 21, 22, 15]
    (.seq (.reg [.op (some 16) (.bin .lss (.t 15) (.t 14)) none])
      (.seq (.cond (.t 16)
      .skip
      (.exit 0))
      (.seq (.block 1
      (.seq (.reg [.op (some 17) (.idxA 8 (.t 13) (.t 15)) none,
          .op (some 18) (.load true 8 (.t 17)) none,
          .op (some 7) (.alloc 43 [(.int .i64 0), (.int .i64 0), (.int .i64 0), (.slice none 0 0), (.int .i64 0), (.int .i64 0), (.slice none 0 0), (.int .i64 0)]) none,
          .op none (.store 8 (.t 7) (.t 18)) none])
        (.reg [.op (some 19) (.mov (.t 2)) none,
          .op (some 20) (.load true 8 (.t 7)) none,
          .op (some 21) (.callV (.t 19) [(.t 20)]) none])))
      (.reg [.op (some 22) (.bin .add (.t 15) (.c (.int .i64 1))) none,
        .op (some 15) (.mov (.t 22)) none]))))))))
def A59 : Ann := { n := 23, own := [], frz := [], ord := [] }
theorem facts59 : factsOf Try.prog A59 Try.f59 = some (c59, 23, [], false) := by kernel_rfl

/- 60 leasehold/digest.of[leasehold/api.Impl] -/
def c60 : SCode := (.seq (.reg [.op (some 6) (.mov (.c (.slice none 0 0))) none])
  (.seq (.reg [.op (some 7) (.mov (.c (.slice none 0 0))) none])
  (.seq (.seq (.reg [.op (some 10) (.mov (.t 0)) none,
    .op (some 11) (.len (.t 10)) none,
    .op (some 12) (.mov (.c (.int .i64 0))) none])
  (.block 0
  (.loop [13, 14, 15, 9, 16, 17, 18, 19, 20, 21, 22, 23, 24, 7, 25, 12]
    (.seq (.reg [.op (some 13) (.bin .lss (.t 12) (.t 11)) none])
      (.seq (.cond (.t 13)
      .skip
      (.exit 0))
      (.seq (.block 1
      (.seq (.reg [.op (some 14) (.idxA 8 (.t 10) (.t 12)) none,
          .op (some 15) (.load true 8 (.t 14)) none,
          .op (some 9) (.alloc 43 [(.int .i64 0), (.int .i64 0), (.int .i64 0), (.slice none 0 0), (.int .i64 0), (.int .i64 0), (.slice none 0 0), (.int .i64 0)]) none,
          .op none (.store 8 (.t 9) (.t 15)) none])
        (.seq (.reg [.op (some 16) (.mov (.t 2)) none,
          .op (some 17) (.load true 8 (.t 9)) none,
          .op (some 18) (.callV (.t 16) [(.t 17)]) none,
          .op (some 19) (.mov (.t 1)) none,
          .op (some 20) (.bin .eql (.t 18) (.t 19)) none])
        (.cond (.t 20)
        (.reg [.op (some 21) (.mov (.t 7)) none,
            .op (some 22) (.load true 8 (.t 9)) none,
            .op (some 23) (.mkF 43 1 8 [(.t 22)]) none,
            .op (some 24) (.app 43 8 96 [(.int .i64 0), (.int .i64 0), (.int .i64 0), (.slice none 0 0), (.int .i64 0), (.int .i64 0), (.slice none 0 0), (.int .i64 0)] (.t 21) (.t 23)) none,
            .op (some 7) (.mov (.t 24)) none])
        .skip))))
      (.reg [.op (some 25) (.bin .add (.t 12) (.c (.int .i64 1))) none,
        .op (some 12) (.mov (.t 25)) none])))))))
  (.seq (.reg [.op (some 26) (.mov (.t 7)) none,
    .op (some 6) (.mov (.t 26)) none])
  .ret))))
def A60 : Ann := { n := 27, own := [], frz := [], ord := [] }
theorem facts60 : factsOf Try.prog A60 Try.f60 = some (c60, 27, [(6, none)], false) := by kernel_rfl

/- 61 leasehold/digest.Module$1$3 -/
def c61 : SCode := (.seq (.reg [.op (some 1) (.box 43 (.t 0)) none,
    .op (some 2) (.mov (.c (.int .i64 0))) none])
  (.seq (.reg [.op (some 3) (.fieldA 1 (.t 1)) none,
    .op (some 4) (.load false 1 (.t 3)) none,
    .op (some 2) (.mov (.t 4)) none])
  .ret))
def A61 : Ann := { n := 5, own := [], frz := [], ord := [] }
theorem facts61 : factsOf Try.prog A61 Try.f61 = some (c61, 5, [(2, none)], false) := by kernel_rfl

/- 62 leasehold/digest.Module$1$4 -/
def c62 : SCode := (.seq (.reg [.op (some 3) (.box 43 (.t 0)) none])
  (.seq (.reg [.op (some 6) (.load false 1 (.t 1)) none,
    .op (some 7) (.fieldA 0 (.t 3)) none,
    .op (some 8) (.load false 1 (.t 7)) none,
    .op (some 9) (.call 63 [(.t 6), (.t 8)]) none])
  (.seq (.reg [.op (some 10) (.load false 1 (.t 1)) none,
    .op (some 11) (.fieldA 2 (.t 3)) none,
    .op (some 12) (.load false 1 (.t 11)) none,
    .op (some 13) (.mkF 3 1 1 [(.t 12)]) none,
    .op (some 14) (.call 55 [(.t 10), (.t 13)]) none])
  (.seq (.reg [.op (some 15) (.load false 1 (.t 1)) none,
    .op (some 16) (.fieldA 3 (.t 3)) none,
    .op (some 17) (.load false 1 (.t 16)) none,
    .op (some 18) (.call 64 [(.t 15), (.t 17)]) none])
  (.seq (.reg [.op (some 19) (.load false 1 (.t 1)) none,
    .op (some 20) (.fieldA 4 (.t 3)) none,
    .op (some 21) (.load true 3 (.t 20)) none,
    .op (some 22) (.call 45 [(.t 19), (.t 21)]) none])
  (.seq (.reg [.op (some 24) (.fieldA 6 (.t 2)) none,
    .op (some 25) (.load false 1 (.t 24)) none,
    .op (some 26) (.fieldA 7 (.t 3)) none,
    .op (some 27) (.load false 1 (.t 26)) none,
    .op (some 28) (.call 65 [(.t 25), (.t 27)]) none,
    .op (some 23) (.mov (.t 28)) none,
    .op (some 29) (.extr (.t 23) 0) none,
    .op (some 30) (.extr (.t 23) 1) none,
    .op (some 4) (.alloc 30 [(.string ⟨#[]⟩), (.int .i64 0), (.int .i64 0), (.slice none 0 0), (.int .i64 0), (.int .i64 0), (.int .i64 0), (.slice none 0 0), (.slice none 0 0), (.slice none 0 0), (.slice none 0 0)]) none,
    .op none (.store 11 (.t 4) (.t 29)) none,
    .op (some 5) (.mov (.t 30)) none])
  (.reg [.op (some 31) (.load false 1 (.t 1)) none,
    .op (some 32) (.fieldA 0 (.t 4)) none,
    .op (some 33) (.load false 1 (.t 32)) none,
    .op (some 34) (.mkF 9 1 1 [(.t 33)]) none,
    .op (some 35) (.call 50 [(.t 31), (.t 34)]) none])))))))
def A62 : Ann := { n := 36, own := [], frz := [], ord := [] }
theorem facts62 : factsOf Try.prog A62 Try.f62 = some (c62, 36, [], false) := by kernel_rfl

/- 63 (*leasehold/digest.writer).trait -/
def c63 : SCode := (.seq (.seq (.reg [.op (some 6) (.mov (.t 0)) none,
    .op (some 7) (.nilck (.t 6)) none,
    .op (some 8) (.fieldA 1 (.t 7)) none,
    .op (some 9) (.load false 1 (.t 8)) none,
    .op (some 10) (.eqP false (.t 9) (.c (.pointer none))) none])
  (.cond (.t 10)
  (.seq (.reg [.op (some 11) (.mov (.t 0)) none,
      .op (some 12) (.mov (.t 1)) none,
      .op (some 13) (.mkF 3 1 1 [(.t 12)]) none,
      .op (some 14) (.call 55 [(.t 11), (.t 13)]) none])
    .ret)
  .skip))
  (.seq (.reg [.op (some 16) (.mov (.t 0)) none,
    .op (some 17) (.nilck (.t 16)) none,
    .op (some 18) (.fieldA 1 (.t 17)) none,
    .op (some 19) (.load false 1 (.t 18)) none,
    .op (some 20) (.nilck (.t 19)) none,
    .op (some 21) (.fieldA 3 (.t 20)) none,
    .op (some 22) (.load false 1 (.t 21)) none,
    .op (some 23) (.mov (.t 1)) none,
    .op (some 24) (.call 48 [(.t 22), (.t 23)]) none,
    .op (some 15) (.mov (.t 24)) none,
    .op (some 25) (.extr (.t 15) 0) none,
    .op (some 26) (.extr (.t 15) 1) none,
    .op (some 4) (.mov (.t 25)) none,
    .op (some 5) (.mov (.t 26)) none])
  (.reg [.op (some 27) (.mov (.t 0)) none,
    .op (some 28) (.mov (.t 4)) none,
    .op (some 29) (.mkF 9 1 1 [(.t 28)]) none,
    .op (some 30) (.call 50 [(.t 27), (.t 29)]) none])))
def A63 : Ann := { n := 31, own := [], frz := [], ord := [] }
theorem facts63 : factsOf Try.prog A63 Try.f63 = some (c63, 31, [], false) := by kernel_rfl

/- 64 (*leasehold/digest.writer).bounds -/
def c64 : SCode := (.seq (.reg [.op (some 2) (.box 77 (.t 0)) none])
  (.reg [.op (some 4) (.load false 1 (.t 2)) none,
    .op (some 5) (.mov (.t 1)) none,
    .op (some 6) (.mkfn 82 [] [(.t 2)]) none,
    .op (some 7) (.call 81 [(.t 4), (.t 5), (.t 6)]) none]))
def A64 : Ann := { n := 8, own := [], frz := [], ord := [] }
theorem facts64 : factsOf Try.prog A64 Try.f64 = some (c64, 8, [], false) := by kernel_rfl

/- 65 leasehold/digest.element[leasehold/api.Func] -/
def c65 : SCode := (.seq (.reg [.op (some 4) (.alloc 30 [(.string ⟨#[]⟩), (.int .i64 0), (.int .i64 0), (.slice none 0 0), (.int .i64 0), (.int .i64 0), (.int .i64 0), (.slice none 0 0), (.slice none 0 0), (.slice none 0 0), (.slice none 0 0)]) none,
    .op (some 5) (.mov (.c (.bool false))) none])
  (.seq (.seq (.reg [.op (some 7) (.mov (.t 1)) none,
    .op (some 8) (.bin .lss (.t 7) (.c (.int .i64 0))) none,
    .op (some 9) (.mov (.t 8)) none,
    .op (some 10) (.mov (.t 1)) (some (9, false)),
    .op (some 11) (.mov (.t 0)) (some (9, false)),
    .op (some 12) (.len (.t 11)) (some (9, false)),
    .op (some 13) (.bin .geq (.t 10) (.t 12)) (some (9, false)),
    .op (some 14) (.pick (.t 9) (.c (.bool true)) (.t 13)) none])
  (.cond (.t 14)
  (.seq (.reg [.op (some 6) (.alloc 30 [(.string ⟨#[]⟩), (.int .i64 0), (.int .i64 0), (.slice none 0 0), (.int .i64 0), (.int .i64 0), (.int .i64 0), (.slice none 0 0), (.slice none 0 0), (.slice none 0 0), (.slice none 0 0)]) none])
    (.seq (.reg [.op (some 15) (.load true 11 (.t 6)) none,
      .op none (.store 11 (.t 4) (.t 15)) none,
      .op (some 5) (.mov (.c (.bool false))) none])
    .ret))
  .skip))
  (.seq (.reg [.op (some 16) (.mov (.t 0)) none,
    .op (some 17) (.mov (.t 1)) none,
    .op (some 18) (.idxA 11 (.t 16) (.t 17)) none,
    .op (some 19) (.load true 11 (.t 18)) none,
    .op none (.store 11 (.t 4) (.t 19)) none,
    .op (some 5) (.mov (.c (.bool true))) none])
  .ret)))
def A65 : Ann := { n := 20, own := [], frz := [], ord := [] }
theorem facts65 : factsOf Try.prog A65 Try.f65 = some (c65, 20, [(4, some (true, 11)), (5, none)], false) := by kernel_rfl

/- 66 leasehold/digest.list[leasehold/api.Func] -/
def c66 : SCode := (.seq (.reg [.op (some 8) (.mov (.t 0)) none,
    .op (some 9) (.mov (.t 1)) none,
    .op (some 10) (.len (.t 9)) none,
    .op (some 11) (.mkF 3 1 1 [(.t 10)]) none,
    .op (some 12) (.call 55 [(.t 8), (.t 11)]) none])
  (.seq (.reg [.op (some 13) (.mov (.t 1)) none,
    .op (some 14) (.len (.t 13)) none,
    .op (some 15) (.mov (.c (.int .i64 0))) none])
  (.block 0
  (.loop [16, 17, 18, 7, 19, 20, 21, 22, 15]
    (.seq (.reg [.op (some 16) (.bin .lss (.t 15) (.t 14)) none])
      (.seq (.cond (.t 16)
      .skip
      (.exit 0))
      (.seq (.block 1
      (.seq (.reg [.op (some 17) (.idxA 11 (.t 13) (.t 15)) none,
          .op (some 18) (.load true 11 (.t 17)) none,
          .op (some 7) (.alloc 30 [(.string ⟨#[]⟩), (.int .i64 0), (.int .i64 0), (.slice none 0 0), (.int .i64 0), (.int .i64 0), (.int .i64 0), (.slice none 0 0), (.slice none 0 0), (.slice none 0 0), (.slice none 0 0)]) none,
          .op none (.store 11 (.t 7) (.t 18)) none])
        (.reg [.op (some 19) (.mov (.t 2)) none,
          .op (some 20) (.load true 11 (.t 7)) none,
          .op (some 21) (.callV (.t 19) [(.t 20)]) none])))
      (.reg [.op (some 22) (.bin .add (.t 15) (.c (.int .i64 1))) none,
        .op (some 15) (.mov (.t 22)) none]))))))))
def A66 : Ann := { n := 23, own := [], frz := [], ord := [] }
theorem facts66 : factsOf Try.prog A66 Try.f66 = some (c66, 23, [], false) := by kernel_rfl

/- 67 leasehold/digest.of[leasehold/api.Func] -/
def c67 : SCode := (.seq (.reg [.op (some 6) (.mov (.c (.slice none 0 0))) none])
  (.seq (.reg [.op (some 7) (.mov (.c (.slice none 0 0))) none])
  (.seq (.seq (.reg [.op (some 10) (.mov (.t 0)) none,
    .op (some 11) (.len (.t 10)) none,
    .op (some 12) (.mov (.c (.int .i64 0))) none])
  (.block 0
  (.loop [13, 14, 15, 9, 16, 17, 18, 19, 20, 21, 22, 23, 24, 7, 25, 12]
    (.seq (.reg [.op (some 13) (.bin .lss (.t 12) (.t 11)) none])
      (.seq (.cond (.t 13)
      .skip
      (.exit 0))
      (.seq (.block 1
      (.seq (.reg [.op (some 14) (.idxA 11 (.t 10) (.t 12)) none,
          .op (some 15) (.load true 11 (.t 14)) none,
          .op (some 9) (.alloc 30 [(.string ⟨#[]⟩), (.int .i64 0), (.int .i64 0), (.slice none 0 0), (.int .i64 0), (.int .i64 0), (.int .i64 0), (.slice none 0 0), (.slice none 0 0), (.slice none 0 0), (.slice none 0 0)]) none,
          .op none (.store 11 (.t 9) (.t 15)) none])
        (.seq (.reg [.op (some 16) (.mov (.t 2)) none,
          .op (some 17) (.load true 11 (.t 9)) none,
          .op (some 18) (.callV (.t 16) [(.t 17)]) none,
          .op (some 19) (.mov (.t 1)) none,
          .op (some 20) (.bin .eql (.t 18) (.t 19)) none])
        (.cond (.t 20)
        (.reg [.op (some 21) (.mov (.t 7)) none,
            .op (some 22) (.load true 11 (.t 9)) none,
            .op (some 23) (.mkF 30 1 11 [(.t 22)]) none,
            .op (some 24) (.app 30 11 176 [(.string ⟨#[]⟩), (.int .i64 0), (.int .i64 0), (.slice none 0 0), (.int .i64 0), (.int .i64 0), (.int .i64 0), (.slice none 0 0), (.slice none 0 0), (.slice none 0 0), (.slice none 0 0)] (.t 21) (.t 23)) none,
            .op (some 7) (.mov (.t 24)) none])
        .skip))))
      (.reg [.op (some 25) (.bin .add (.t 12) (.c (.int .i64 1))) none,
        .op (some 12) (.mov (.t 25)) none])))))))
  (.seq (.reg [.op (some 26) (.mov (.t 7)) none,
    .op (some 6) (.mov (.t 26)) none])
  .ret))))
def A67 : Ann := { n := 27, own := [], frz := [], ord := [] }
theorem facts67 : factsOf Try.prog A67 Try.f67 = some (c67, 27, [(6, none)], false) := by kernel_rfl

/- 68 leasehold/digest.Module$1$5 -/
def c68 : SCode := (.seq (.reg [.op (some 1) (.box 30 (.t 0)) none,
    .op (some 2) (.mov (.c (.int .i64 0))) none])
  (.seq (.reg [.op (some 3) (.fieldA 1 (.t 1)) none,
    .op (some 4) (.load false 1 (.t 3)) none,
    .op (some 2) (.mov (.t 4)) none])
  .ret))
def A68 : Ann := { n := 5, own := [], frz := [], ord := [] }
theorem facts68 : factsOf Try.prog A68 Try.f68 = some (c68, 5, [(2, none)], false) := by kernel_rfl

/- 69 leasehold/leaseholdref20.Offers -/
def c69 : SCode := (.seq (.reg [.op (some 2) (.box 37 (.t 0)) none,
    .op (some 4) (.mov (.c (.slice none 0 0))) none])
  (.seq (.reg [.op (some 5) (.mov (.c (.slice none 0 0))) none,
    .op (some 6) (.mov (.c (.slice none 0 0))) none,
    .op (some 7) (.mov (.c (.slice none 0 0))) none])
  (.seq (.reg [.op (some 13) (.mkF 3 3 1 [(.c (.int .i64 0)), (.c (.int .i64 0)), (.c (.int .i64 0))]) none,
    .op (some 8) (.mov (.t 13)) none])
  (.seq (.seq (.reg [.op (some 9) (.mov (.c (.int .i64 0))) none])
  (.block 0
  (.loop [14, 15, 16, 17, 18, 21, 22, 23, 24, 25, 26, 27, 28, 29, 30, 31, 32, 33, 34, 35, 36, 37, 5, 38, 39, 40, 41, 42, 19, 20, 9]
    (.seq (.seq (.reg [.op (some 14) (.mov (.t 9)) none,
        .op (some 15) (.fieldA 2 (.t 2)) none,
        .op (some 16) (.load false 1 (.t 15)) none,
        .op (some 17) (.len (.t 16)) none,
        .op (some 18) (.bin .lss (.t 14) (.t 17)) none])
      (.cond (.t 18)
      .skip
      (.exit 0)))
      (.seq (.block 1
      (.seq (.reg [.op (some 21) (.fieldA 2 (.t 2)) none,
          .op (some 22) (.load false 1 (.t 21)) none,
          .op (some 23) (.mov (.t 9)) none,
          .op (some 24) (.idxA 5 (.t 22) (.t 23)) none,
          .op (some 25) (.fieldA 1 (.t 24)) none,
          .op (some 26) (.load false 1 (.t 25)) none,
          .op (some 27) (.mov (.t 1)) none,
          .op (some 28) (.bin .eql (.t 26) (.t 27)) none])
        (.cond (.t 28)
        (.seq (.regD [.op (some 29) (.mov (.t 5)) none,
            .op (some 30) (.loadD true 8 (.t 2)) none,
            .op (some 31) (.fieldA 2 (.t 2)) none,
            .op (some 32) (.loadD false 1 (.t 31)) none,
            .op (some 33) (.mov (.t 9)) none,
            .op (some 34) (.idxA 5 (.t 32) (.t 33)) none,
            .op (some 35) (.loadD true 5 (.t 34)) none,
            .op (some 36) (.callD 83 [(.t 30), (.t 35)]) none,
            .op (some 37) (.appD 5 1 1 [(.int .u8 0)] (.t 29) (.t 36)) none,
            .op (some 5) (.mov (.t 37)) none])
          (.reg [.op (some 38) (.mov (.t 8)) none,
            .op (some 39) (.idxA 1 (.t 38) (.c (.int .i64 0))) none,
            .op (some 40) (.load false 1 (.t 39)) none,
            .op (some 41) (.bin .add (.t 40) (.c (.int .i64 1))) none,
            .op (some 42) (.idxA 1 (.t 38) (.c (.int .i64 0))) none,
            .op none (.store 1 (.t 42) (.t 41)) none]))
        .skip)))
      (.reg [.op (some 19) (.mov (.t 9)) none,
        .op (some 20) (.bin .add (.t 19) (.c (.int .i64 1))) none,
        .op (some 9) (.mov (.t 20)) none]))))))
  (.seq (.seq (.reg [.op (some 10) (.mov (.c (.int .i64 0))) none])
  (.block 2
  (.loop [43, 44, 45, 46, 47, 50, 51, 52, 53, 54, 55, 56, 57, 58, 59, 60, 61, 62, 63, 64, 65, 66, 6, 67, 68, 69, 70, 71, 48, 49, 10]
    (.seq (.seq (.reg [.op (some 43) (.mov (.t 10)) none,
        .op (some 44) (.fieldA 5 (.t 2)) none,
        .op (some 45) (.load false 1 (.t 44)) none,
        .op (some 46) (.len (.t 45)) none,
        .op (some 47) (.bin .lss (.t 43) (.t 46)) none])
      (.cond (.t 47)
      .skip
      (.exit 2)))
      (.seq (.block 3
      (.seq (.reg [.op (some 50) (.fieldA 5 (.t 2)) none,
          .op (some 51) (.load false 1 (.t 50)) none,
          .op (some 52) (.mov (.t 10)) none,
          .op (some 53) (.idxA 8 (.t 51) (.t 52)) none,
          .op (some 54) (.fieldA 1 (.t 53)) none,
          .op (some 55) (.load false 1 (.t 54)) none,
          .op (some 56) (.mov (.t 1)) none,
          .op (some 57) (.bin .eql (.t 55) (.t 56)) none])
        (.cond (.t 57)
        (.seq (.regD [.op (some 58) (.mov (.t 6)) none,
            .op (some 59) (.loadD true 8 (.t 2)) none,
            .op (some 60) (.fieldA 5 (.t 2)) none,
            .op (some 61) (.loadD false 1 (.t 60)) none,
            .op (some 62) (.mov (.t 10)) none,
            .op (some 63) (.idxA 8 (.t 61) (.t 62)) none,
            .op (some 64) (.loadD true 8 (.t 63)) none,
            .op (some 65) (.callD 84 [(.t 59), (.t 64)]) none,
            .op (some 66) (.appD 5 1 1 [(.int .u8 0)] (.t 58) (.t 65)) none,
            .op (some 6) (.mov (.t 66)) none])
          (.reg [.op (some 67) (.mov (.t 8)) none,
            .op (some 68) (.idxA 1 (.t 67) (.c (.int .i64 1))) none,
            .op (some 69) (.load false 1 (.t 68)) none,
            .op (some 70) (.bin .add (.t 69) (.c (.int .i64 1))) none,
            .op (some 71) (.idxA 1 (.t 67) (.c (.int .i64 1))) none,
            .op none (.store 1 (.t 71) (.t 70)) none]))
        .skip)))
      (.reg [.op (some 48) (.mov (.t 10)) none,
        .op (some 49) (.bin .add (.t 48) (.c (.int .i64 1))) none,
        .op (some 10) (.mov (.t 49)) none]))))))
  (.seq (.seq (.reg [.op (some 11) (.mov (.c (.int .i64 0))) none])
  (.block 4
  (.loop [72, 73, 74, 75, 76, 79, 80, 81, 82, 83, 84, 85, 86, 87, 88, 89, 90, 91, 92, 93, 94, 95, 7, 96, 97, 98, 99, 100, 77, 78, 11]
    (.seq (.seq (.reg [.op (some 72) (.mov (.t 11)) none,
        .op (some 73) (.fieldA 6 (.t 2)) none,
        .op (some 74) (.load false 1 (.t 73)) none,
        .op (some 75) (.len (.t 74)) none,
        .op (some 76) (.bin .lss (.t 72) (.t 75)) none])
      (.cond (.t 76)
      .skip
      (.exit 4)))
      (.seq (.block 5
      (.seq (.reg [.op (some 79) (.fieldA 6 (.t 2)) none,
          .op (some 80) (.load false 1 (.t 79)) none,
          .op (some 81) (.mov (.t 11)) none,
          .op (some 82) (.idxA 11 (.t 80) (.t 81)) none,
          .op (some 83) (.fieldA 1 (.t 82)) none,
          .op (some 84) (.load false 1 (.t 83)) none,
          .op (some 85) (.mov (.t 1)) none,
          .op (some 86) (.bin .eql (.t 84) (.t 85)) none])
        (.cond (.t 86)
        (.seq (.regD [.op (some 87) (.mov (.t 7)) none,
            .op (some 88) (.loadD true 8 (.t 2)) none,
            .op (some 89) (.fieldA 6 (.t 2)) none,
            .op (some 90) (.loadD false 1 (.t 89)) none,
            .op (some 91) (.mov (.t 11)) none,
            .op (some 92) (.idxA 11 (.t 90) (.t 91)) none,
            .op (some 93) (.loadD true 11 (.t 92)) none,
            .op (some 94) (.callD 85 [(.t 88), (.t 93)]) none,
            .op (some 95) (.appD 5 1 1 [(.int .u8 0)] (.t 87) (.t 94)) none,
            .op (some 7) (.mov (.t 95)) none])
          (.reg [.op (some 96) (.mov (.t 8)) none,
            .op (some 97) (.idxA 1 (.t 96) (.c (.int .i64 2))) none,
            .op (some 98) (.load false 1 (.t 97)) none,
            .op (some 99) (.bin .add (.t 98) (.c (.int .i64 1))) none,
            .op (some 100) (.idxA 1 (.t 96) (.c (.int .i64 2))) none,
            .op none (.store 1 (.t 100) (.t 99)) none]))
        .skip)))
      (.reg [.op (some 77) (.mov (.t 11)) none,
        .op (some 78) (.bin .add (.t 77) (.c (.int .i64 1))) none,
        .op (some 11) (.mov (.t 78)) none]))))))
  (.seq (.regD [.op (some 101) (.fieldA 0 (.t 2)) none,
    .op (some 102) (.loadD false 1 (.t 101)) none,
    .op (some 103) (.mov (.t 1)) none,
    .op (some 106) (.mov (.t 8)) none,
    .op (some 107) (.idxA 1 (.t 106) (.c (.int .i64 0))) none,
    .op (some 108) (.loadD false 1 (.t 107)) none,
    .op (some 111) (.mov (.t 5)) none,
    .op (some 104) (.callD 86 [(.t 102), (.t 103)]) none,
    .op (some 105) (.callD 76 [(.t 104)]) none,
    .op (some 109) (.callD 77 [(.t 108)]) none,
    .op (some 110) (.appD 5 1 1 [(.int .u8 0)] (.t 105) (.t 109)) none,
    .op (some 112) (.appD 5 1 1 [(.int .u8 0)] (.t 110) (.t 111)) none,
    .op (some 12) (.mov (.t 112)) none])
  (.seq (.reg [.op (some 113) (.mov (.t 12)) none,
    .op (some 114) (.mov (.t 8)) none,
    .op (some 115) (.idxA 1 (.t 114) (.c (.int .i64 1))) none,
    .op (some 116) (.load false 1 (.t 115)) none,
    .op (some 117) (.call 77 [(.t 116)]) none,
    .op (some 118) (.app 5 1 1 [(.int .u8 0)] (.t 113) (.t 117)) none,
    .op (some 119) (.mov (.t 6)) none,
    .op (some 120) (.app 5 1 1 [(.int .u8 0)] (.t 118) (.t 119)) none,
    .op (some 12) (.mov (.t 120)) none])
  (.seq (.reg [.op (some 121) (.mov (.t 12)) none,
    .op (some 122) (.mov (.t 8)) none,
    .op (some 123) (.idxA 1 (.t 122) (.c (.int .i64 2))) none,
    .op (some 124) (.load false 1 (.t 123)) none,
    .op (some 125) (.call 77 [(.t 124)]) none,
    .op (some 126) (.app 5 1 1 [(.int .u8 0)] (.t 121) (.t 125)) none,
    .op (some 127) (.mov (.t 7)) none,
    .op (some 128) (.app 5 1 1 [(.int .u8 0)] (.t 126) (.t 127)) none,
    .op (some 4) (.mov (.t 128)) none])
  .ret)))))))))
def A69 : Ann := { n := 129, own := [], frz := [], ord := [(7, [0, 1, 2, 3, 4, 5, 6, 7, 8, 9], [[], [], [], [2], [], [2, 3, 4], [2, 3, 4, 5], [1, 2, 3, 4, 5, 6], [0, 1, 2, 3, 4, 5, 6, 7], [0, 1, 2, 3, 4, 5, 6, 7, 8]]), (13, [0, 1, 2, 3, 4, 5, 6, 7, 8, 9], [[], [], [], [2], [], [2, 3, 4], [2, 3, 4, 5], [1, 2, 3, 4, 5, 6], [0, 1, 2, 3, 4, 5, 6, 7], [0, 1, 2, 3, 4, 5, 6, 7, 8]]), (19, [0, 1, 2, 3, 4, 5, 6, 7, 8, 9], [[], [], [], [2], [], [2, 3, 4], [2, 3, 4, 5], [1, 2, 3, 4, 5, 6], [0, 1, 2, 3, 4, 5, 6, 7], [0, 1, 2, 3, 4, 5, 6, 7, 8]]), (21, [0, 1, 2, 5, 6, 7, 10, 3, 4, 8, 9, 11, 12], [[], [0], [], [0, 1, 2], [0, 1, 2, 3], [], [5], [5, 6], [0, 1, 2, 3, 4, 5, 6, 7], [0, 1, 2, 3, 4, 5, 6, 7, 8], [], [0, 1, 2, 3, 4, 5, 6, 7, 8, 9, 10], [0, 1, 2, 3, 4, 5, 6, 7, 8, 9, 10, 11]])] }
theorem facts69 : factsOf Try.prog A69 Try.f69 = some (c69, 129, [(4, none)], false) := by kernel_rfl

/- 70 leasehold/leaseholdref05.SameAll -/
def c70 : SCode := (.seq (.reg [.op (some 4) (.mov (.c (.bool false))) none])
  (.seq (.seq (.reg [.op (some 6) (.mov (.t 0)) none,
    .op (some 7) (.len (.t 6)) none,
    .op (some 8) (.mov (.t 1)) none,
    .op (some 9) (.len (.t 8)) none,
    .op (some 10) (.bin .neq (.t 7) (.t 9)) none])
  (.cond (.t 10)
  (.seq (.reg [.op (some 4) (.mov (.c (.bool false))) none])
    .ret)
  .skip))
  (.seq (.seq (.reg [.op (some 5) (.mov (.c (.int .i64 0))) none])
  (.block 0
  (.loop [11, 12, 13, 14, 17, 18, 19, 20, 21, 22, 23, 24, 25, 26, 4, 15, 16, 5]
    (.seq (.seq (.reg [.op (some 11) (.mov (.t 5)) none,
        .op (some 12) (.mov (.t 0)) none,
        .op (some 13) (.len (.t 12)) none,
        .op (some 14) (.bin .lss (.t 11) (.t 13)) none])
      (.cond (.t 14)
      .skip
      (.exit 0)))
      (.seq (.block 1
      (.seq (.regD [.op (some 17) (.mov (.t 0)) none,
          .op (some 18) (.mov (.t 5)) none,
          .op (some 19) (.idxA 3 (.t 17) (.t 18)) none,
          .op (some 20) (.loadD true 3 (.t 19)) none,
          .op (some 21) (.mov (.t 1)) none,
          .op (some 22) (.mov (.t 5)) none,
          .op (some 23) (.idxA 3 (.t 21) (.t 22)) none,
          .op (some 24) (.loadD true 3 (.t 23)) none,
          .op (some 25) (.callD 25 [(.t 20), (.t 24)]) none,
          .op (some 26) (.un .not (.t 25)) none])
        (.cond (.t 26)
        (.seq (.reg [.op (some 4) (.mov (.c (.bool false))) none])
          .ret)
        .skip)))
      (.reg [.op (some 15) (.mov (.t 5)) none,
        .op (some 16) (.bin .add (.t 15) (.c (.int .i64 1))) none,
        .op (some 5) (.mov (.t 16)) none]))))))
  (.seq (.reg [.op (some 4) (.mov (.c (.bool true))) none])
  .ret))))
def A70 : Ann := { n := 27, own := [], frz := [], ord := [(6, [0, 1, 2, 3, 4, 5, 6, 7, 8, 9], [[], [], [0, 1], [0, 1, 2], [], [], [4, 5], [4, 5, 6], [0, 1, 2, 3, 4, 5, 6, 7], [0, 1, 2, 3, 4, 5, 6, 7, 8]])] }
theorem facts70 : factsOf Try.prog A70 Try.f70 = some (c70, 27, [(4, none)], false) := by kernel_rfl

/- 71 (*leasehold/digest.writer).nums -/
def c71 : SCode := (.seq (.reg [.op (some 2) (.box 77 (.t 0)) none])
  (.reg [.op (some 4) (.load false 1 (.t 2)) none,
    .op (some 5) (.mov (.t 1)) none,
    .op (some 6) (.mkfn 88 [] [(.t 2)]) none,
    .op (some 7) (.call 87 [(.t 4), (.t 5), (.t 6)]) none]))
def A71 : Ann := { n := 8, own := [], frz := [], ord := [] }
theorem facts71 : factsOf Try.prog A71 Try.f71 = some (c71, 8, [], false) := by kernel_rfl

/- 72 leasehold/digest.list[leasehold/api.Block] -/
def c72 : SCode := (.seq (.reg [.op (some 8) (.mov (.t 0)) none,
    .op (some 9) (.mov (.t 1)) none,
    .op (some 10) (.len (.t 9)) none,
    .op (some 11) (.mkF 3 1 1 [(.t 10)]) none,
    .op (some 12) (.call 55 [(.t 8), (.t 11)]) none])
  (.seq (.reg [.op (some 13) (.mov (.t 1)) none,
    .op (some 14) (.len (.t 13)) none,
    .op (some 15) (.mov (.c (.int .i64 0))) none])
  (.block 0
  (.loop [16, 17, 18, 7, 19, 20, 21, 22, 15]
    (.seq (.reg [.op (some 16) (.bin .lss (.t 15) (.t 14)) none])
      (.seq (.cond (.t 16)
      .skip
      (.exit 0))
      (.seq (.block 1
      (.seq (.reg [.op (some 17) (.idxA 4 (.t 13) (.t 15)) none,
          .op (some 18) (.load true 4 (.t 17)) none,
          .op (some 7) (.alloc 69 [(.slice none 0 0), (.int .i64 0), (.int .i64 0), (.slice none 0 0)]) none,
          .op none (.store 4 (.t 7) (.t 18)) none])
        (.reg [.op (some 19) (.mov (.t 2)) none,
          .op (some 20) (.load true 4 (.t 7)) none,
          .op (some 21) (.callV (.t 19) [(.t 20)]) none])))
      (.reg [.op (some 22) (.bin .add (.t 15) (.c (.int .i64 1))) none,
        .op (some 15) (.mov (.t 22)) none]))))))))
def A72 : Ann := { n := 23, own := [], frz := [], ord := [] }
theorem facts72 : factsOf Try.prog A72 Try.f72 = some (c72, 23, [], false) := by kernel_rfl

/- 73 (*leasehold/digest.writer).function$1 -/
def c73 : SCode := (.seq (.reg [.op (some 2) (.box 69 (.t 0)) none])
  (.seq (.reg [.op (some 3) (.load false 1 (.t 1)) none,
    .op (some 4) (.fieldA 0 (.t 2)) none,
    .op (some 5) (.load false 1 (.t 4)) none,
    .op (some 6) (.mkfn 75 [] [(.t 1)]) none,
    .op (some 7) (.call 74 [(.t 3), (.t 5), (.t 6)]) none])
  (.seq (.reg [.op (some 8) (.load false 1 (.t 1)) none,
    .op (some 9) (.fieldA 1 (.t 2)) none,
    .op (some 10) (.fieldA 0 (.t 9)) none,
    .op (some 11) (.load false 1 (.t 10)) none,
    .op (some 12) (.fieldA 1 (.t 2)) none,
    .op (some 13) (.fieldA 1 (.t 12)) none,
    .op (some 14) (.load false 1 (.t 13)) none,
    .op (some 15) (.mkF 3 2 1 [(.t 11), (.t 14)]) none,
    .op (some 16) (.call 55 [(.t 8), (.t 15)]) none])
  (.reg [.op (some 17) (.load false 1 (.t 1)) none,
    .op (some 18) (.fieldA 1 (.t 2)) none,
    .op (some 19) (.fieldA 2 (.t 18)) none,
    .op (some 20) (.load false 1 (.t 19)) none,
    .op (some 21) (.call 71 [(.t 17), (.t 20)]) none]))))
def A73 : Ann := { n := 22, own := [], frz := [], ord := [] }
theorem facts73 : factsOf Try.prog A73 Try.f73 = some (c73, 22, [], false) := by kernel_rfl

/- 74 leasehold/digest.list[leasehold/api.Ins] -/
def c74 : SCode := (.seq (.reg [.op (some 8) (.mov (.t 0)) none,
    .op (some 9) (.mov (.t 1)) none,
    .op (some 10) (.len (.t 9)) none,
    .op (some 11) (.mkF 3 1 1 [(.t 10)]) none,
    .op (some 12) (.call 55 [(.t 8), (.t 11)]) none])
  (.seq (.reg [.op (some 13) (.mov (.t 1)) none,
    .op (some 14) (.len (.t 13)) none,
    .op (some 15) (.mov (.c (.int .i64 0))) none])
  (.block 0
  (.loop [16, 17, 18, 7, 19, 20, 21, 22, 15]
    (.seq (.reg [.op (some 16) (.bin .lss (.t 15) (.t 14)) none])
      (.seq (.cond (.t 16)
      .skip
      (.exit 0))
      (.seq (.block 1
      (.seq (.reg [.op (some 17) (.idxA 7 (.t 13) (.t 15)) none,
          .op (some 18) (.load true 7 (.t 17)) none,
          .op (some 7) (.alloc 75 [(.int .i64 0), (.int .i64 0), (.int .i64 0), (.int .i64 0), (.int .i64 0), (.slice none 0 0), (.slice none 0 0)]) none,
          .op none (.store 7 (.t 7) (.t 18)) none])
        (.reg [.op (some 19) (.mov (.t 2)) none,
          .op (some 20) (.load true 7 (.t 7)) none,
          .op (some 21) (.callV (.t 19) [(.t 20)]) none])))
      (.reg [.op (some 22) (.bin .add (.t 15) (.c (.int .i64 1))) none,
        .op (some 15) (.mov (.t 22)) none]))))))))
def A74 : Ann := { n := 23, own := [], frz := [], ord := [] }
theorem facts74 : factsOf Try.prog A74 Try.f74 = some (c74, 23, [], false) := by kernel_rfl

/- 75 (*leasehold/digest.writer).function$1$1 -/
def c75 : SCode := (.seq (.reg [.op (some 2) (.box 75 (.t 0)) none])
  (.seq (.reg [.op (some 3) (.load false 1 (.t 1)) none,
    .op (some 4) (.fieldA 0 (.t 2)) none,
    .op (some 5) (.load false 1 (.t 4)) none,
    .op (some 6) (.fieldA 1 (.t 2)) none,
    .op (some 7) (.load false 1 (.t 6)) none,
    .op (some 8) (.fieldA 2 (.t 2)) none,
    .op (some 9) (.load false 1 (.t 8)) none,
    .op (some 10) (.fieldA 3 (.t 2)) none,
    .op (some 11) (.load false 1 (.t 10)) none,
    .op (some 12) (.fieldA 4 (.t 2)) none,
    .op (some 13) (.load false 1 (.t 12)) none,
    .op (some 14) (.mkF 3 5 1 [(.t 5), (.t 7), (.t 9), (.t 11), (.t 13)]) none,
    .op (some 15) (.call 55 [(.t 3), (.t 14)]) none])
  (.seq (.reg [.op (some 16) (.load false 1 (.t 1)) none,
    .op (some 17) (.fieldA 5 (.t 2)) none,
    .op (some 18) (.load false 1 (.t 17)) none,
    .op (some 19) (.call 71 [(.t 16), (.t 18)]) none])
  (.reg [.op (some 20) (.load false 1 (.t 1)) none,
    .op (some 21) (.fieldA 6 (.t 2)) none,
    .op (some 22) (.load false 1 (.t 21)) none,
    .op (some 23) (.load false 1 (.t 1)) none,
    .op (some 24) (.mkfn 45 [(.t 23)] []) none,
    .op (some 25) (.call 58 [(.t 20), (.t 22), (.t 24)]) none]))))
def A75 : Ann := { n := 26, own := [], frz := [], ord := [] }
theorem facts75 : factsOf Try.prog A75 Try.f75 = some (c75, 26, [], false) := by kernel_rfl

/- 76 leasehold/leaseholdref20.Text -/
def c76 : SCode := (.seq (.reg [.op (some 2) (.mov (.c (.slice none 0 0))) none])
  (.seq (.reg [.op (some 3) (.mov (.t 0)) none,
    .op (some 4) (.lenS (.t 3)) none,
    .op (some 5) (.call 77 [(.t 4)]) none,
    .op (some 6) (.mov (.t 0)) none,
    .op (some 7) (.s2b 5 (.t 6)) none,
    .op (some 8) (.app 5 1 1 [(.int .u8 0)] (.t 5) (.t 7)) none,
    .op (some 2) (.mov (.t 8)) none])
  .ret))
def A76 : Ann := { n := 9, own := [], frz := [], ord := [] }
theorem facts76 : factsOf Try.prog A76 Try.f76 = some (c76, 9, [(2, none)], false) := by kernel_rfl

/- 77 leasehold/leaseholdref20.Number -/
def c77 : SCode := (.seq (.reg [.op (some 2) (.mov (.c (.slice none 0 0))) none])
  (.seq (.reg [.op (some 5) (.mov (.t 0)) none,
    .op (some 6) (.conv .u64 (.t 5)) none,
    .op (some 7) (.bin .mul (.t 6) (.c (.int .u64 2))) none,
    .op (some 3) (.mov (.t 7)) none])
  (.seq (.seq (.reg [.op (some 8) (.mov (.t 0)) none,
    .op (some 9) (.bin .lss (.t 8) (.c (.int .i64 0))) none])
  (.cond (.t 9)
  (.reg [.op (some 10) (.mov (.t 0)) none,
      .op (some 11) (.bin .add (.t 10) (.c (.int .i64 1))) none,
      .op (some 12) (.un .neg (.t 11)) none,
      .op (some 13) (.conv .u64 (.t 12)) none,
      .op (some 14) (.bin .mul (.t 13) (.c (.int .u64 2))) none,
      .op (some 15) (.bin .add (.t 14) (.c (.int .u64 1))) none,
      .op (some 3) (.mov (.t 15)) none])
  .skip))
  (.seq (.reg [.op (some 4) (.mov (.c (.slice none 0 0))) none])
  (.seq (.block 0
  (.loop [16, 17, 18, 19, 20, 21, 22, 23, 24, 4, 25, 26, 3]
    (.seq (.seq (.reg [.op (some 16) (.mov (.t 3)) none,
        .op (some 17) (.bin .geq (.t 16) (.c (.int .u64 128))) none])
      (.cond (.t 17)
      .skip
      (.exit 0)))
      (.block 1
      (.seq (.reg [.op (some 18) (.mov (.t 4)) none,
          .op (some 19) (.mov (.t 3)) none,
          .op (some 20) (.bin .rem (.t 19) (.c (.int .u64 128))) none,
          .op (some 21) (.bin .add (.c (.int .u64 128)) (.t 20)) none,
          .op (some 22) (.conv .u8 (.t 21)) none,
          .op (some 23) (.mkF 5 1 1 [(.t 22)]) none,
          .op (some 24) (.app 5 1 1 [(.int .u8 0)] (.t 18) (.t 23)) none,
          .op (some 4) (.mov (.t 24)) none])
        (.reg [.op (some 25) (.mov (.t 3)) none,
          .op (some 26) (.bin .quo (.t 25) (.c (.int .u64 128))) none,
          .op (some 3) (.mov (.t 26)) none]))))))
  (.seq (.reg [.op (some 27) (.mov (.t 4)) none,
    .op (some 28) (.mov (.t 3)) none,
    .op (some 29) (.conv .u8 (.t 28)) none,
    .op (some 30) (.mkF 5 1 1 [(.t 29)]) none,
    .op (some 31) (.app 5 1 1 [(.int .u8 0)] (.t 27) (.t 30)) none,
    .op (some 2) (.mov (.t 31)) none])
  .ret))))))
def A77 : Ann := { n := 32, own := [], frz := [], ord := [] }
theorem facts77 : factsOf Try.prog A77 Try.f77 = some (c77, 32, [(2, none)], false) := by kernel_rfl

/- 78 leasehold/leaseholdref20.arguments -/
def c78 : SCode := (.seq (.reg [.op (some 1) (.box 30 (.t 0)) none,
    .op (some 2) (.mov (.c (.slice none 0 0))) none])
  (.seq (.reg [.op (some 3) (.fieldA 8 (.t 1)) none,
    .op (some 4) (.load false 1 (.t 3)) none,
    .op (some 5) (.fieldA 4 (.t 1)) none,
    .op (some 6) (.load false 1 (.t 5)) none,
    .op (some 7) (.fieldA 8 (.t 1)) none,
    .op (some 8) (.load false 1 (.t 7)) none,
    .op (some 9) (.len (.t 8)) none,
    .op (some 10) (.mm false [(.t 6), (.t 9)]) none,
    .op (some 11) (.mm true [(.c (.int .i64 0)), (.t 10)]) none,
    .op (some 12) (.slc 3 (.t 4) none (some (.t 11))) none,
    .op (some 2) (.mov (.t 12)) none])
  .ret))
def A78 : Ann := { n := 13, own := [], frz := [], ord := [] }
theorem facts78 : factsOf Try.prog A78 Try.f78 = some (c78, 13, [(2, none)], false) := by kernel_rfl

/- 79 leasehold/leaseholdref20.List -/
def c79 : SCode := (.seq (.reg [.op (some 2) (.mov (.c (.slice none 0 0))) none])
  (.seq (.reg [.op (some 3) (.mov (.t 0)) none,
    .op (some 4) (.len (.t 3)) none,
    .op (some 5) (.call 77 [(.t 4)]) none,
    .op (some 6) (.mov (.t 0)) none,
    .op (some 7) (.call 46 [(.t 6)]) none,
    .op (some 8) (.app 5 1 1 [(.int .u8 0)] (.t 5) (.t 7)) none,
    .op (some 2) (.mov (.t 8)) none])
  .ret))
def A79 : Ann := { n := 9, own := [], frz := [], ord := [] }
theorem facts79 : factsOf Try.prog A79 Try.f79 = some (c79, 9, [(2, none)], false) := by kernel_rfl

/- 80 (*leasehold/digest.writer).named -/
def c80 : SCode := (.seq (.reg [.op (some 3) (.box 26 (.t 1)) none,
    .op (some 4) (.mov (.c (.bool false))) none])
  (.seq (.seq (.reg [.op (some 9) (.mov (.t 0)) none,
    .op (some 10) (.nilck (.t 9)) none,
    .op (some 11) (.fieldA 1 (.t 10)) none,
    .op (some 12) (.load false 1 (.t 11)) none,
    .op (some 13) (.eqP false (.t 12) (.c (.pointer none))) none,
    .op (some 14) (.mov (.t 13)) none,
    .op (some 15) (.fieldA 0 (.t 3)) (some (14, false)),
    .op (some 16) (.load false 1 (.t 15)) (some (14, false)),
    .op (some 17) (.bin .neq (.t 16) (.c (.int .i64 2))) (some (14, false)),
    .op (some 18) (.pick (.t 14) (.c (.bool true)) (.t 17)) none])
  (.cond (.t 18)
  (.seq (.reg [.op (some 4) (.mov (.c (.bool false))) none])
    .ret)
  .skip))
  (.seq (.regD [.op (some 20) (.mov (.t 0)) none,
    .op (some 21) (.nilck (.t 20)) none,
    .op (some 22) (.fieldA 1 (.t 21)) none,
    .op (some 23) (.loadD false 1 (.t 22)) none,
    .op (some 24) (.nilck (.t 23)) none,
    .op (some 25) (.fieldA 2 (.t 24)) none,
    .op (some 26) (.loadD false 1 (.t 25)) none,
    .op (some 27) (.fieldA 1 (.t 3)) none,
    .op (some 28) (.loadD false 1 (.t 27)) none,
    .op (some 29) (.callD 89 [(.t 26), (.t 28)]) none,
    .op (some 19) (.mov (.t 29)) none,
    .op (some 30) (.extr (.t 19) 0) none,
    .op (some 31) (.extr (.t 19) 1) none,
    .op (some 5) (.allocD 58 [(.string ⟨#[]⟩), (.int .i64 0), (.int .i64 0), (.slice none 0 0), (.int .i64 0)]) none,
    .op none (.storeD 5 (.t 5) (.t 30)) none,
    .op (some 6) (.mov (.t 31)) none])
  (.seq (.seq (.reg [.op (some 32) (.mov (.t 6)) none])
  (.cond (.t 32)
  (.seq (.regD [.op (some 34) (.mov (.t 0)) none,
      .op (some 35) (.nilck (.t 34)) none,
      .op (some 36) (.fieldA 1 (.t 35)) none,
      .op (some 37) (.loadD false 1 (.t 36)) none,
      .op (some 38) (.nilck (.t 37)) none,
      .op (some 39) (.fieldA 0 (.t 38)) none,
      .op (some 40) (.loadD false 1 (.t 39)) none,
      .op (some 41) (.fieldA 1 (.t 5)) none,
      .op (some 42) (.loadD false 1 (.t 41)) none,
      .op (some 43) (.callD 48 [(.t 40), (.t 42)]) none,
      .op (some 33) (.mov (.t 43)) none,
      .op (some 44) (.extr (.t 33) 0) none,
      .op (some 45) (.extr (.t 33) 1) none,
      .op (some 7) (.mov (.t 44)) none,
      .op (some 8) (.mov (.t 45)) none])
    (.reg [.op (some 46) (.mov (.t 0)) none,
      .op (some 47) (.mov (.t 7)) none,
      .op (some 48) (.fieldA 0 (.t 5)) none,
      .op (some 49) (.load false 1 (.t 48)) none,
      .op (some 50) (.mkF 9 2 1 [(.t 47), (.t 49)]) none,
      .op (some 51) (.call 50 [(.t 46), (.t 50)]) none]))
  .skip))
  (.seq (.reg [.op (some 52) (.mov (.t 6)) none,
    .op (some 4) (.mov (.t 52)) none])
  .ret)))))
def A80 : Ann := { n := 53, own := [], frz := [], ord := [(3, [0, 1, 2, 3, 4, 5, 6, 7, 8, 9, 10, 11, 12, 13, 14, 15], [[], [0], [0, 1], [0, 1, 2], [0, 1, 2, 3], [0, 1, 2, 3, 4], [0, 1, 2, 3, 4, 5], [], [7], [0, 1, 2, 3, 4, 5, 6, 7, 8], [0, 1, 2, 3, 4, 5, 6, 7, 8, 9], [0, 1, 2, 3, 4, 5, 6, 7, 8, 9, 10], [0, 1, 2, 3, 4, 5, 6, 7, 8, 9, 10], [], [0, 1, 2, 3, 4, 5, 6, 7, 8, 9, 10, 11, 13], [0, 1, 2, 3, 4, 5, 6, 7, 8, 9, 10, 11, 12, 13, 14]]), (5, [0, 1, 2, 3, 4, 5, 6, 7, 8, 9, 10, 11, 12, 13, 14], [[], [0], [0, 1], [0, 1, 2], [0, 1, 2, 3], [0, 1, 2, 3, 4], [0, 1, 2, 3, 4, 5], [], [7], [0, 1, 2, 3, 4, 5, 6, 7, 8], [0, 1, 2, 3, 4, 5, 6, 7, 8, 9], [0, 1, 2, 3, 4, 5, 6, 7, 8, 9, 10], [0, 1, 2, 3, 4, 5, 6, 7, 8, 9, 10], [0, 1, 2, 3, 4, 5, 6, 7, 8, 9, 10, 11], [0, 1, 2, 3, 4, 5, 6, 7, 8, 9, 10, 11, 12, 13]])] }
theorem facts80 : factsOf Try.prog A80 Try.f80 = some (c80, 53, [(4, none)], false) := by kernel_rfl

/- 81 leasehold/digest.list[leasehold/api.Bound] -/
def c81 : SCode := (.seq (.reg [.op (some 8) (.mov (.t 0)) none,
    .op (some 9) (.mov (.t 1)) none,
    .op (some 10) (.len (.t 9)) none,
    .op (some 11) (.mkF 3 1 1 [(.t 10)]) none,
    .op (some 12) (.call 55 [(.t 8), (.t 11)]) none])
  (.seq (.reg [.op (some 13) (.mov (.t 1)) none,
    .op (some 14) (.len (.t 13)) none,
    .op (some 15) (.mov (.c (.int .i64 0))) none])
  (.block 0
  (.loop [16, 17, 18, 7, 19, 20, 21, 22, 15]
    (.seq (.reg [.op (some 16) (.bin .lss (.t 15) (.t 14)) none])
      (.seq (.cond (.t 16)
      .skip
      (.exit 0))
      (.seq (.block 1
      (.seq (.reg [.op (some 17) (.idxA 2 (.t 13) (.t 15)) none,
          .op (some 18) (.load true 2 (.t 17)) none,
          .op (some 7) (.alloc 122 [(.int .i64 0), (.int .i64 0)]) none,
          .op none (.store 2 (.t 7) (.t 18)) none])
        (.reg [.op (some 19) (.mov (.t 2)) none,
          .op (some 20) (.load true 2 (.t 7)) none,
          .op (some 21) (.callV (.t 19) [(.t 20)]) none])))
      (.reg [.op (some 22) (.bin .add (.t 15) (.c (.int .i64 1))) none,
        .op (some 15) (.mov (.t 22)) none]))))))))
def A81 : Ann := { n := 23, own := [], frz := [], ord := [] }
theorem facts81 : factsOf Try.prog A81 Try.f81 = some (c81, 23, [], false) := by kernel_rfl

/- 82 (*leasehold/digest.writer).bounds$1 -/
def c82 : SCode := (.seq (.reg [.op (some 2) (.box 122 (.t 0)) none])
  (.seq (.reg [.op (some 3) (.load false 1 (.t 1)) none,
    .op (some 4) (.fieldA 0 (.t 2)) none,
    .op (some 5) (.load false 1 (.t 4)) none,
    .op (some 6) (.mkF 3 1 1 [(.t 5)]) none,
    .op (some 7) (.call 55 [(.t 3), (.t 6)]) none])
  (.reg [.op (some 8) (.load false 1 (.t 1)) none,
    .op (some 9) (.fieldA 1 (.t 2)) none,
    .op (some 10) (.load false 1 (.t 9)) none,
    .op (some 11) (.call 63 [(.t 8), (.t 10)]) none])))
def A82 : Ann := { n := 12, own := [], frz := [], ord := [] }
theorem facts82 : factsOf Try.prog A82 Try.f82 = some (c82, 12, [], false) := by kernel_rfl

/- 83 leasehold/leaseholdref20.data -/
def c83 : SCode := (.seq (.reg [.op (some 2) (.box 37 (.t 0)) none,
    .op (some 3) (.box 58 (.t 1)) none,
    .op (some 4) (.mov (.c (.slice none 0 0))) none])
  (.seq (.regD [.op (some 7) (.fieldA 0 (.t 3)) none,
    .op (some 8) (.loadD false 1 (.t 7)) none,
    .op (some 10) (.fieldA 2 (.t 3)) none,
    .op (some 11) (.loadD false 1 (.t 10)) none,
    .op (some 12) (.fieldA 4 (.t 3)) none,
    .op (some 13) (.loadD false 1 (.t 12)) none,
    .op (some 14) (.fieldA 3 (.t 3)) none,
    .op (some 15) (.loadD false 1 (.t 14)) none,
    .op (some 16) (.len (.t 15)) none,
    .op (some 9) (.callD 76 [(.t 8)]) none,
    .op (some 17) (.mkFD 3 3 1 [(.t 11), (.t 13), (.t 16)]) none,
    .op (some 18) (.callD 46 [(.t 17)]) none,
    .op (some 19) (.appD 5 1 1 [(.int .u8 0)] (.t 9) (.t 18)) none,
    .op (some 5) (.mov (.t 19)) none])
  (.seq (.seq (.reg [.op (some 6) (.mov (.c (.int .i64 0))) none])
  (.block 0
  (.loop [20, 21, 22, 23, 24, 27, 28, 29, 30, 31, 32, 33, 34, 35, 36, 37, 38, 39, 40, 41, 42, 43, 44, 5, 25, 26, 6]
    (.seq (.seq (.reg [.op (some 20) (.mov (.t 6)) none,
        .op (some 21) (.fieldA 3 (.t 3)) none,
        .op (some 22) (.load false 1 (.t 21)) none,
        .op (some 23) (.len (.t 22)) none,
        .op (some 24) (.bin .lss (.t 20) (.t 23)) none])
      (.cond (.t 24)
      .skip
      (.exit 0)))
      (.seq (.block 1
      (.regD [.op (some 27) (.mov (.t 5)) none,
          .op (some 28) (.fieldA 3 (.t 3)) none,
          .op (some 29) (.loadD false 1 (.t 28)) none,
          .op (some 30) (.mov (.t 6)) none,
          .op (some 31) (.idxA 2 (.t 29) (.t 30)) none,
          .op (some 32) (.fieldA 0 (.t 31)) none,
          .op (some 33) (.loadD false 1 (.t 32)) none,
          .op (some 36) (.loadD true 8 (.t 2)) none,
          .op (some 37) (.fieldA 3 (.t 3)) none,
          .op (some 38) (.loadD false 1 (.t 37)) none,
          .op (some 39) (.mov (.t 6)) none,
          .op (some 40) (.idxA 2 (.t 38) (.t 39)) none,
          .op (some 41) (.fieldA 1 (.t 40)) none,
          .op (some 42) (.loadD false 1 (.t 41)) none,
          .op (some 34) (.callD 76 [(.t 33)]) none,
          .op (some 35) (.appD 5 1 1 [(.int .u8 0)] (.t 27) (.t 34)) none,
          .op (some 43) (.callD 90 [(.t 36), (.t 42)]) none,
          .op (some 44) (.appD 5 1 1 [(.int .u8 0)] (.t 35) (.t 43)) none,
          .op (some 5) (.mov (.t 44)) none]))
      (.reg [.op (some 25) (.mov (.t 6)) none,
        .op (some 26) (.bin .add (.t 25) (.c (.int .i64 1))) none,
        .op (some 6) (.mov (.t 26)) none]))))))
  (.seq (.reg [.op (some 45) (.mov (.t 5)) none,
    .op (some 4) (.mov (.t 45)) none])
  .ret))))
def A83 : Ann := { n := 46, own := [], frz := [], ord := [(1, [0, 1, 3, 4, 5, 6, 7, 8, 9, 2, 10, 11, 12, 13], [[], [0], [0, 1], [], [3], [], [5], [], [7], [7, 8], [3, 4, 5, 6, 7, 8, 9], [0, 1, 2, 3, 4, 5, 6, 7, 8, 9, 10], [0, 1, 2, 3, 4, 5, 6, 7, 8, 9, 10, 11], [0, 1, 2, 3, 4, 5, 6, 7, 8, 9, 10, 11, 12]]), (5, [0, 1, 2, 3, 4, 5, 6, 9, 10, 11, 12, 13, 14, 15, 7, 8, 16, 17, 18], [[], [], [1], [], [1, 2, 3], [1, 2, 3, 4], [1, 2, 3, 4, 5], [1, 2, 3, 4, 5, 6], [0, 1, 2, 3, 4, 5, 6, 7], [], [], [10], [], [10, 11, 12], [10, 11, 12, 13], [10, 11, 12, 13, 14], [0, 1, 2, 3, 4, 5, 6, 7, 8, 9, 10, 11, 12, 13, 14, 15], [0, 1, 2, 3, 4, 5, 6, 7, 8, 9, 10, 11, 12, 13, 14, 15, 16], [0, 1, 2, 3, 4, 5, 6, 7, 8, 9, 10, 11, 12, 13, 14, 15, 16, 17]])] }
theorem facts83 : factsOf Try.prog A83 Try.f83 = some (c83, 46, [(4, none)], false) := by kernel_rfl

/- 84 leasehold/leaseholdref20.impl -/
def c84 : SCode := (.seq (.reg [.op (some 2) (.box 37 (.t 0)) none,
    .op (some 3) (.box 43 (.t 1)) none,
    .op (some 4) (.mov (.c (.slice none 0 0))) none])
  (.seq (.reg [.op (some 5) (.mov (.c (.string ⟨#[]⟩))) none])
  (.seq (.seq (.reg [.op (some 7) (.fieldA 7 (.t 3)) none,
    .op (some 8) (.load false 1 (.t 7)) none,
    .op (some 9) (.bin .geq (.t 8) (.c (.int .i64 0))) none,
    .op (some 10) (.mov (.t 9)) none,
    .op (some 11) (.fieldA 7 (.t 3)) (some (10, true)),
    .op (some 12) (.load false 1 (.t 11)) (some (10, true)),
    .op (some 13) (.fieldA 6 (.t 2)) (some (10, true)),
    .op (some 14) (.load false 1 (.t 13)) (some (10, true)),
    .op (some 15) (.len (.t 14)) (some (10, true)),
    .op (some 16) (.bin .lss (.t 12) (.t 15)) (some (10, true)),
    .op (some 17) (.pick (.t 10) (.t 16) (.c (.bool false))) none])
  (.cond (.t 17)
  (.reg [.op (some 18) (.fieldA 6 (.t 2)) none,
      .op (some 19) (.load false 1 (.t 18)) none,
      .op (some 20) (.fieldA 7 (.t 3)) none,
      .op (some 21) (.load false 1 (.t 20)) none,
      .op (some 22) (.idxA 11 (.t 19) (.t 21)) none,
      .op (some 23) (.fieldA 0 (.t 22)) none,
      .op (some 24) (.load false 1 (.t 23)) none,
      .op (some 5) (.mov (.t 24)) none])
  .skip))
  (.seq (.regD [.op (some 25) (.fieldA 3 (.t 2)) none,
    .op (some 26) (.loadD false 1 (.t 25)) none,
    .op (some 27) (.fieldA 0 (.t 3)) none,
    .op (some 28) (.loadD false 1 (.t 27)) none,
    .op (some 31) (.fieldA 2 (.t 3)) none,
    .op (some 32) (.loadD false 1 (.t 31)) none,
    .op (some 29) (.callD 86 [(.t 26), (.t 28)]) none,
    .op (some 30) (.callD 76 [(.t 29)]) none,
    .op (some 33) (.callD 77 [(.t 32)]) none,
    .op (some 34) (.appD 5 1 1 [(.int .u8 0)] (.t 30) (.t 33)) none,
    .op (some 6) (.mov (.t 34)) none])
  (.seq (.regD [.op (some 35) (.mov (.t 6)) none,
    .op (some 36) (.loadD true 8 (.t 2)) none,
    .op (some 37) (.fieldA 3 (.t 3)) none,
    .op (some 38) (.loadD false 1 (.t 37)) none,
    .op (some 41) (.loadD true 8 (.t 2)) none,
    .op (some 42) (.fieldA 4 (.t 3)) none,
    .op (some 43) (.loadD true 3 (.t 42)) none,
    .op (some 39) (.callD 91 [(.t 36), (.t 38)]) none,
    .op (some 40) (.appD 5 1 1 [(.int .u8 0)] (.t 35) (.t 39)) none,
    .op (some 44) (.callD 92 [(.t 41), (.t 43)]) none,
    .op (some 45) (.appD 5 1 1 [(.int .u8 0)] (.t 40) (.t 44)) none,
    .op (some 6) (.mov (.t 45)) none])
  (.seq (.reg [.op (some 46) (.mov (.t 6)) none,
    .op (some 47) (.mov (.t 5)) none,
    .op (some 48) (.call 76 [(.t 47)]) none,
    .op (some 49) (.app 5 1 1 [(.int .u8 0)] (.t 46) (.t 48)) none,
    .op (some 4) (.mov (.t 49)) none])
  .ret))))))
def A84 : Ann := { n := 50, own := [], frz := [], ord := [(4, [0, 1, 2, 3, 6, 7, 4, 5, 8, 9, 10], [[], [0], [], [2], [0, 1, 2, 3], [0, 1, 2, 3, 4], [], [6], [0, 1, 2, 3, 4, 5, 6, 7], [0, 1, 2, 3, 4, 5, 6, 7, 8], [0, 1, 2, 3, 4, 5, 6, 7, 8, 9]]), (5, [0, 1, 2, 3, 6, 7, 8, 4, 5, 9, 10, 11], [[], [], [], [2], [1, 2, 3], [0, 1, 2, 3, 4], [], [], [7], [0, 1, 2, 3, 4, 5, 6, 7, 8], [0, 1, 2, 3, 4, 5, 6, 7, 8, 9], [0, 1, 2, 3, 4, 5, 6, 7, 8, 9, 10]])] }
theorem facts84 : factsOf Try.prog A84 Try.f84 = some (c84, 50, [(4, none)], false) := by kernel_rfl

/- 85 leasehold/leaseholdref20.offered -/
def c85 : SCode := (.seq (.reg [.op (some 2) (.box 37 (.t 0)) none,
    .op (some 3) (.box 30 (.t 1)) none,
    .op (some 4) (.mov (.c (.slice none 0 0))) none])
  (.seq (.regD [.op (some 6) (.fieldA 0 (.t 3)) none,
    .op (some 7) (.loadD false 1 (.t 6)) none,
    .op (some 9) (.fieldA 2 (.t 3)) none,
    .op (some 10) (.loadD false 1 (.t 9)) none,
    .op (some 13) (.loadD true 8 (.t 2)) none,
    .op (some 14) (.fieldA 3 (.t 3)) none,
    .op (some 15) (.loadD false 1 (.t 14)) none,
    .op (some 8) (.callD 76 [(.t 7)]) none,
    .op (some 11) (.callD 77 [(.t 10)]) none,
    .op (some 12) (.appD 5 1 1 [(.int .u8 0)] (.t 8) (.t 11)) none,
    .op (some 16) (.callD 91 [(.t 13), (.t 15)]) none,
    .op (some 17) (.appD 5 1 1 [(.int .u8 0)] (.t 12) (.t 16)) none,
    .op (some 5) (.mov (.t 17)) none])
  (.seq (.regD [.op (some 18) (.mov (.t 5)) none,
    .op (some 19) (.fieldA 4 (.t 3)) none,
    .op (some 20) (.loadD false 1 (.t 19)) none,
    .op (some 23) (.loadD true 8 (.t 2)) none,
    .op (some 24) (.loadD true 11 (.t 3)) none,
    .op (some 21) (.callD 77 [(.t 20)]) none,
    .op (some 22) (.appD 5 1 1 [(.int .u8 0)] (.t 18) (.t 21)) none,
    .op (some 25) (.callD 78 [(.t 24)]) none,
    .op (some 26) (.callD 90 [(.t 23), (.t 25)]) none,
    .op (some 27) (.appD 5 1 1 [(.int .u8 0)] (.t 22) (.t 26)) none,
    .op (some 5) (.mov (.t 27)) none])
  (.seq (.regD [.op (some 28) (.mov (.t 5)) none,
    .op (some 29) (.loadD true 8 (.t 2)) none,
    .op (some 30) (.fieldA 5 (.t 3)) none,
    .op (some 31) (.loadD true 3 (.t 30)) none,
    .op (some 34) (.fieldA 10 (.t 3)) none,
    .op (some 35) (.loadD false 1 (.t 34)) none,
    .op (some 32) (.callD 92 [(.t 29), (.t 31)]) none,
    .op (some 33) (.appD 5 1 1 [(.int .u8 0)] (.t 28) (.t 32)) none,
    .op (some 36) (.callD 79 [(.t 35)]) none,
    .op (some 37) (.appD 5 1 1 [(.int .u8 0)] (.t 33) (.t 36)) none,
    .op (some 4) (.mov (.t 37)) none])
  .ret))))
def A85 : Ann := { n := 38, own := [], frz := [], ord := [(1, [0, 1, 3, 4, 7, 8, 9, 2, 5, 6, 10, 11, 12], [[], [0], [0, 1], [], [3], [0, 1, 2, 3, 4], [0, 1, 2, 3, 4, 5], [], [], [8], [0, 1, 2, 3, 4, 5, 6, 7, 8, 9], [0, 1, 2, 3, 4, 5, 6, 7, 8, 9, 10], [0, 1, 2, 3, 4, 5, 6, 7, 8, 9, 10, 11]]), (2, [0, 1, 2, 5, 6, 3, 4, 7, 8, 9, 10], [[], [], [1], [1, 2], [0, 1, 2, 3], [], [], [0, 1, 2, 3, 4, 6], [0, 1, 2, 3, 4, 5, 6, 7], [0, 1, 2, 3, 4, 5, 6, 7, 8], [0, 1, 2, 3, 4, 5, 6, 7, 8, 9]]), (3, [0, 1, 2, 3, 6, 7, 4, 5, 8, 9, 10], [[], [], [], [2], [1, 2, 3], [0, 1, 2, 3, 4], [], [6], [0, 1, 2, 3, 4, 5, 6, 7], [0, 1, 2, 3, 4, 5, 6, 7, 8], [0, 1, 2, 3, 4, 5, 6, 7, 8, 9]])] }
theorem facts85 : factsOf Try.prog A85 Try.f85 = some (c85, 38, [(4, none)], false) := by kernel_rfl

/- 86 leasehold/leaseholdref20.name -/
def c86 : SCode := (.seq (.reg [.op (some 4) (.mov (.c (.string ⟨#[]⟩))) none])
  (.seq (.seq (.reg [.op (some 5) (.mov (.t 1)) none,
    .op (some 6) (.bin .lss (.t 5) (.c (.int .i64 0))) none,
    .op (some 7) (.mov (.t 6)) none,
    .op (some 8) (.mov (.t 1)) (some (7, false)),
    .op (some 9) (.mov (.t 0)) (some (7, false)),
    .op (some 10) (.len (.t 9)) (some (7, false)),
    .op (some 11) (.bin .geq (.t 8) (.t 10)) (some (7, false)),
    .op (some 12) (.pick (.t 7) (.c (.bool true)) (.t 11)) none])
  (.cond (.t 12)
  (.seq (.reg [.op (some 4) (.mov (.c (.string ⟨#[]⟩))) none])
    .ret)
  .skip))
  (.seq (.reg [.op (some 13) (.mov (.t 0)) none,
    .op (some 14) (.mov (.t 1)) none,
    .op (some 15) (.idxA 1 (.t 13) (.t 14)) none,
    .op (some 16) (.load false 1 (.t 15)) none,
    .op (some 4) (.mov (.t 16)) none])
  .ret)))
def A86 : Ann := { n := 17, own := [], frz := [], ord := [] }
theorem facts86 : factsOf Try.prog A86 Try.f86 = some (c86, 17, [(4, none)], false) := by kernel_rfl

/- 87 leasehold/digest.list[int] -/
def c87 : SCode := (.seq (.reg [.op (some 8) (.mov (.t 0)) none,
    .op (some 9) (.mov (.t 1)) none,
    .op (some 10) (.len (.t 9)) none,
    .op (some 11) (.mkF 3 1 1 [(.t 10)]) none,
    .op (some 12) (.call 55 [(.t 8), (.t 11)]) none])
  (.seq (.reg [.op (some 13) (.mov (.t 1)) none,
    .op (some 14) (.len (.t 13)) none,
    .op (some 15) (.mov (.c (.int .i64 0))) none])
  (.block 0
  (.loop [16, 17, 18, 7, 19, 20, 21, 22, 15]
    (.seq (.reg [.op (some 16) (.bin .lss (.t 15) (.t 14)) none])
      (.seq (.cond (.t 16)
      .skip
      (.exit 0))
      (.seq (.block 1
      (.seq (.reg [.op (some 17) (.idxA 1 (.t 13) (.t 15)) none,
          .op (some 18) (.load false 1 (.t 17)) none,
          .op (some 7) (.mov (.t 18)) none])
        (.reg [.op (some 19) (.mov (.t 2)) none,
          .op (some 20) (.mov (.t 7)) none,
          .op (some 21) (.callV (.t 19) [(.t 20)]) none])))
      (.reg [.op (some 22) (.bin .add (.t 15) (.c (.int .i64 1))) none,
        .op (some 15) (.mov (.t 22)) none]))))))))
def A87 : Ann := { n := 23, own := [], frz := [], ord := [] }
theorem facts87 : factsOf Try.prog A87 Try.f87 = some (c87, 23, [], false) := by kernel_rfl

/- 88 (*leasehold/digest.writer).nums$1 -/
def c88 : SCode := (.reg [.op (some 3) (.load false 1 (.t 1)) none,
    .op (some 4) (.mov (.t 0)) none,
    .op (some 5) (.mkF 3 1 1 [(.t 4)]) none,
    .op (some 6) (.call 55 [(.t 3), (.t 5)]) none])
def A88 : Ann := { n := 7, own := [], frz := [], ord := [] }
theorem facts88 : factsOf Try.prog A88 Try.f88 = some (c88, 7, [], false) := by kernel_rfl

/- 89 leasehold/digest.element[leasehold/api.Data] -/
def c89 : SCode := (.seq (.reg [.op (some 4) (.alloc 58 [(.string ⟨#[]⟩), (.int .i64 0), (.int .i64 0), (.slice none 0 0), (.int .i64 0)]) none,
    .op (some 5) (.mov (.c (.bool false))) none])
  (.seq (.seq (.reg [.op (some 7) (.mov (.t 1)) none,
    .op (some 8) (.bin .lss (.t 7) (.c (.int .i64 0))) none,
    .op (some 9) (.mov (.t 8)) none,
    .op (some 10) (.mov (.t 1)) (some (9, false)),
    .op (some 11) (.mov (.t 0)) (some (9, false)),
    .op (some 12) (.len (.t 11)) (some (9, false)),
    .op (some 13) (.bin .geq (.t 10) (.t 12)) (some (9, false)),
    .op (some 14) (.pick (.t 9) (.c (.bool true)) (.t 13)) none])
  (.cond (.t 14)
  (.seq (.reg [.op (some 6) (.alloc 58 [(.string ⟨#[]⟩), (.int .i64 0), (.int .i64 0), (.slice none 0 0), (.int .i64 0)]) none])
    (.seq (.reg [.op (some 15) (.load true 5 (.t 6)) none,
      .op none (.store 5 (.t 4) (.t 15)) none,
      .op (some 5) (.mov (.c (.bool false))) none])
    .ret))
  .skip))
  (.seq (.reg [.op (some 16) (.mov (.t 0)) none,
    .op (some 17) (.mov (.t 1)) none,
    .op (some 18) (.idxA 5 (.t 16) (.t 17)) none,
    .op (some 19) (.load true 5 (.t 18)) none,
    .op none (.store 5 (.t 4) (.t 19)) none,
    .op (some 5) (.mov (.c (.bool true))) none])
  .ret)))
def A89 : Ann := { n := 20, own := [], frz := [], ord := [] }
theorem facts89 : factsOf Try.prog A89 Try.f89 = some (c89, 20, [(4, some (true, 5)), (5, none)], false) := by kernel_rfl

/- 90 leasehold/leaseholdref20.named -/
def c90 : SCode := (.seq (.reg [.op (some 2) (.box 37 (.t 0)) none,
    .op (some 4) (.mov (.c (.slice none 0 0))) none])
  (.seq (.reg [.op (some 7) (.mov (.t 1)) none,
    .op (some 8) (.len (.t 7)) none,
    .op (some 9) (.call 77 [(.t 8)]) none,
    .op (some 5) (.mov (.t 9)) none])
  (.seq (.seq (.reg [.op (some 6) (.mov (.c (.int .i64 0))) none])
  (.block 0
  (.loop [10, 11, 12, 13, 16, 17, 18, 19, 20, 21, 22, 23, 5, 14, 15, 6]
    (.seq (.seq (.reg [.op (some 10) (.mov (.t 6)) none,
        .op (some 11) (.mov (.t 1)) none,
        .op (some 12) (.len (.t 11)) none,
        .op (some 13) (.bin .lss (.t 10) (.t 12)) none])
      (.cond (.t 13)
      .skip
      (.exit 0)))
      (.seq (.block 1
      (.regD [.op (some 16) (.mov (.t 5)) none,
          .op (some 17) (.loadD true 8 (.t 2)) none,
          .op (some 18) (.mov (.t 1)) none,
          .op (some 19) (.mov (.t 6)) none,
          .op (some 20) (.idxA 3 (.t 18) (.t 19)) none,
          .op (some 21) (.loadD true 3 (.t 20)) none,
          .op (some 22) (.callD 92 [(.t 17), (.t 21)]) none,
          .op (some 23) (.appD 5 1 1 [(.int .u8 0)] (.t 16) (.t 22)) none,
          .op (some 5) (.mov (.t 23)) none]))
      (.reg [.op (some 14) (.mov (.t 6)) none,
        .op (some 15) (.bin .add (.t 14) (.c (.int .i64 1))) none,
        .op (some 6) (.mov (.t 15)) none]))))))
  (.seq (.reg [.op (some 24) (.mov (.t 5)) none,
    .op (some 4) (.mov (.t 24)) none])
  .ret))))
def A90 : Ann := { n := 25, own := [], frz := [], ord := [(5, [0, 1, 2, 3, 4, 5, 6, 7, 8], [[], [], [], [], [2, 3], [2, 3, 4], [1, 2, 3, 4, 5], [0, 1, 2, 3, 4, 5, 6], [0, 1, 2, 3, 4, 5, 6, 7]])] }
theorem facts90 : factsOf Try.prog A90 Try.f90 = some (c90, 25, [(4, none)], false) := by kernel_rfl

/- 91 leasehold/leaseholdref20.bounds -/
def c91 : SCode := (.seq (.reg [.op (some 2) (.box 37 (.t 0)) none,
    .op (some 4) (.mov (.c (.slice none 0 0))) none])
  (.seq (.reg [.op (some 7) (.mov (.t 1)) none,
    .op (some 8) (.len (.t 7)) none,
    .op (some 9) (.call 77 [(.t 8)]) none,
    .op (some 5) (.mov (.t 9)) none])
  (.seq (.seq (.reg [.op (some 6) (.mov (.c (.int .i64 0))) none])
  (.block 0
  (.loop [10, 11, 12, 13, 16, 17, 18, 19, 20, 21, 22, 23, 24, 25, 26, 27, 28, 29, 30, 31, 32, 33, 5, 14, 15, 6]
    (.seq (.seq (.reg [.op (some 10) (.mov (.t 6)) none,
        .op (some 11) (.mov (.t 1)) none,
        .op (some 12) (.len (.t 11)) none,
        .op (some 13) (.bin .lss (.t 10) (.t 12)) none])
      (.cond (.t 13)
      .skip
      (.exit 0)))
      (.seq (.block 1
      (.regD [.op (some 16) (.mov (.t 5)) none,
          .op (some 17) (.mov (.t 1)) none,
          .op (some 18) (.mov (.t 6)) none,
          .op (some 19) (.idxA 2 (.t 17) (.t 18)) none,
          .op (some 20) (.fieldA 0 (.t 19)) none,
          .op (some 21) (.loadD false 1 (.t 20)) none,
          .op (some 24) (.fieldA 3 (.t 2)) none,
          .op (some 25) (.loadD false 1 (.t 24)) none,
          .op (some 26) (.mov (.t 1)) none,
          .op (some 27) (.mov (.t 6)) none,
          .op (some 28) (.idxA 2 (.t 26) (.t 27)) none,
          .op (some 29) (.fieldA 1 (.t 28)) none,
          .op (some 30) (.loadD false 1 (.t 29)) none,
          .op (some 22) (.callD 77 [(.t 21)]) none,
          .op (some 23) (.appD 5 1 1 [(.int .u8 0)] (.t 16) (.t 22)) none,
          .op (some 31) (.callD 86 [(.t 25), (.t 30)]) none,
          .op (some 32) (.callD 76 [(.t 31)]) none,
          .op (some 33) (.appD 5 1 1 [(.int .u8 0)] (.t 23) (.t 32)) none,
          .op (some 5) (.mov (.t 33)) none]))
      (.reg [.op (some 14) (.mov (.t 6)) none,
        .op (some 15) (.bin .add (.t 14) (.c (.int .i64 1))) none,
        .op (some 6) (.mov (.t 15)) none]))))))
  (.seq (.reg [.op (some 34) (.mov (.t 5)) none,
    .op (some 4) (.mov (.t 34)) none])
  .ret))))
def A91 : Ann := { n := 35, own := [], frz := [], ord := [(5, [0, 1, 2, 3, 4, 5, 8, 9, 10, 11, 12, 13, 14, 6, 7, 15, 16, 17, 18], [[], [], [], [1, 2], [1, 2, 3], [1, 2, 3, 4], [1, 2, 3, 4, 5], [0, 1, 2, 3, 4, 5, 6], [], [8], [], [], [10, 11], [10, 11, 12], [10, 11, 12, 13], [0, 1, 2, 3, 4, 5, 6, 7, 8, 9, 10, 11, 12, 13, 14], [0, 1, 2, 3, 4, 5, 6, 7, 8, 9, 10, 11, 12, 13, 14, 15], [0, 1, 2, 3, 4, 5, 6, 7, 8, 9, 10, 11, 12, 13, 14, 15, 16], [0, 1, 2, 3, 4, 5, 6, 7, 8, 9, 10, 11, 12, 13, 14, 15, 16, 17]])] }
theorem facts91 : factsOf Try.prog A91 Try.f91 = some (c91, 35, [(4, none)], false) := by kernel_rfl

/- 92 leasehold/leaseholdref20.Named -/
def c92 : SCode := (.seq (.reg [.op (some 2) (.box 37 (.t 0)) none,
    .op (some 3) (.box 26 (.t 1)) none,
    .op (some 4) (.mov (.c (.slice none 0 0))) none])
  (.seq (.reg [.op (some 7) (.fieldA 0 (.t 3)) none,
    .op (some 8) (.load false 1 (.t 7)) none,
    .op (some 9) (.call 77 [(.t 8)]) none,
    .op (some 5) (.mov (.t 9)) none])
  (.seq (.seq (.reg [.op (some 10) (.fieldA 0 (.t 3)) none,
    .op (some 11) (.load false 1 (.t 10)) none,
    .op (some 12) (.bin .eql (.t 11) (.c (.int .i64 2))) none,
    .op (some 13) (.mov (.t 12)) none,
    .op (some 14) (.fieldA 1 (.t 3)) (some (13, true)),
    .op (some 15) (.load false 1 (.t 14)) (some (13, true)),
    .op (some 16) (.bin .geq (.t 15) (.c (.int .i64 0))) (some (13, true)),
    .op (some 17) (.pick (.t 13) (.t 16) (.c (.bool false))) none,
    .op (some 18) (.mov (.t 17)) none,
    .op (some 19) (.fieldA 1 (.t 3)) (some (18, true)),
    .op (some 20) (.load false 1 (.t 19)) (some (18, true)),
    .op (some 21) (.fieldA 2 (.t 2)) (some (18, true)),
    .op (some 22) (.load false 1 (.t 21)) (some (18, true)),
    .op (some 23) (.len (.t 22)) (some (18, true)),
    .op (some 24) (.bin .lss (.t 20) (.t 23)) (some (18, true)),
    .op (some 25) (.pick (.t 18) (.t 24) (.c (.bool false))) none])
  (.cond (.t 25)
  (.seq (.reg [.op (some 26) (.fieldA 2 (.t 2)) none,
      .op (some 27) (.load false 1 (.t 26)) none,
      .op (some 28) (.fieldA 1 (.t 3)) none,
      .op (some 29) (.load false 1 (.t 28)) none,
      .op (some 30) (.idxA 5 (.t 27) (.t 29)) none,
      .op (some 31) (.load true 5 (.t 30)) none,
      .op (some 6) (.alloc 58 [(.string ⟨#[]⟩), (.int .i64 0), (.int .i64 0), (.slice none 0 0), (.int .i64 0)]) none,
      .op none (.store 5 (.t 6) (.t 31)) none])
    (.regD [.op (some 32) (.mov (.t 5)) none,
      .op (some 33) (.fieldA 0 (.t 2)) none,
      .op (some 34) (.loadD false 1 (.t 33)) none,
      .op (some 35) (.fieldA 1 (.t 6)) none,
      .op (some 36) (.loadD false 1 (.t 35)) none,
      .op (some 40) (.fieldA 0 (.t 6)) none,
      .op (some 41) (.loadD false 1 (.t 40)) none,
      .op (some 37) (.callD 86 [(.t 34), (.t 36)]) none,
      .op (some 38) (.callD 76 [(.t 37)]) none,
      .op (some 39) (.appD 5 1 1 [(.int .u8 0)] (.t 32) (.t 38)) none,
      .op (some 42) (.callD 76 [(.t 41)]) none,
      .op (some 43) (.appD 5 1 1 [(.int .u8 0)] (.t 39) (.t 42)) none,
      .op (some 5) (.mov (.t 43)) none]))
  (.reg [.op (some 44) (.mov (.t 5)) none,
      .op (some 45) (.fieldA 1 (.t 3)) none,
      .op (some 46) (.load false 1 (.t 45)) none,
      .op (some 47) (.call 77 [(.t 46)]) none,
      .op (some 48) (.app 5 1 1 [(.int .u8 0)] (.t 44) (.t 47)) none,
      .op (some 5) (.mov (.t 48)) none])))
  (.seq (.reg [.op (some 49) (.mov (.t 5)) none,
    .op (some 50) (.load true 8 (.t 2)) none,
    .op (some 51) (.fieldA 2 (.t 3)) none,
    .op (some 52) (.load false 1 (.t 51)) none,
    .op (some 53) (.call 90 [(.t 50), (.t 52)]) none,
    .op (some 54) (.app 5 1 1 [(.int .u8 0)] (.t 49) (.t 53)) none,
    .op (some 4) (.mov (.t 54)) none])
  .ret))))
def A92 : Ann := { n := 55, own := [], frz := [], ord := [(4, [0, 1, 2, 3, 4, 8, 9, 5, 6, 7, 10, 11, 12], [[], [], [1], [], [3], [1, 2, 3, 4], [1, 2, 3, 4, 5], [0, 1, 2, 3, 4, 5, 6], [], [8], [0, 1, 2, 3, 4, 5, 6, 7, 8, 9], [0, 1, 2, 3, 4, 5, 6, 7, 8, 9, 10], [0, 1, 2, 3, 4, 5, 6, 7, 8, 9, 10, 11]])] }
theorem facts92 : factsOf Try.prog A92 Try.f92 = some (c92, 55, [(4, none)], false) := by kernel_rfl

end Go.Fr.Try
