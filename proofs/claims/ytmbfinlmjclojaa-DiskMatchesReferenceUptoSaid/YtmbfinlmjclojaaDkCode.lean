/- Part of the proofs of the statements of this seat. -/
import Derived.Test.YtmbfinlmjclojaaFW1
import Derived.Test.YtmbfinlmjclojaaProg
set_option linter.unusedVariables false
namespace Go.Fr.Try
open Go Go.RowKit Go.Proofs Go.Fr
/- 3 leasehold/leaseholdlaw36.DiskMatchesReference -/
def c3 : SCode := (.seq (.reg [.op (some 5) (.box 24 (.t 0)) none,
    .op (some 10) (.mov (.c (.bool false))) none])
  (.seq (.reg [.op (some 26) (.call 9 []) none,
    .op (some 11) (.mov (.t 26)) none])
  (.seq (.seq (.reg [.op (some 27) (.load true 1 (.t 5)) none,
    .op (some 28) (.mov (.t 3)) none,
    .op (some 29) (.call 10 [(.t 27), (.t 28)]) none,
    .op (some 30) (.un .not (.t 29)) none,
    .op (some 31) (.mov (.t 30)) none,
    .op (some 32) (.mov (.t 1)) (some (31, false)),
    .op (some 33) (.len (.t 32)) (some (31, false)),
    .op (some 34) (.bin .gtr (.t 33) (.c (.int .i64 30))) (some (31, false)),
    .op (some 35) (.pick (.t 31) (.c (.bool true)) (.t 34)) none])
  (.cond (.t 35)
  (.seq (.reg [.op (some 36) (.mov (.t 11)) none,
      .op (some 10) (.mov (.t 36)) none])
    .ret)
  .skip))
  (.seq (.reg [.op (some 12) (.mov (.c (.slice none 0 0))) none])
  (.seq (.seq (.reg [.op (some 37) (.mov (.t 3)) none,
    .op (some 38) (.len (.t 37)) none,
    .op (some 39) (.bin .gtr (.t 38) (.c (.int .i64 0))) none])
  (.cond (.t 39)
  (.reg [.op (some 40) (.mov (.t 3)) none,
      .op (some 41) (.idxA 1 (.t 40) (.c (.int .i64 0))) none,
      .op (some 42) (.load false 1 (.t 41)) none,
      .op (some 12) (.mov (.t 42)) none])
  .skip))
  (.seq (.reg [.op (some 44) (.mov (.t 4)) none,
    .op (some 45) (.call 11 [(.t 44)]) none,
    .op (some 43) (.mov (.t 45)) none,
    .op (some 46) (.extr (.t 43) 0) none,
    .op (some 47) (.extr (.t 43) 1) none,
    .op (some 13) (.alloc 24 [(.slice none 0 0)]) none,
    .op none (.store 1 (.t 13) (.t 46)) none,
    .op (some 14) (.mov (.t 47)) none])
  (.seq (.reg [.op (some 49) (.mov (.t 4)) none,
    .op (some 50) (.call 12 [(.t 49)]) none,
    .op (some 48) (.mov (.t 50)) none,
    .op (some 51) (.extr (.t 48) 0) none,
    .op (some 52) (.extr (.t 48) 1) none,
    .op (some 15) (.alloc 24 [(.slice none 0 0)]) none,
    .op none (.store 1 (.t 15) (.t 51)) none,
    .op (some 16) (.mov (.t 52)) none])
  (.seq (.reg [.op (some 54) (.load true 1 (.t 5)) none,
    .op (some 55) (.mov (.t 12)) none,
    .op (some 56) (.call 13 [(.t 54), (.t 55)]) none,
    .op (some 53) (.mov (.t 56)) none,
    .op (some 57) (.extr (.t 53) 0) none,
    .op (some 58) (.extr (.t 53) 1) none,
    .op (some 17) (.mov (.t 57)) none,
    .op (some 18) (.mov (.t 58)) none])
  (.seq (.reg [.op (some 60) (.load true 1 (.t 5)) none,
    .op (some 61) (.mov (.t 12)) none,
    .op (some 62) (.call 14 [(.t 60), (.t 61)]) none,
    .op (some 59) (.mov (.t 62)) none,
    .op (some 63) (.extr (.t 59) 0) none,
    .op (some 64) (.extr (.t 59) 1) none,
    .op (some 19) (.mov (.t 63)) none,
    .op (some 20) (.mov (.t 64)) none])
  (.seq (.reg [.op (some 66) (.load true 1 (.t 5)) none,
    .op (some 67) (.mov (.t 3)) none,
    .op (some 68) (.call 15 [(.t 66), (.t 67)]) none,
    .op (some 65) (.mov (.t 68)) none,
    .op (some 69) (.extr (.t 65) 0) none,
    .op (some 70) (.extr (.t 65) 1) none,
    .op (some 21) (.mov (.t 69)) none,
    .op (some 22) (.mov (.t 70)) none])
  (.seq (.reg [.op (some 72) (.load true 1 (.t 5)) none,
    .op (some 73) (.mov (.t 3)) none,
    .op (some 74) (.call 16 [(.t 72), (.t 73)]) none,
    .op (some 71) (.mov (.t 74)) none,
    .op (some 75) (.extr (.t 71) 0) none,
    .op (some 76) (.extr (.t 71) 1) none,
    .op (some 23) (.mov (.t 75)) none,
    .op (some 24) (.mov (.t 76)) none])
  (.seq (.reg [.op (some 77) (.mov (.t 14)) none,
    .op (some 78) (.mov (.t 16)) none,
    .op (some 79) (.bin .eql (.t 77) (.t 78)) none,
    .op (some 80) (.mov (.t 79)) none,
    .op (some 81) (.load true 1 (.t 13)) (some (80, true)),
    .op (some 82) (.load true 1 (.t 15)) (some (80, true)),
    .op (some 83) (.call 17 [(.t 81), (.t 82)]) (some (80, true)),
    .op (some 84) (.pick (.t 80) (.t 83) (.c (.bool false))) none,
    .op (some 85) (.mov (.t 84)) none,
    .op (some 86) (.mov (.t 18)) (some (85, true)),
    .op (some 87) (.mov (.t 20)) (some (85, true)),
    .op (some 88) (.bin .eql (.t 86) (.t 87)) (some (85, true)),
    .op (some 89) (.pick (.t 85) (.t 88) (.c (.bool false))) none,
    .op (some 90) (.mov (.t 89)) none,
    .op (some 91) (.mov (.t 17)) (some (90, true)),
    .op (some 92) (.mov (.t 19)) (some (90, true)),
    .op (some 93) (.call 18 [(.t 91), (.t 92)]) (some (90, true)),
    .op (some 94) (.pick (.t 90) (.t 93) (.c (.bool false))) none,
    .op (some 95) (.mov (.t 94)) none,
    .op (some 96) (.mov (.t 22)) (some (95, true)),
    .op (some 97) (.mov (.t 24)) (some (95, true)),
    .op (some 98) (.bin .eql (.t 96) (.t 97)) (some (95, true)),
    .op (some 99) (.pick (.t 95) (.t 98) (.c (.bool false))) none,
    .op (some 100) (.mov (.t 99)) none,
    .op (some 101) (.mov (.t 21)) (some (100, true)),
    .op (some 102) (.mov (.t 23)) (some (100, true)),
    .op (some 103) (.call 18 [(.t 101), (.t 102)]) (some (100, true)),
    .op (some 104) (.pick (.t 100) (.t 103) (.c (.bool false))) none,
    .op (some 25) (.mov (.t 104)) none])
  (.seq (.regD [.op (some 105) (.mov (.t 11)) none,
    .op (some 106) (.mov (.t 105)) none,
    .op (some 107) (.mov (.t 25)) (some (106, true)),
    .op (some 108) (.pick (.t 106) (.t 107) (.c (.bool false))) none,
    .op (some 109) (.mov (.t 108)) none,
    .op (some 110) (.loadD true 1 (.t 5)) (some (109, true)),
    .op (some 111) (.mov (.t 1)) (some (109, true)),
    .op (some 112) (.mov (.t 2)) (some (109, true)),
    .op (some 114) (.loadD true 1 (.t 5)) (some (109, true)),
    .op (some 115) (.mov (.t 1)) (some (109, true)),
    .op (some 116) (.mov (.t 2)) (some (109, true)),
    .op (some 113) (.callD 19 [(.t 110), (.t 111), (.t 112)]) (some (109, true)),
    .op (some 117) (.callD 20 [(.t 114), (.t 115), (.t 116)]) (some (109, true)),
    .op (some 118) (.callD 17 [(.t 113), (.t 117)]) (some (109, true)),
    .op (some 119) (.pick (.t 109) (.t 118) (.c (.bool false))) none,
    .op (some 120) (.mov (.t 119)) none,
    .op (some 121) (.loadD true 1 (.t 5)) (some (120, true)),
    .op (some 123) (.loadD true 1 (.t 5)) (some (120, true)),
    .op (some 122) (.callD 22 [(.t 121)]) (some (120, true)),
    .op (some 124) (.callD 23 [(.t 123)]) (some (120, true)),
    .op (some 125) (.callD 21 [(.t 122), (.t 124)]) (some (120, true)),
    .op (some 126) (.pick (.t 120) (.t 125) (.c (.bool false))) none,
    .op (some 10) (.mov (.t 126)) none])
  .ret)))))))))))))
def A3 : Ann := { n := 127, own := [], frz := [], ord := [(14, [0, 1, 2, 3, 4, 5, 6, 7, 9, 10, 11, 8, 12, 13, 14, 15, 16, 18, 17, 19, 20, 21, 22], [[], [0], [0, 1], [0, 1, 2], [0, 1, 2, 3], [0, 1, 2, 3, 4], [0, 1, 2, 3, 4], [0, 1, 2, 3, 4], [0, 1, 2, 3, 4, 5, 6, 7], [0, 1, 2, 3, 4], [0, 1, 2, 3, 4], [0, 1, 2, 3, 4], [0, 1, 2, 3, 4, 5, 6, 7, 8, 9, 10, 11], [0, 1, 2, 3, 4, 5, 6, 7, 8, 9, 10, 11, 12], [0, 1, 2, 3, 4, 5, 6, 7, 8, 9, 10, 11, 12, 13], [0, 1, 2, 3, 4, 5, 6, 7, 8, 9, 10, 11, 12, 13, 14], [0, 1, 2, 3, 4, 5, 6, 7, 8, 9, 10, 11, 12, 13, 14, 15], [0, 1, 2, 3, 4, 5, 6, 7, 8, 9, 10, 11, 12, 13, 14, 15, 16], [0, 1, 2, 3, 4, 5, 6, 7, 8, 9, 10, 11, 12, 13, 14, 15], [0, 1, 2, 3, 4, 5, 6, 7, 8, 9, 10, 11, 12, 13, 14, 15, 16, 17, 18], [0, 1, 2, 3, 4, 5, 6, 7, 8, 9, 10, 11, 12, 13, 14, 15, 16, 17, 18, 19], [0, 1, 2, 3, 4, 5, 6, 7, 8, 9, 10, 11, 12, 13, 14, 15, 16, 17, 18, 19, 20], [0, 1, 2, 3, 4, 5, 6, 7, 8, 9, 10, 11, 12, 13, 14, 15, 16, 17, 18, 19, 20, 21]])] }
theorem facts3 : factsOf Try.prog A3 Try.f3 = some (c3, 127, [(10, none)], false) := by kernel_rfl

/- 4 leasehold/leaseholdlaw36.DiskRecords -/
def c4 : SCode := (.seq (.reg [.op (some 3) (.box 24 (.t 0)) none,
    .op (some 6) (.mov (.c (.bool false))) none])
  (.seq (.reg [.op (some 11) (.call 9 []) none,
    .op (some 7) (.mov (.t 11)) none])
  (.seq (.seq (.reg [.op (some 12) (.load true 1 (.t 3)) none,
    .op (some 13) (.mov (.t 1)) none,
    .op (some 14) (.call 10 [(.t 12), (.t 13)]) none,
    .op (some 15) (.un .not (.t 14)) none])
  (.cond (.t 15)
  (.seq (.reg [.op (some 16) (.mov (.t 7)) none,
      .op (some 6) (.mov (.t 16)) none])
    .ret)
  .skip))
  (.seq (.reg [.op (some 18) (.load true 1 (.t 3)) none,
    .op (some 19) (.mov (.t 1)) none,
    .op (some 20) (.mov (.t 2)) none,
    .op (some 21) (.call 24 [(.t 18), (.t 19), (.t 20)]) none,
    .op (some 17) (.mov (.t 21)) none,
    .op (some 22) (.extr (.t 17) 0) none,
    .op (some 23) (.extr (.t 17) 1) none,
    .op (some 24) (.extr (.t 17) 2) none,
    .op (some 8) (.mov (.t 22)) none,
    .op (some 9) (.mov (.t 23)) none,
    .op (some 10) (.mov (.t 24)) none])
  (.seq (.seq (.reg [.op (some 25) (.mov (.t 10)) none,
    .op (some 26) (.bin .neq (.t 25) (.c (.int .i64 0))) none])
  (.cond (.t 26)
  (.seq (.reg [.op (some 27) (.mov (.t 7)) none,
      .op (some 28) (.mov (.t 27)) none,
      .op (some 29) (.mov (.t 8)) (some (28, true)),
      .op (some 30) (.len (.t 29)) (some (28, true)),
      .op (some 31) (.bin .eql (.t 30) (.c (.int .i64 0))) (some (28, true)),
      .op (some 32) (.pick (.t 28) (.t 31) (.c (.bool false))) none,
      .op (some 33) (.mov (.t 32)) none,
      .op (some 34) (.mov (.t 10)) (some (33, true)),
      .op (some 35) (.bin .eql (.t 34) (.c (.int .i64 19))) (some (33, true)),
      .op (some 36) (.mov (.t 35)) (some (33, true)),
      .op (some 37) (.load true 1 (.t 3)) (some (36, false)),
      .op (some 38) (.call 25 [(.t 37)]) (some (36, false)),
      .op (some 39) (.un .not (.t 38)) (some (36, false)),
      .op (some 40) (.pick (.t 36) (.c (.bool true)) (.t 39)) (some (33, true)),
      .op (some 41) (.pick (.t 33) (.t 40) (.c (.bool false))) none,
      .op (some 6) (.mov (.t 41)) none])
    .ret)
  .skip))
  (.seq (.reg [.op (some 42) (.mov (.t 7)) none,
    .op (some 43) (.mov (.t 42)) none,
    .op (some 44) (.load true 1 (.t 3)) (some (43, true)),
    .op (some 45) (.mov (.t 8)) (some (43, true)),
    .op (some 46) (.call 19 [(.t 44), (.t 45), (.c (.int .i64 (-1)))]) (some (43, true)),
    .op (some 47) (.call 22 [(.t 46)]) (some (43, true)),
    .op (some 48) (.mov (.t 9)) (some (43, true)),
    .op (some 49) (.call 21 [(.t 47), (.t 48)]) (some (43, true)),
    .op (some 50) (.pick (.t 43) (.t 49) (.c (.bool false))) none,
    .op (some 6) (.mov (.t 50)) none])
  .ret))))))
def A4 : Ann := { n := 51, own := [], frz := [], ord := [] }
theorem facts4 : factsOf Try.prog A4 Try.f4 = some (c4, 51, [(6, none)], false) := by kernel_rfl

/- 5 leasehold/leaseholdlaw36.DiskPower -/
def c5 : SCode := (.seq (.reg [.op (some 5) (.box 24 (.t 0)) none,
    .op (some 10) (.mov (.c (.bool false))) none])
  (.seq (.reg [.op (some 30) (.call 9 []) none,
    .op (some 11) (.mov (.t 30)) none])
  (.seq (.seq (.reg [.op (some 31) (.load true 1 (.t 5)) none,
    .op (some 32) (.mov (.t 1)) none,
    .op (some 33) (.call 10 [(.t 31), (.t 32)]) none,
    .op (some 34) (.un .not (.t 33)) none])
  (.cond (.t 34)
  (.seq (.reg [.op (some 35) (.mov (.t 11)) none,
      .op (some 10) (.mov (.t 35)) none])
    .ret)
  .skip))
  (.seq (.reg [.op (some 37) (.load true 1 (.t 5)) none,
    .op (some 38) (.mov (.t 1)) none,
    .op (some 39) (.mov (.t 2)) none,
    .op (some 40) (.call 24 [(.t 37), (.t 38), (.t 39)]) none,
    .op (some 36) (.mov (.t 40)) none,
    .op (some 41) (.extr (.t 36) 0) none,
    .op (some 42) (.extr (.t 36) 1) none,
    .op (some 43) (.extr (.t 36) 2) none,
    .op (some 12) (.mov (.t 41)) none,
    .op (some 13) (.mov (.t 42)) none,
    .op (some 14) (.mov (.t 43)) none])
  (.seq (.reg [.op (some 44) (.mov (.t 12)) none,
    .op (some 45) (.call 26 [(.t 44)]) none,
    .op (some 15) (.mov (.t 45)) none])
  (.seq (.seq (.reg [.op (some 46) (.mov (.t 14)) none,
    .op (some 47) (.bin .neq (.t 46) (.c (.int .i64 0))) none,
    .op (some 48) (.mov (.t 47)) none,
    .op (some 49) (.mov (.t 15)) (some (48, false)),
    .op (some 50) (.bin .eql (.t 49) (.c (.int .i64 0))) (some (48, false)),
    .op (some 51) (.pick (.t 48) (.c (.bool true)) (.t 50)) none])
  (.cond (.t 51)
  (.seq (.reg [.op (some 52) (.mov (.t 11)) none,
      .op (some 53) (.mov (.t 52)) none,
      .op (some 54) (.mov (.t 14)) (some (53, true)),
      .op (some 55) (.bin .neq (.t 54) (.c (.int .i64 0))) (some (53, true)),
      .op (some 56) (.mov (.t 55)) (some (53, true)),
      .op (some 57) (.load true 1 (.t 5)) (some (56, false)),
      .op (some 58) (.call 25 [(.t 57)]) (some (56, false)),
      .op (some 59) (.un .not (.t 58)) (some (56, false)),
      .op (some 60) (.pick (.t 56) (.c (.bool true)) (.t 59)) (some (53, true)),
      .op (some 61) (.pick (.t 53) (.t 60) (.c (.bool false))) none,
      .op (some 10) (.mov (.t 61)) none])
    .ret)
  .skip))
  (.seq (.reg [.op (some 62) (.load true 1 (.t 5)) none,
    .op (some 63) (.call 22 [(.t 62)]) none,
    .op (some 16) (.mov (.t 63)) none])
  (.seq (.reg [.op (some 65) (.mov (.t 12)) none,
    .op (some 66) (.mov (.t 15)) none,
    .op (some 67) (.bin .sub (.t 66) (.c (.int .i64 1))) none,
    .op (some 68) (.call 27 [(.t 65), (.t 67)]) none,
    .op (some 64) (.mov (.t 68)) none,
    .op (some 69) (.extr (.t 64) 0) none,
    .op (some 70) (.extr (.t 64) 1) none,
    .op (some 17) (.mov (.t 69)) none,
    .op (some 18) (.mov (.t 70)) none])
  (.seq (.reg [.op (some 71) (.mov (.t 4)) none,
    .op (some 72) (.conv .i64 (.t 71)) none,
    .op (some 73) (.mov (.t 15)) none,
    .op (some 74) (.bin .add (.t 73) (.c (.int .i64 1))) none,
    .op (some 75) (.bin .rem (.t 72) (.t 74)) none,
    .op (some 19) (.mov (.t 75)) none])
  (.seq (.reg [.op (some 77) (.mov (.t 12)) none,
    .op (some 78) (.mov (.t 19)) none,
    .op (some 79) (.call 27 [(.t 77), (.t 78)]) none,
    .op (some 76) (.mov (.t 79)) none,
    .op (some 80) (.extr (.t 76) 0) none,
    .op (some 81) (.extr (.t 76) 1) none,
    .op (some 20) (.mov (.t 80)) none,
    .op (some 21) (.mov (.t 81)) none])
  (.seq (.seq (.reg [.op (some 82) (.load true 1 (.t 5)) none,
    .op (some 83) (.mov (.t 17)) none,
    .op (some 84) (.mov (.t 18)) none,
    .op (some 85) (.call 19 [(.t 82), (.t 83), (.t 84)]) none,
    .op (some 86) (.call 22 [(.t 85)]) none,
    .op (some 87) (.mov (.t 16)) none,
    .op (some 88) (.call 21 [(.t 86), (.t 87)]) none,
    .op (some 89) (.un .not (.t 88)) none])
  (.cond (.t 89)
  (.seq (.reg [.op (some 10) (.mov (.c (.bool false))) none])
    .ret)
  .skip))
  (.seq (.reg [.op (some 90) (.load true 1 (.t 5)) none,
    .op (some 91) (.mov (.t 20)) none,
    .op (some 92) (.mov (.t 21)) none,
    .op (some 93) (.call 19 [(.t 90), (.t 91), (.t 92)]) none,
    .op (some 22) (.alloc 24 [(.slice none 0 0)]) none,
    .op none (.store 1 (.t 22) (.t 93)) none])
  (.seq (.reg [.op (some 94) (.load true 1 (.t 22)) none,
    .op (some 95) (.call 22 [(.t 94)]) none,
    .op (some 23) (.mov (.t 95)) none])
  (.seq (.seq (.reg [.op (some 96) (.mov (.t 19)) none,
    .op (some 97) (.mov (.t 15)) none,
    .op (some 98) (.bin .eql (.t 96) (.t 97)) none,
    .op (some 99) (.mov (.t 98)) none,
    .op (some 100) (.mov (.t 23)) (some (99, true)),
    .op (some 101) (.mov (.t 13)) (some (99, true)),
    .op (some 102) (.call 21 [(.t 100), (.t 101)]) (some (99, true)),
    .op (some 103) (.un .not (.t 102)) (some (99, true)),
    .op (some 104) (.pick (.t 99) (.t 103) (.c (.bool false))) none,
    .op (some 105) (.mov (.t 104)) none,
    .op (some 106) (.mov (.t 19)) (some (105, false)),
    .op (some 107) (.mov (.t 15)) (some (105, false)),
    .op (some 108) (.bin .lss (.t 106) (.t 107)) (some (105, false)),
    .op (some 109) (.mov (.t 108)) (some (105, false)),
    .op (some 110) (.mov (.t 23)) (some (109, true)),
    .op (some 111) (.mov (.t 16)) (some (109, true)),
    .op (some 112) (.call 21 [(.t 110), (.t 111)]) (some (109, true)),
    .op (some 113) (.un .not (.t 112)) (some (109, true)),
    .op (some 114) (.pick (.t 109) (.t 113) (.c (.bool false))) (some (105, false)),
    .op (some 115) (.pick (.t 105) (.c (.bool true)) (.t 114)) none])
  (.cond (.t 115)
  (.seq (.reg [.op (some 10) (.mov (.c (.bool false))) none])
    .ret)
  .skip))
  (.seq (.seq (.reg [.op (some 116) (.mov (.t 19)) none,
    .op (some 117) (.mov (.t 15)) none,
    .op (some 118) (.bin .eql (.t 116) (.t 117)) none])
  (.cond (.t 118)
  (.seq (.reg [.op (some 119) (.mov (.t 11)) none,
      .op (some 10) (.mov (.t 119)) none])
    .ret)
  .skip))
  (.seq (.reg [.op (some 121) (.load true 1 (.t 5)) none,
    .op (some 122) (.mov (.t 1)) none,
    .op (some 123) (.mov (.t 3)) none,
    .op (some 124) (.call 24 [(.t 121), (.t 122), (.t 123)]) none,
    .op (some 120) (.mov (.t 124)) none,
    .op (some 125) (.extr (.t 120) 0) none,
    .op (some 126) (.extr (.t 120) 1) none,
    .op (some 127) (.extr (.t 120) 2) none,
    .op (some 24) (.mov (.t 125)) none,
    .op (some 25) (.mov (.t 126)) none,
    .op (some 26) (.mov (.t 127)) none])
  (.seq (.reg [.op (some 129) (.load true 1 (.t 22)) none,
    .op (some 130) (.mov (.t 1)) none,
    .op (some 131) (.mov (.t 3)) none,
    .op (some 132) (.call 24 [(.t 129), (.t 130), (.t 131)]) none,
    .op (some 128) (.mov (.t 132)) none,
    .op (some 133) (.extr (.t 128) 0) none,
    .op (some 134) (.extr (.t 128) 1) none,
    .op (some 135) (.extr (.t 128) 2) none,
    .op (some 27) (.mov (.t 133)) none,
    .op (some 28) (.mov (.t 134)) none,
    .op (some 29) (.mov (.t 135)) none])
  (.seq (.reg [.op (some 136) (.mov (.t 11)) none,
    .op (some 137) (.mov (.t 136)) none,
    .op (some 138) (.mov (.t 29)) (some (137, true)),
    .op (some 139) (.mov (.t 26)) (some (137, true)),
    .op (some 140) (.bin .eql (.t 138) (.t 139)) (some (137, true)),
    .op (some 141) (.pick (.t 137) (.t 140) (.c (.bool false))) none,
    .op (some 142) (.mov (.t 141)) none,
    .op (some 143) (.mov (.t 29)) (some (142, true)),
    .op (some 144) (.bin .neq (.t 143) (.c (.int .i64 0))) (some (142, true)),
    .op (some 145) (.mov (.t 144)) (some (142, true)),
    .op (some 146) (.load true 1 (.t 22)) (some (145, false)),
    .op (some 147) (.mov (.t 27)) (some (145, false)),
    .op (some 148) (.call 19 [(.t 146), (.t 147), (.c (.int .i64 (-1)))]) (some (145, false)),
    .op (some 149) (.call 22 [(.t 148)]) (some (145, false)),
    .op (some 150) (.mov (.t 28)) (some (145, false)),
    .op (some 151) (.call 21 [(.t 149), (.t 150)]) (some (145, false)),
    .op (some 152) (.pick (.t 145) (.c (.bool true)) (.t 151)) (some (142, true)),
    .op (some 153) (.pick (.t 142) (.t 152) (.c (.bool false))) none,
    .op (some 10) (.mov (.t 153)) none])
  .ret))))))))))))))))))
def A5 : Ann := { n := 154, own := [], frz := [], ord := [] }
theorem facts5 : factsOf Try.prog A5 Try.f5 = some (c5, 154, [(10, none)], false) := by kernel_rfl

/- 6 leasehold/leaseholdlaw36.DiskWrites -/
def c6 : SCode := (.seq (.reg [.op (some 3) (.box 24 (.t 0)) none,
    .op (some 6) (.mov (.c (.bool false))) none])
  (.seq (.reg [.op (some 22) (.call 9 []) none,
    .op (some 7) (.mov (.t 22)) none])
  (.seq (.seq (.reg [.op (some 23) (.load true 1 (.t 3)) none,
    .op (some 24) (.mov (.t 1)) none,
    .op (some 25) (.call 10 [(.t 23), (.t 24)]) none,
    .op (some 26) (.un .not (.t 25)) none,
    .op (some 27) (.mov (.t 26)) none,
    .op (some 28) (.load true 1 (.t 3)) (some (27, false)),
    .op (some 29) (.call 25 [(.t 28)]) (some (27, false)),
    .op (some 30) (.un .not (.t 29)) (some (27, false)),
    .op (some 31) (.pick (.t 27) (.c (.bool true)) (.t 30)) none])
  (.cond (.t 31)
  (.seq (.reg [.op (some 32) (.mov (.t 7)) none,
      .op (some 6) (.mov (.t 32)) none])
    .ret)
  .skip))
  (.seq (.reg [.op (some 34) (.load true 1 (.t 3)) none,
    .op (some 35) (.mov (.t 1)) none,
    .op (some 36) (.mov (.t 2)) none,
    .op (some 37) (.call 24 [(.t 34), (.t 35), (.t 36)]) none,
    .op (some 33) (.mov (.t 37)) none,
    .op (some 38) (.extr (.t 33) 0) none,
    .op (some 39) (.extr (.t 33) 1) none,
    .op (some 40) (.extr (.t 33) 2) none,
    .op (some 8) (.mov (.t 38)) none,
    .op (some 9) (.mov (.t 39)) none,
    .op (some 10) (.mov (.t 40)) none])
  (.seq (.seq (.reg [.op (some 41) (.mov (.t 10)) none,
    .op (some 42) (.bin .neq (.t 41) (.c (.int .i64 0))) none])
  (.cond (.t 42)
  (.seq (.reg [.op (some 43) (.mov (.t 7)) none,
      .op (some 6) (.mov (.t 43)) none])
    .ret)
  .skip))
  (.seq (.seq (.reg [.op (some 11) (.mov (.c (.int .i64 0))) none])
  (.block 0
  (.loop [44, 45, 46, 47, 50, 51, 52, 53, 54, 55, 56, 6, 48, 49, 11]
    (.seq (.seq (.reg [.op (some 44) (.mov (.t 11)) none,
        .op (some 45) (.mov (.t 8)) none,
        .op (some 46) (.len (.t 45)) none,
        .op (some 47) (.bin .lss (.t 44) (.t 46)) none])
      (.cond (.t 47)
      .skip
      (.exit 0)))
      (.seq (.block 1
      (.seq (.regD [.op (some 50) (.loadD true 1 (.t 3)) none,
          .op (some 51) (.mov (.t 8)) none,
          .op (some 52) (.mov (.t 11)) none,
          .op (some 53) (.idxA 2 (.t 51) (.t 52)) none,
          .op (some 54) (.loadD true 2 (.t 53)) none,
          .op (some 55) (.callD 28 [(.t 50), (.t 54)]) none,
          .op (some 56) (.un .not (.t 55)) none])
        (.cond (.t 56)
        (.seq (.reg [.op (some 6) (.mov (.c (.bool false))) none])
          .ret)
        .skip)))
      (.reg [.op (some 48) (.mov (.t 11)) none,
        .op (some 49) (.bin .add (.t 48) (.c (.int .i64 1))) none,
        .op (some 11) (.mov (.t 49)) none]))))))
  (.seq (.reg [.op (some 57) (.load true 1 (.t 3)) none,
    .op (some 58) (.mov (.t 8)) none,
    .op (some 59) (.call 19 [(.t 57), (.t 58), (.c (.int .i64 (-1)))]) none,
    .op (some 12) (.alloc 24 [(.slice none 0 0)]) none,
    .op none (.store 1 (.t 12) (.t 59)) none])
  (.seq (.seq (.reg [.op (some 60) (.load true 1 (.t 12)) none,
    .op (some 61) (.call 25 [(.t 60)]) none,
    .op (some 62) (.un .not (.t 61)) none,
    .op (some 63) (.mov (.t 62)) none,
    .op (some 64) (.fieldA 0 (.t 12)) (some (63, false)),
    .op (some 65) (.load false 1 (.t 64)) (some (63, false)),
    .op (some 66) (.len (.t 65)) (some (63, false)),
    .op (some 67) (.fieldA 0 (.t 3)) (some (63, false)),
    .op (some 68) (.load false 1 (.t 67)) (some (63, false)),
    .op (some 69) (.len (.t 68)) (some (63, false)),
    .op (some 70) (.bin .neq (.t 66) (.t 69)) (some (63, false)),
    .op (some 71) (.pick (.t 63) (.c (.bool true)) (.t 70)) none])
  (.cond (.t 71)
  (.seq (.reg [.op (some 6) (.mov (.c (.bool false))) none])
    .ret)
  .skip))
  (.seq (.reg [.op (some 72) (.load true 1 (.t 3)) none,
    .op (some 73) (.call 29 [(.t 72)]) none,
    .op (some 13) (.mov (.t 73)) none])
  (.seq (.reg [.op (some 75) (.load true 1 (.t 3)) none,
    .op (some 76) (.mov (.t 13)) none,
    .op (some 77) (.call 31 [(.t 75), (.t 76)]) none,
    .op (some 78) (.call 30 [(.t 77)]) none,
    .op (some 74) (.mov (.t 78)) none,
    .op (some 79) (.extr (.t 74) 0) none,
    .op (some 80) (.extr (.t 74) 1) none,
    .op (some 14) (.mov (.t 79)) none,
    .op (some 15) (.mov (.t 80)) none])
  (.seq (.reg [.op (some 81) (.mov (.t 13)) none,
    .op (some 82) (.load true 1 (.t 3)) none,
    .op (some 83) (.call 32 [(.t 82)]) none,
    .op (some 84) (.bin .mul (.t 81) (.t 83)) none,
    .op (some 16) (.mov (.t 84)) none])
  (.seq (.seq (.reg [.op (some 17) (.mov (.c (.int .i64 0))) none])
  (.block 2
  (.loop [85, 86, 87, 88, 89, 92, 93, 94, 95, 96, 97, 98, 99, 100, 101, 102, 18, 103, 104, 105, 106, 107, 108, 109, 110, 111, 112, 113, 19, 114, 115, 116, 117, 118, 119, 120, 121, 122, 123, 124, 125, 126, 20, 127, 128, 129, 130, 131, 132, 133, 134, 135, 136, 137, 138, 139, 140, 141, 142, 143, 144, 145, 146, 147, 6, 21, 148, 149, 150, 151, 152, 153, 154, 155, 156, 157, 158, 159, 160, 161, 162, 163, 164, 165, 166, 167, 168, 169, 172, 173, 174, 175, 176, 177, 178, 179, 180, 181, 182, 183, 184, 185, 186, 187, 188, 6, 170, 171, 21, 90, 91, 17]
    (.seq (.seq (.reg [.op (some 85) (.mov (.t 17)) none,
        .op (some 86) (.fieldA 0 (.t 3)) none,
        .op (some 87) (.load false 1 (.t 86)) none,
        .op (some 88) (.len (.t 87)) none,
        .op (some 89) (.bin .lss (.t 85) (.t 88)) none])
      (.cond (.t 89)
      .skip
      (.exit 2)))
      (.seq (.block 3
      (.seq (.reg [.op (some 92) (.mov (.t 17)) none,
          .op (some 93) (.mov (.t 16)) none,
          .op (some 94) (.bin .gtr (.t 92) (.t 93)) none,
          .op (some 95) (.mov (.t 94)) none,
          .op (some 96) (.mov (.t 17)) (some (95, true)),
          .op (some 97) (.mov (.t 16)) (some (95, true)),
          .op (some 98) (.load true 1 (.t 3)) (some (95, true)),
          .op (some 99) (.call 32 [(.t 98)]) (some (95, true)),
          .op (some 100) (.bin .add (.t 97) (.t 99)) (some (95, true)),
          .op (some 101) (.bin .lss (.t 96) (.t 100)) (some (95, true)),
          .op (some 102) (.pick (.t 95) (.t 101) (.c (.bool false))) none,
          .op (some 18) (.mov (.t 102)) none])
        (.seq (.reg [.op (some 103) (.mov (.t 17)) none,
          .op (some 104) (.mov (.t 16)) none,
          .op (some 105) (.bin .lss (.t 103) (.t 104)) none,
          .op (some 106) (.mov (.t 105)) none,
          .op (some 107) (.mov (.t 17)) (some (106, false)),
          .op (some 108) (.mov (.t 16)) (some (106, false)),
          .op (some 109) (.load true 1 (.t 3)) (some (106, false)),
          .op (some 110) (.call 32 [(.t 109)]) (some (106, false)),
          .op (some 111) (.bin .add (.t 108) (.t 110)) (some (106, false)),
          .op (some 112) (.bin .geq (.t 107) (.t 111)) (some (106, false)),
          .op (some 113) (.pick (.t 106) (.c (.bool true)) (.t 112)) none,
          .op (some 19) (.mov (.t 113)) none])
        (.seq (.regD [.op (some 114) (.fieldA 0 (.t 12)) none,
          .op (some 115) (.loadD false 1 (.t 114)) none,
          .op (some 116) (.mov (.t 17)) none,
          .op (some 117) (.idxA 1 (.t 115) (.t 116)) none,
          .op (some 118) (.loadD false 1 (.t 117)) none,
          .op (some 119) (.b2sD (.t 118)) none,
          .op (some 120) (.fieldA 0 (.t 3)) none,
          .op (some 121) (.loadD false 1 (.t 120)) none,
          .op (some 122) (.mov (.t 17)) none,
          .op (some 123) (.idxA 1 (.t 121) (.t 122)) none,
          .op (some 124) (.loadD false 1 (.t 123)) none,
          .op (some 125) (.b2sD (.t 124)) none,
          .op (some 126) (.bin .eql (.t 119) (.t 125)) none,
          .op (some 20) (.mov (.t 126)) none])
        (.seq (.seq (.reg [.op (some 127) (.mov (.t 2)) none,
          .op (some 128) (.un .not (.t 127)) none,
          .op (some 129) (.mov (.t 128)) none,
          .op (some 130) (.mov (.t 18)) (some (129, true)),
          .op (some 131) (.un .not (.t 130)) (some (129, true)),
          .op (some 132) (.pick (.t 129) (.t 131) (.c (.bool false))) none,
          .op (some 133) (.mov (.t 132)) none,
          .op (some 134) (.mov (.t 20)) (some (133, true)),
          .op (some 135) (.un .not (.t 134)) (some (133, true)),
          .op (some 136) (.pick (.t 133) (.t 135) (.c (.bool false))) none,
          .op (some 137) (.mov (.t 136)) none,
          .op (some 138) (.mov (.t 2)) (some (137, false)),
          .op (some 139) (.mov (.t 138)) (some (137, false)),
          .op (some 140) (.mov (.t 19)) (some (139, true)),
          .op (some 141) (.un .not (.t 140)) (some (139, true)),
          .op (some 142) (.pick (.t 139) (.t 141) (.c (.bool false))) (some (137, false)),
          .op (some 143) (.mov (.t 142)) (some (137, false)),
          .op (some 144) (.mov (.t 20)) (some (143, true)),
          .op (some 145) (.un .not (.t 144)) (some (143, true)),
          .op (some 146) (.pick (.t 143) (.t 145) (.c (.bool false))) (some (137, false)),
          .op (some 147) (.pick (.t 137) (.c (.bool true)) (.t 146)) none])
        (.cond (.t 147)
        (.seq (.reg [.op (some 6) (.mov (.c (.bool false))) none])
          .ret)
        .skip))
        (.seq (.reg [.op (some 21) (.mov (.c (.int .i64 0))) none])
        (.block 4
        (.loop [148, 149, 150, 151, 152, 153, 154, 155, 156, 157, 158, 159, 160, 161, 162, 163, 164, 165, 166, 167, 168, 169, 172, 173, 174, 175, 176, 177, 178, 179, 180, 181, 182, 183, 184, 185, 186, 187, 188, 6, 170, 171, 21]
          (.seq (.seq (.reg [.op (some 148) (.mov (.t 18)) none,
              .op (some 149) (.mov (.t 148)) none,
              .op (some 150) (.mov (.t 21)) (some (149, true)),
              .op (some 151) (.fieldA 0 (.t 3)) (some (149, true)),
              .op (some 152) (.load false 1 (.t 151)) (some (149, true)),
              .op (some 153) (.mov (.t 17)) (some (149, true)),
              .op (some 154) (.idxA 1 (.t 152) (.t 153)) (some (149, true)),
              .op (some 155) (.load false 1 (.t 154)) (some (149, true)),
              .op (some 156) (.len (.t 155)) (some (149, true)),
              .op (some 157) (.bin .lss (.t 150) (.t 156)) (some (149, true)),
              .op (some 158) (.pick (.t 149) (.t 157) (.c (.bool false))) none,
              .op (some 159) (.mov (.t 158)) none,
              .op (some 160) (.mov (.t 17)) (some (159, true)),
              .op (some 161) (.mov (.t 16)) (some (159, true)),
              .op (some 162) (.bin .sub (.t 160) (.t 161)) (some (159, true)),
              .op (some 163) (.bin .sub (.t 162) (.c (.int .i64 1))) (some (159, true)),
              .op (some 164) (.bin .mul (.t 163) (.c (.int .i64 256))) (some (159, true)),
              .op (some 165) (.mov (.t 21)) (some (159, true)),
              .op (some 166) (.bin .add (.t 164) (.t 165)) (some (159, true)),
              .op (some 167) (.mov (.t 15)) (some (159, true)),
              .op (some 168) (.bin .lss (.t 166) (.t 167)) (some (159, true)),
              .op (some 169) (.pick (.t 159) (.t 168) (.c (.bool false))) none])
            (.cond (.t 169)
            .skip
            (.exit 4)))
            (.seq (.block 5
            (.seq (.regD [.op (some 172) (.fieldA 0 (.t 12)) none,
                .op (some 173) (.loadD false 1 (.t 172)) none,
                .op (some 174) (.mov (.t 17)) none,
                .op (some 175) (.idxA 1 (.t 173) (.t 174)) none,
                .op (some 176) (.loadD false 1 (.t 175)) none,
                .op (some 177) (.mov (.t 21)) none,
                .op (some 178) (.idxA 1 (.t 176) (.t 177)) none,
                .op (some 179) (.loadD false 1 (.t 178)) none,
                .op (some 180) (.fieldA 0 (.t 3)) none,
                .op (some 181) (.loadD false 1 (.t 180)) none,
                .op (some 182) (.mov (.t 17)) none,
                .op (some 183) (.idxA 1 (.t 181) (.t 182)) none,
                .op (some 184) (.loadD false 1 (.t 183)) none,
                .op (some 185) (.mov (.t 21)) none,
                .op (some 186) (.idxA 1 (.t 184) (.t 185)) none,
                .op (some 187) (.loadD false 1 (.t 186)) none,
                .op (some 188) (.bin .neq (.t 179) (.t 187)) none])
              (.cond (.t 188)
              (.seq (.reg [.op (some 6) (.mov (.c (.bool false))) none])
                .ret)
              .skip)))
            (.reg [.op (some 170) (.mov (.t 21)) none,
              .op (some 171) (.bin .add (.t 170) (.c (.int .i64 1))) none,
              .op (some 21) (.mov (.t 171)) none])))))))))))
      (.reg [.op (some 90) (.mov (.t 17)) none,
        .op (some 91) (.bin .add (.t 90) (.c (.int .i64 1))) none,
        .op (some 17) (.mov (.t 91)) none]))))))
  (.seq (.reg [.op (some 189) (.mov (.t 7)) none,
    .op (some 6) (.mov (.t 189)) none])
  .ret)))))))))))))
def A6 : Ann := { n := 190, own := [], frz := [], ord := [(10, [0, 1, 2, 3, 4, 5, 6], [[], [], [], [1, 2], [1, 2, 3], [0, 1, 2, 3, 4], [0, 1, 2, 3, 4, 5]]), (23, [0, 1, 2, 3, 4, 5, 6, 7, 8, 9, 10, 11, 12, 13], [[], [0], [], [0, 1, 2], [0, 1, 2, 3], [0, 1, 2, 3, 4], [], [6], [], [6, 7, 8], [6, 7, 8, 9], [6, 7, 8, 9, 10], [0, 1, 2, 3, 4, 5, 6, 7, 8, 9, 10, 11], [0, 1, 2, 3, 4, 5, 6, 7, 8, 9, 10, 11, 12]]), (29, [0, 1, 2, 3, 4, 5, 6, 7, 8, 9, 10, 11, 12, 13, 14, 15, 16], [[], [0], [], [0, 1, 2], [0, 1, 2, 3], [], [0, 1, 2, 3, 4, 5], [0, 1, 2, 3, 4, 5, 6], [], [8], [], [8, 9, 10], [8, 9, 10, 11], [], [8, 9, 10, 11, 12, 13], [8, 9, 10, 11, 12, 13, 14], [0, 1, 2, 3, 4, 5, 6, 7, 8, 9, 10, 11, 12, 13, 14, 15]])] }
theorem facts6 : factsOf Try.prog A6 Try.f6 = some (c6, 190, [(6, none)], false) := by kernel_rfl

/- 7 leasehold/leaseholdlaw36.DiskRoom -/
def c7 : SCode := (.seq (.reg [.op (some 2) (.box 24 (.t 0)) none,
    .op (some 4) (.mov (.c (.bool false))) none])
  (.seq (.reg [.op (some 19) (.call 9 []) none,
    .op (some 5) (.mov (.t 19)) none])
  (.seq (.seq (.reg [.op (some 20) (.load true 1 (.t 2)) none,
    .op (some 21) (.mov (.t 1)) none,
    .op (some 22) (.call 10 [(.t 20), (.t 21)]) none,
    .op (some 23) (.un .not (.t 22)) none,
    .op (some 24) (.mov (.t 23)) none,
    .op (some 25) (.load true 1 (.t 2)) (some (24, false)),
    .op (some 26) (.call 25 [(.t 25)]) (some (24, false)),
    .op (some 27) (.un .not (.t 26)) (some (24, false)),
    .op (some 28) (.pick (.t 24) (.c (.bool true)) (.t 27)) none])
  (.cond (.t 28)
  (.seq (.reg [.op (some 29) (.mov (.t 5)) none,
      .op (some 4) (.mov (.t 29)) none])
    .ret)
  .skip))
  (.seq (.reg [.op (some 30) (.load true 1 (.t 2)) none,
    .op (some 31) (.call 32 [(.t 30)]) none,
    .op (some 32) (.bin .sub (.t 31) (.c (.int .i64 1))) none,
    .op (some 33) (.bin .mul (.t 32) (.c (.int .i64 256))) none,
    .op (some 6) (.mov (.t 33)) none])
  (.seq (.reg [.op (some 34) (.load true 1 (.t 2)) none,
    .op (some 35) (.call 22 [(.t 34)]) none,
    .op (some 7) (.mov (.t 35)) none])
  (.seq (.reg [.op (some 8) (.mov (.c (.int .i64 3))) none])
  (.seq (.seq (.reg [.op (some 36) (.mov (.t 1)) none,
    .op (some 37) (.len (.t 36)) none,
    .op (some 38) (.bin .gtr (.t 37) (.c (.int .i64 0))) none])
  (.cond (.t 38)
  (.reg [.op (some 39) (.mov (.t 1)) none,
      .op (some 40) (.idxA 1 (.t 39) (.c (.int .i64 0))) none,
      .op (some 41) (.load false 1 (.t 40)) none,
      .op (some 42) (.len (.t 41)) none,
      .op (some 43) (.bin .add (.c (.int .i64 3)) (.t 42)) none,
      .op (some 8) (.mov (.t 43)) none])
  .skip))
  (.seq (.seq (.reg [.op (some 9) (.mov (.c (.int .i64 0))) none])
  (.block 0
  (.loop [44, 45, 46, 47, 50, 51, 52, 53, 54, 55, 56, 57, 8, 48, 49, 9]
    (.seq (.seq (.reg [.op (some 44) (.mov (.t 9)) none,
        .op (some 45) (.mov (.t 7)) none,
        .op (some 46) (.len (.t 45)) none,
        .op (some 47) (.bin .lss (.t 44) (.t 46)) none])
      (.cond (.t 47)
      .skip
      (.exit 0)))
      (.seq (.block 1
      (.reg [.op (some 50) (.mov (.t 8)) none,
          .op (some 51) (.bin .add (.t 50) (.c (.int .i64 3))) none,
          .op (some 52) (.mov (.t 7)) none,
          .op (some 53) (.mov (.t 9)) none,
          .op (some 54) (.idxA 1 (.t 52) (.t 53)) none,
          .op (some 55) (.load false 1 (.t 54)) none,
          .op (some 56) (.len (.t 55)) none,
          .op (some 57) (.bin .add (.t 51) (.t 56)) none,
          .op (some 8) (.mov (.t 57)) none]))
      (.reg [.op (some 48) (.mov (.t 9)) none,
        .op (some 49) (.bin .add (.t 48) (.c (.int .i64 1))) none,
        .op (some 9) (.mov (.t 49)) none]))))))
  (.seq (.reg [.op (some 10) (.mov (.c (.int .i64 0))) none])
  (.seq (.seq (.reg [.op (some 11) (.mov (.c (.int .i64 0))) none])
  (.block 2
  (.loop [58, 59, 60, 61, 64, 65, 66, 67, 68, 69, 70, 71, 10, 62, 63, 11]
    (.seq (.seq (.reg [.op (some 58) (.mov (.t 11)) none,
        .op (some 59) (.mov (.t 1)) none,
        .op (some 60) (.len (.t 59)) none,
        .op (some 61) (.bin .lss (.t 58) (.t 60)) none])
      (.cond (.t 61)
      .skip
      (.exit 2)))
      (.seq (.block 3
      (.reg [.op (some 64) (.mov (.t 10)) none,
          .op (some 65) (.bin .add (.t 64) (.c (.int .i64 3))) none,
          .op (some 66) (.mov (.t 1)) none,
          .op (some 67) (.mov (.t 11)) none,
          .op (some 68) (.idxA 1 (.t 66) (.t 67)) none,
          .op (some 69) (.load false 1 (.t 68)) none,
          .op (some 70) (.len (.t 69)) none,
          .op (some 71) (.bin .add (.t 65) (.t 70)) none,
          .op (some 10) (.mov (.t 71)) none]))
      (.reg [.op (some 62) (.mov (.t 11)) none,
        .op (some 63) (.bin .add (.t 62) (.c (.int .i64 1))) none,
        .op (some 11) (.mov (.t 63)) none]))))))
  (.seq (.reg [.op (some 73) (.load true 1 (.t 2)) none,
    .op (some 74) (.mov (.t 1)) none,
    .op (some 75) (.call 24 [(.t 73), (.t 74), (.c (.bool false))]) none,
    .op (some 72) (.mov (.t 75)) none,
    .op (some 76) (.extr (.t 72) 0) none,
    .op (some 77) (.extr (.t 72) 1) none,
    .op (some 78) (.extr (.t 72) 2) none,
    .op (some 12) (.mov (.t 76)) none,
    .op (some 13) (.mov (.t 77)) none,
    .op (some 14) (.mov (.t 78)) none])
  (.seq (.reg [.op (some 80) (.load true 1 (.t 2)) none,
    .op (some 81) (.mov (.t 1)) none,
    .op (some 82) (.call 24 [(.t 80), (.t 81), (.c (.bool true))]) none,
    .op (some 79) (.mov (.t 82)) none,
    .op (some 83) (.extr (.t 79) 0) none,
    .op (some 84) (.extr (.t 79) 1) none,
    .op (some 85) (.extr (.t 79) 2) none,
    .op (some 15) (.mov (.t 83)) none,
    .op (some 16) (.mov (.t 84)) none,
    .op (some 17) (.mov (.t 85)) none])
  (.seq (.regD [.op (some 86) (.loadD true 1 (.t 2)) none,
    .op (some 87) (.loadD true 1 (.t 2)) none,
    .op (some 88) (.callD 29 [(.t 87)]) none,
    .op (some 89) (.callD 33 [(.t 86), (.t 88)]) none,
    .op (some 90) (.bin .eql (.t 89) (.c (.int .i64 4294967295))) none,
    .op (some 18) (.mov (.t 90)) none])
  (.seq (.reg [.op (some 91) (.mov (.t 5)) none,
    .op (some 92) (.mov (.t 91)) none,
    .op (some 93) (.mov (.t 14)) (some (92, true)),
    .op (some 94) (.mov (.t 8)) (some (92, true)),
    .op (some 95) (.mov (.t 6)) (some (92, true)),
    .op (some 96) (.bin .gtr (.t 94) (.t 95)) (some (92, true)),
    .op (some 97) (.call 34 [(.t 96)]) (some (92, true)),
    .op (some 98) (.bin .eql (.t 93) (.t 97)) (some (92, true)),
    .op (some 99) (.pick (.t 92) (.t 98) (.c (.bool false))) none,
    .op (some 100) (.mov (.t 99)) none,
    .op (some 101) (.mov (.t 17)) (some (100, true)),
    .op (some 102) (.mov (.t 10)) (some (100, true)),
    .op (some 103) (.mov (.t 6)) (some (100, true)),
    .op (some 104) (.bin .gtr (.t 102) (.t 103)) (some (100, true)),
    .op (some 105) (.mov (.t 104)) (some (100, true)),
    .op (some 106) (.mov (.t 18)) (some (105, false)),
    .op (some 107) (.pick (.t 105) (.c (.bool true)) (.t 106)) (some (100, true)),
    .op (some 108) (.call 34 [(.t 107)]) (some (100, true)),
    .op (some 109) (.bin .eql (.t 101) (.t 108)) (some (100, true)),
    .op (some 110) (.pick (.t 100) (.t 109) (.c (.bool false))) none,
    .op (some 4) (.mov (.t 110)) none])
  .ret))))))))))))))
def A7 : Ann := { n := 111, own := [], frz := [], ord := [(20, [0, 1, 2, 3, 4, 5], [[], [], [1], [0, 1, 2], [0, 1, 2, 3], [0, 1, 2, 3, 4]])] }
theorem facts7 : factsOf Try.prog A7 Try.f7 = some (c7, 111, [(4, none)], false) := by kernel_rfl

/- 8 leasehold/leaseholdlaw36.DiskTorn -/
def c8 : SCode := (.seq (.reg [.op (some 3) (.box 24 (.t 0)) none,
    .op (some 6) (.mov (.c (.bool false))) none])
  (.seq (.reg [.op (some 16) (.call 9 []) none,
    .op (some 7) (.mov (.t 16)) none])
  (.seq (.seq (.reg [.op (some 17) (.load true 1 (.t 3)) none,
    .op (some 18) (.call 10 [(.t 17), (.c (.slice none 0 0))]) none,
    .op (some 19) (.un .not (.t 18)) none,
    .op (some 20) (.mov (.t 19)) none,
    .op (some 21) (.load true 1 (.t 3)) (some (20, false)),
    .op (some 22) (.call 25 [(.t 21)]) (some (20, false)),
    .op (some 23) (.un .not (.t 22)) (some (20, false)),
    .op (some 24) (.pick (.t 20) (.c (.bool true)) (.t 23)) none,
    .op (some 25) (.mov (.t 24)) none,
    .op (some 26) (.mov (.t 1)) (some (25, false)),
    .op (some 27) (.len (.t 26)) (some (25, false)),
    .op (some 28) (.bin .eql (.t 27) (.c (.int .i64 0))) (some (25, false)),
    .op (some 29) (.pick (.t 25) (.c (.bool true)) (.t 28)) none,
    .op (some 30) (.mov (.t 29)) none,
    .op (some 31) (.mov (.t 1)) (some (30, false)),
    .op (some 32) (.len (.t 31)) (some (30, false)),
    .op (some 33) (.bin .gtr (.t 32) (.c (.int .i64 30))) (some (30, false)),
    .op (some 34) (.pick (.t 30) (.c (.bool true)) (.t 33)) none])
  (.cond (.t 34)
  (.seq (.reg [.op (some 35) (.mov (.t 7)) none,
      .op (some 6) (.mov (.t 35)) none])
    .ret)
  .skip))
  (.seq (.seq (.reg [.op (some 8) (.mov (.c (.int .i64 0))) none])
  (.block 0
  (.loop [36, 37, 38, 39, 42, 43, 44, 45, 46, 47, 48, 49, 50, 51, 52, 53, 54, 55, 56, 57, 6, 40, 41, 8]
    (.seq (.seq (.reg [.op (some 36) (.mov (.t 8)) none,
        .op (some 37) (.mov (.t 1)) none,
        .op (some 38) (.len (.t 37)) none,
        .op (some 39) (.bin .lss (.t 36) (.t 38)) none])
      (.cond (.t 39)
      .skip
      (.exit 0)))
      (.seq (.block 1
      (.seq (.regD [.op (some 42) (.loadD true 1 (.t 3)) none,
          .op (some 43) (.mov (.t 1)) none,
          .op (some 44) (.mov (.t 8)) none,
          .op (some 45) (.idxA 2 (.t 43) (.t 44)) none,
          .op (some 46) (.loadD true 2 (.t 45)) none,
          .op (some 47) (.callD 28 [(.t 42), (.t 46)]) none,
          .op (some 48) (.un .not (.t 47)) none])
        (.cond (.t 48)
        (.seq (.reg [.op (some 49) (.mov (.t 7)) none,
            .op (some 50) (.mov (.t 49)) none,
            .op (some 51) (.load true 1 (.t 3)) (some (50, true)),
            .op (some 52) (.mov (.t 1)) (some (50, true)),
            .op (some 53) (.call 19 [(.t 51), (.t 52), (.c (.int .i64 (-1)))]) (some (50, true)),
            .op (some 54) (.fieldV false 0 1 (.t 53)) (some (50, true)),
            .op (some 55) (.len (.t 54)) (some (50, true)),
            .op (some 56) (.bin .eql (.t 55) (.c (.int .i64 0))) (some (50, true)),
            .op (some 57) (.pick (.t 50) (.t 56) (.c (.bool false))) none,
            .op (some 6) (.mov (.t 57)) none])
          .ret)
        .skip)))
      (.reg [.op (some 40) (.mov (.t 8)) none,
        .op (some 41) (.bin .add (.t 40) (.c (.int .i64 1))) none,
        .op (some 8) (.mov (.t 41)) none]))))))
  (.seq (.reg [.op (some 58) (.mov (.t 1)) none,
    .op (some 59) (.mov (.t 1)) none,
    .op (some 60) (.len (.t 59)) none,
    .op (some 61) (.bin .sub (.t 60) (.c (.int .i64 1))) none,
    .op (some 62) (.idxA 2 (.t 58) (.t 61)) none,
    .op (some 63) (.load true 2 (.t 62)) none,
    .op (some 9) (.alloc 52 [(.int .i64 0), (.slice none 0 0)]) none,
    .op none (.store 2 (.t 9) (.t 63)) none])
  (.seq (.reg [.op (some 64) (.mov (.t 2)) none,
    .op (some 65) (.conv .i64 (.t 64)) none,
    .op (some 66) (.fieldA 1 (.t 9)) none,
    .op (some 67) (.load false 1 (.t 66)) none,
    .op (some 68) (.len (.t 67)) none,
    .op (some 69) (.bin .add (.t 68) (.c (.int .i64 1))) none,
    .op (some 70) (.bin .rem (.t 65) (.t 69)) none,
    .op (some 10) (.mov (.t 70)) none])
  (.seq (.reg [.op (some 71) (.load true 1 (.t 3)) none,
    .op (some 72) (.mov (.t 1)) none,
    .op (some 73) (.mov (.t 10)) none,
    .op (some 74) (.call 19 [(.t 71), (.t 72), (.t 73)]) none,
    .op (some 11) (.alloc 24 [(.slice none 0 0)]) none,
    .op none (.store 1 (.t 11) (.t 74)) none])
  (.seq (.regD [.op (some 75) (.loadD true 1 (.t 3)) none,
    .op (some 76) (.mov (.t 1)) none,
    .op (some 77) (.mov (.t 1)) none,
    .op (some 78) (.len (.t 77)) none,
    .op (some 79) (.bin .sub (.t 78) (.c (.int .i64 1))) none,
    .op (some 80) (.slc 2 (.t 76) none (some (.t 79))) none,
    .op (some 82) (.fieldA 0 (.t 9)) none,
    .op (some 83) (.loadD false 1 (.t 82)) none,
    .op (some 84) (.fieldA 1 (.t 9)) none,
    .op (some 85) (.loadD false 1 (.t 84)) none,
    .op (some 86) (.mov (.t 10)) none,
    .op (some 87) (.slc 1 (.t 85) none (some (.t 86))) none,
    .op (some 88) (.build [(.int .i64 0), (.slice none 0 0)] [(0, 1, (.t 83)), (1, 1, (.t 87))]) none,
    .op (some 81) (.callD 19 [(.t 75), (.t 80), (.c (.int .i64 (-1)))]) none,
    .op (some 89) (.mkFD 52 1 2 [(.t 88)]) none,
    .op (some 90) (.callD 19 [(.t 81), (.t 89), (.c (.int .i64 (-1)))]) none,
    .op (some 12) (.allocD 24 [(.slice none 0 0)]) none,
    .op none (.storeD 1 (.t 12) (.t 90)) none])
  (.seq (.seq (.reg [.op (some 91) (.load true 1 (.t 11)) none,
    .op (some 92) (.call 25 [(.t 91)]) none,
    .op (some 93) (.un .not (.t 92)) none,
    .op (some 94) (.mov (.t 93)) none,
    .op (some 95) (.fieldA 0 (.t 11)) (some (94, false)),
    .op (some 96) (.load false 1 (.t 95)) (some (94, false)),
    .op (some 97) (.len (.t 96)) (some (94, false)),
    .op (some 98) (.fieldA 0 (.t 3)) (some (94, false)),
    .op (some 99) (.load false 1 (.t 98)) (some (94, false)),
    .op (some 100) (.len (.t 99)) (some (94, false)),
    .op (some 101) (.bin .neq (.t 97) (.t 100)) (some (94, false)),
    .op (some 102) (.pick (.t 94) (.c (.bool true)) (.t 101)) none,
    .op (some 103) (.mov (.t 102)) none,
    .op (some 104) (.load true 1 (.t 11)) (some (103, false)),
    .op (some 105) (.load true 1 (.t 12)) (some (103, false)),
    .op (some 106) (.call 17 [(.t 104), (.t 105)]) (some (103, false)),
    .op (some 107) (.un .not (.t 106)) (some (103, false)),
    .op (some 108) (.pick (.t 103) (.c (.bool true)) (.t 107)) none])
  (.cond (.t 108)
  (.seq (.reg [.op (some 6) (.mov (.c (.bool false))) none])
    .ret)
  .skip))
  (.seq (.seq (.reg [.op (some 13) (.mov (.c (.int .i64 0))) none])
  (.block 2
  (.loop [109, 110, 111, 112, 113, 14, 15, 116, 117, 118, 119, 122, 123, 124, 125, 126, 127, 128, 129, 130, 131, 14, 120, 121, 15, 132, 133, 134, 135, 136, 137, 138, 139, 140, 141, 142, 143, 144, 145, 146, 147, 148, 6, 114, 115, 13]
    (.seq (.seq (.reg [.op (some 109) (.mov (.t 13)) none,
        .op (some 110) (.fieldA 0 (.t 3)) none,
        .op (some 111) (.load false 1 (.t 110)) none,
        .op (some 112) (.len (.t 111)) none,
        .op (some 113) (.bin .lss (.t 109) (.t 112)) none])
      (.cond (.t 113)
      .skip
      (.exit 2)))
      (.seq (.block 3
      (.seq (.reg [.op (some 14) (.mov (.c (.bool false))) none])
        (.seq (.seq (.reg [.op (some 15) (.mov (.c (.int .i64 0))) none])
        (.block 4
        (.loop [116, 117, 118, 119, 122, 123, 124, 125, 126, 127, 128, 129, 130, 131, 14, 120, 121, 15]
          (.seq (.seq (.reg [.op (some 116) (.mov (.t 15)) none,
              .op (some 117) (.mov (.t 1)) none,
              .op (some 118) (.len (.t 117)) none,
              .op (some 119) (.bin .lss (.t 116) (.t 118)) none])
            (.cond (.t 119)
            .skip
            (.exit 4)))
            (.seq (.block 5
            (.reg [.op (some 122) (.mov (.t 14)) none,
                .op (some 123) (.mov (.t 122)) none,
                .op (some 124) (.mov (.t 1)) (some (123, false)),
                .op (some 125) (.mov (.t 15)) (some (123, false)),
                .op (some 126) (.idxA 2 (.t 124) (.t 125)) (some (123, false)),
                .op (some 127) (.fieldA 0 (.t 126)) (some (123, false)),
                .op (some 128) (.load false 1 (.t 127)) (some (123, false)),
                .op (some 129) (.mov (.t 13)) (some (123, false)),
                .op (some 130) (.bin .eql (.t 128) (.t 129)) (some (123, false)),
                .op (some 131) (.pick (.t 123) (.c (.bool true)) (.t 130)) none,
                .op (some 14) (.mov (.t 131)) none]))
            (.reg [.op (some 120) (.mov (.t 15)) none,
              .op (some 121) (.bin .add (.t 120) (.c (.int .i64 1))) none,
              .op (some 15) (.mov (.t 121)) none]))))))
        (.seq (.regD [.op (some 132) (.mov (.t 14)) none,
          .op (some 133) (.un .not (.t 132)) none,
          .op (some 134) (.mov (.t 133)) none,
          .op (some 135) (.fieldA 0 (.t 11)) (some (134, true)),
          .op (some 136) (.loadD false 1 (.t 135)) (some (134, true)),
          .op (some 137) (.mov (.t 13)) (some (134, true)),
          .op (some 138) (.idxA 1 (.t 136) (.t 137)) (some (134, true)),
          .op (some 139) (.loadD false 1 (.t 138)) (some (134, true)),
          .op (some 140) (.b2sD (.t 139)) (some (134, true)),
          .op (some 141) (.fieldA 0 (.t 3)) (some (134, true)),
          .op (some 142) (.loadD false 1 (.t 141)) (some (134, true)),
          .op (some 143) (.mov (.t 13)) (some (134, true)),
          .op (some 144) (.idxA 1 (.t 142) (.t 143)) (some (134, true)),
          .op (some 145) (.loadD false 1 (.t 144)) (some (134, true)),
          .op (some 146) (.b2sD (.t 145)) (some (134, true)),
          .op (some 147) (.bin .neq (.t 140) (.t 146)) (some (134, true)),
          .op (some 148) (.pick (.t 134) (.t 147) (.c (.bool false))) none])
        (.cond (.t 148)
        (.seq (.reg [.op (some 6) (.mov (.c (.bool false))) none])
          .ret)
        .skip)))))
      (.reg [.op (some 114) (.mov (.t 13)) none,
        .op (some 115) (.bin .add (.t 114) (.c (.int .i64 1))) none,
        .op (some 13) (.mov (.t 115)) none]))))))
  (.seq (.reg [.op (some 149) (.mov (.t 7)) none,
    .op (some 6) (.mov (.t 149)) none])
  .ret)))))))))))
def A8 : Ann := { n := 150, own := [], frz := [], ord := [(7, [0, 1, 2, 3, 4, 5, 6], [[], [], [], [1, 2], [1, 2, 3], [0, 1, 2, 3, 4], [0, 1, 2, 3, 4, 5]]), (12, [0, 1, 2, 3, 4, 5, 7, 8, 9, 10, 11, 12, 13, 6, 14, 15, 16, 17], [[], [], [], [2], [2, 3], [1, 2, 3, 4], [0, 1, 2, 3, 4, 5], [], [7], [], [9], [], [9, 10, 11], [7, 8, 9, 10, 11, 12], [7, 8, 9, 10, 11, 12, 13], [0, 1, 2, 3, 4, 5, 6, 7, 8, 9, 10, 11, 12, 13, 14], [], [0, 1, 2, 3, 4, 5, 6, 7, 8, 9, 10, 11, 12, 13, 14, 15, 16]]), (23, [0, 1, 2, 3, 4, 5, 6, 7, 8, 9, 10, 11, 12, 13, 14, 15, 16], [[], [0], [0, 1], [0, 1, 2], [0, 1, 2, 3], [0, 1, 2], [0, 1, 2, 3, 4, 5], [0, 1, 2, 3, 4, 5, 6], [0, 1, 2, 3, 4, 5, 6, 7], [0, 1, 2], [0, 1, 2, 9], [0, 1, 2], [0, 1, 2, 9, 10, 11], [0, 1, 2, 9, 10, 11, 12], [0, 1, 2, 9, 10, 11, 12, 13], [0, 1, 2, 3, 4, 5, 6, 7, 8, 9, 10, 11, 12, 13, 14], [0, 1, 2, 3, 4, 5, 6, 7, 8, 9, 10, 11, 12, 13, 14, 15]])] }
theorem facts8 : factsOf Try.prog A8 Try.f8 = some (c8, 150, [(6, none)], false) := by kernel_rfl

/- 9 leasehold/leaseholdlaw36.head -/
def c9 : SCode := (.seq (.reg [.op (some 0) (.mov (.c (.bool false))) none])
  (.seq (.reg [.op (some 19) (.call 11 [(.c (.int .i64 4))]) none,
    .op (some 18) (.mov (.t 19)) none,
    .op (some 20) (.extr (.t 18) 0) none,
    .op (some 21) (.extr (.t 18) 1) none,
    .op (some 1) (.alloc 24 [(.slice none 0 0)]) none,
    .op none (.store 1 (.t 1) (.t 20)) none,
    .op (some 2) (.mov (.t 21)) none])
  (.seq (.reg [.op (some 23) (.load true 1 (.t 1)) none,
    .op (some 24) (.mkF 5 2 1 [(.c (.int .u8 5)), (.c (.int .u8 6))]) none,
    .op (some 25) (.call 13 [(.t 23), (.t 24)]) none,
    .op (some 22) (.mov (.t 25)) none,
    .op (some 26) (.extr (.t 22) 0) none,
    .op (some 27) (.extr (.t 22) 1) none,
    .op (some 3) (.mov (.t 26)) none,
    .op (some 4) (.mov (.t 27)) none])
  (.seq (.reg [.op (some 28) (.load true 1 (.t 1)) none,
    .op (some 29) (.mov (.t 3)) none,
    .op (some 30) (.call 19 [(.t 28), (.t 29), (.c (.int .i64 (-1)))]) none,
    .op none (.store 1 (.t 1) (.t 30)) none])
  (.seq (.reg [.op (some 32) (.load true 1 (.t 1)) none,
    .op (some 33) (.call 13 [(.t 32), (.c (.slice none 0 0))]) none,
    .op (some 31) (.mov (.t 33)) none,
    .op (some 34) (.extr (.t 31) 0) none,
    .op (some 35) (.extr (.t 31) 1) none,
    .op (some 5) (.mov (.t 34)) none,
    .op (some 6) (.mov (.t 35)) none])
  (.seq (.reg [.op (some 36) (.load true 1 (.t 1)) none,
    .op (some 37) (.mov (.t 5)) none,
    .op (some 38) (.call 19 [(.t 36), (.t 37), (.c (.int .i64 (-1)))]) none,
    .op none (.store 1 (.t 1) (.t 38)) none])
  (.seq (.reg [.op (some 39) (.load true 1 (.t 1)) none,
    .op (some 40) (.call 22 [(.t 39)]) none,
    .op (some 7) (.mov (.t 40)) none])
  (.seq (.reg [.op (some 42) (.load true 1 (.t 1)) none,
    .op (some 43) (.mkF 5 1 1 [(.c (.int .u8 9))]) none,
    .op (some 44) (.mkF 28 1 1 [(.t 43)]) none,
    .op (some 45) (.call 15 [(.t 42), (.t 44)]) none,
    .op (some 41) (.mov (.t 45)) none,
    .op (some 46) (.extr (.t 41) 0) none,
    .op (some 47) (.extr (.t 41) 1) none,
    .op (some 8) (.mov (.t 46)) none,
    .op (some 9) (.mov (.t 47)) none])
  (.seq (.reg [.op (some 48) (.load true 1 (.t 1)) none,
    .op (some 49) (.mov (.t 8)) none,
    .op (some 50) (.call 19 [(.t 48), (.t 49), (.c (.int .i64 4))]) none,
    .op (some 10) (.alloc 24 [(.slice none 0 0)]) none,
    .op none (.store 1 (.t 10) (.t 50)) none])
  (.seq (.reg [.op (some 51) (.load true 1 (.t 1)) none,
    .op (some 52) (.mov (.t 8)) none,
    .op (some 53) (.call 19 [(.t 51), (.t 52), (.c (.int .i64 (-1)))]) none,
    .op none (.store 1 (.t 1) (.t 53)) none])
  (.seq (.regD [.op (some 55) (.loadD true 1 (.t 1)) none,
    .op (some 56) (.makeSD 5 1 250 [(.int .u8 0)]) none,
    .op (some 57) (.callO 13 [(.t 55), (.t 56)]) none,
    .op (some 54) (.mov (.t 57)) none,
    .op (some 58) (.extr (.t 54) 0) none,
    .op (some 59) (.extr (.t 54) 1) none,
    .op (some 11) (.mov (.t 58)) none,
    .op (some 12) (.mov (.t 59)) none])
  (.seq (.reg [.op (some 61) (.call 11 [(.c (.int .i64 3))]) none,
    .op (some 60) (.mov (.t 61)) none,
    .op (some 62) (.extr (.t 60) 0) none,
    .op (some 63) (.extr (.t 60) 1) none,
    .op (some 13) (.alloc 24 [(.slice none 0 0)]) none,
    .op none (.store 1 (.t 13) (.t 62)) none,
    .op (some 14) (.mov (.t 63)) none])
  (.seq (.reg [.op (some 64) (.mov (.t 2)) none,
    .op (some 65) (.bin .eql (.t 64) (.c (.int .i64 0))) none,
    .op (some 66) (.mov (.t 65)) none,
    .op (some 67) (.mov (.t 4)) (some (66, true)),
    .op (some 68) (.bin .eql (.t 67) (.c (.int .i64 0))) (some (66, true)),
    .op (some 69) (.pick (.t 66) (.t 68) (.c (.bool false))) none,
    .op (some 70) (.mov (.t 69)) none,
    .op (some 71) (.mov (.t 6)) (some (70, true)),
    .op (some 72) (.bin .eql (.t 71) (.c (.int .i64 0))) (some (70, true)),
    .op (some 73) (.pick (.t 70) (.t 72) (.c (.bool false))) none,
    .op (some 74) (.mov (.t 73)) none,
    .op (some 75) (.mov (.t 9)) (some (74, true)),
    .op (some 76) (.bin .eql (.t 75) (.c (.int .i64 0))) (some (74, true)),
    .op (some 77) (.pick (.t 74) (.t 76) (.c (.bool false))) none,
    .op (some 78) (.mov (.t 77)) none,
    .op (some 79) (.mov (.t 12)) (some (78, true)),
    .op (some 80) (.bin .eql (.t 79) (.c (.int .i64 19))) (some (78, true)),
    .op (some 81) (.pick (.t 78) (.t 80) (.c (.bool false))) none,
    .op (some 82) (.mov (.t 81)) none,
    .op (some 83) (.mov (.t 14)) (some (82, true)),
    .op (some 84) (.bin .eql (.t 83) (.c (.int .i64 1))) (some (82, true)),
    .op (some 85) (.pick (.t 82) (.t 84) (.c (.bool false))) none,
    .op (some 86) (.mov (.t 85)) none,
    .op (some 87) (.mov (.t 7)) (some (86, true)),
    .op (some 88) (.mkF 5 2 1 [(.c (.int .u8 5)), (.c (.int .u8 6))]) (some (86, true)),
    .op (some 89) (.mkF 28 2 1 [(.t 88), (.c (.slice none 0 0))]) (some (86, true)),
    .op (some 90) (.call 21 [(.t 87), (.t 89)]) (some (86, true)),
    .op (some 91) (.pick (.t 86) (.t 90) (.c (.bool false))) none,
    .op (some 15) (.mov (.t 91)) none])
  (.seq (.reg [.op (some 92) (.mov (.t 3)) none,
    .op (some 93) (.mkF 5 6 1 [(.c (.int .u8 0)), (.c (.int .u8 0)), (.c (.int .u8 2)), (.c (.int .u8 5)), (.c (.int .u8 6)), (.c (.int .u8 0))]) none,
    .op (some 94) (.build [(.int .i64 0), (.slice none 0 0)] [(0, 1, (.c (.int .i64 1))), (1, 1, (.t 93))]) none,
    .op (some 95) (.mkF 5 1 1 [(.c (.int .u8 1))]) none,
    .op (some 96) (.build [(.int .i64 0), (.slice none 0 0)] [(0, 1, (.c (.int .i64 1))), (1, 1, (.t 95))]) none,
    .op (some 97) (.mkF 52 2 2 [(.t 94), (.t 96)]) none,
    .op (some 98) (.call 18 [(.t 92), (.t 97)]) none,
    .op (some 99) (.mov (.t 98)) none,
    .op (some 100) (.mov (.t 5)) (some (99, true)),
    .op (some 101) (.mkF 5 9 1 [(.c (.int .u8 1)), (.c (.int .u8 0)), (.c (.int .u8 2)), (.c (.int .u8 5)), (.c (.int .u8 6)), (.c (.int .u8 0)), (.c (.int .u8 0)), (.c (.int .u8 0)), (.c (.int .u8 0))]) (some (99, true)),
    .op (some 102) (.build [(.int .i64 0), (.slice none 0 0)] [(0, 1, (.c (.int .i64 1))), (1, 1, (.t 101))]) (some (99, true)),
    .op (some 103) (.mkF 5 6 1 [(.c (.int .u8 1)), (.c (.int .u8 0)), (.c (.int .u8 2)), (.c (.int .u8 5)), (.c (.int .u8 6)), (.c (.int .u8 1))]) (some (99, true)),
    .op (some 104) (.build [(.int .i64 0), (.slice none 0 0)] [(0, 1, (.c (.int .i64 1))), (1, 1, (.t 103))]) (some (99, true)),
    .op (some 105) (.mkF 52 2 2 [(.t 102), (.t 104)]) (some (99, true)),
    .op (some 106) (.call 18 [(.t 100), (.t 105)]) (some (99, true)),
    .op (some 107) (.pick (.t 99) (.t 106) (.c (.bool false))) none,
    .op (some 16) (.mov (.t 107)) none])
  (.seq (.reg [.op (some 108) (.mov (.t 8)) none,
    .op (some 109) (.makeS 5 1 1 [(.int .u8 0)] (.c (.int .i64 5)) (.c (.int .i64 5))) none,
    .frz 109,
    .op (some 110) (.build [(.int .i64 0), (.slice none 0 0)] [(0, 1, (.c (.int .i64 2))), (1, 1, (.t 109))]) none,
    .op (some 111) (.mkF 5 5 1 [(.c (.int .u8 1)), (.c (.int .u8 0)), (.c (.int .u8 1)), (.c (.int .u8 9)), (.c (.int .u8 0))]) none,
    .op (some 112) (.build [(.int .i64 0), (.slice none 0 0)] [(0, 1, (.c (.int .i64 3))), (1, 1, (.t 111))]) none,
    .op (some 113) (.mkF 5 5 1 [(.c (.int .u8 0)), (.c (.int .u8 0)), (.c (.int .u8 0)), (.c (.int .u8 1)), (.c (.int .u8 1))]) none,
    .op (some 114) (.build [(.int .i64 0), (.slice none 0 0)] [(0, 1, (.c (.int .i64 2))), (1, 1, (.t 113))]) none,
    .op (some 115) (.mkF 52 3 2 [(.t 110), (.t 112), (.t 114)]) none,
    .op (some 116) (.call 18 [(.t 108), (.t 115)]) none,
    .op (some 17) (.mov (.t 116)) none])
  (.seq (.reg [.op (some 117) (.mov (.t 15)) none,
    .op (some 118) (.mov (.t 117)) none,
    .op (some 119) (.mov (.t 16)) (some (118, true)),
    .op (some 120) (.pick (.t 118) (.t 119) (.c (.bool false))) none,
    .op (some 121) (.mov (.t 120)) none,
    .op (some 122) (.mov (.t 17)) (some (121, true)),
    .op (some 123) (.pick (.t 121) (.t 122) (.c (.bool false))) none,
    .op (some 124) (.mov (.t 123)) none,
    .op (some 125) (.load true 1 (.t 1)) (some (124, true)),
    .op (some 126) (.call 22 [(.t 125)]) (some (124, true)),
    .op (some 127) (.mkF 5 1 1 [(.c (.int .u8 9))]) (some (124, true)),
    .op (some 128) (.mkF 28 1 1 [(.t 127)]) (some (124, true)),
    .op (some 129) (.call 21 [(.t 126), (.t 128)]) (some (124, true)),
    .op (some 130) (.pick (.t 124) (.t 129) (.c (.bool false))) none,
    .op (some 131) (.mov (.t 130)) none,
    .op (some 132) (.load true 1 (.t 10)) (some (131, true)),
    .op (some 133) (.call 22 [(.t 132)]) (some (131, true)),
    .op (some 134) (.mov (.t 7)) (some (131, true)),
    .op (some 135) (.call 21 [(.t 133), (.t 134)]) (some (131, true)),
    .op (some 136) (.pick (.t 131) (.t 135) (.c (.bool false))) none,
    .op (some 0) (.mov (.t 136)) none])
  .ret))))))))))))))))
def A9 : Ann := { n := 137, own := [], frz := [(14, 2, [109])], ord := [(10, [0, 1, 2, 3, 4, 5, 6, 7], [[], [], [0, 1], [0, 1, 2], [0, 1, 2, 3], [0, 1, 2, 3], [0, 1, 2, 3, 4], [0, 1, 2, 3, 4, 5, 6]])], co := [57] }
theorem facts9 : factsOf Try.prog A9 Try.f9 = some (c9, 137, [(0, none)], false) := by kernel_rfl

/- 10 leasehold/leaseholdref36.Few -/
def c10 : SCode := (.seq (.reg [.op (some 2) (.box 24 (.t 0)) none,
    .op (some 4) (.mov (.c (.bool false))) none])
  (.seq (.seq (.reg [.op (some 5) (.mov (.c (.int .i64 0))) none])
  (.block 0
  (.loop [7, 8, 9, 10, 11, 14, 15, 16, 17, 18, 19, 20, 4, 12, 13, 5]
    (.seq (.seq (.reg [.op (some 7) (.mov (.t 5)) none,
        .op (some 8) (.fieldA 0 (.t 2)) none,
        .op (some 9) (.load false 1 (.t 8)) none,
        .op (some 10) (.len (.t 9)) none,
        .op (some 11) (.bin .lss (.t 7) (.t 10)) none])
      (.cond (.t 11)
      .skip
      (.exit 0)))
      (.seq (.block 1
      (.seq (.reg [.op (some 14) (.fieldA 0 (.t 2)) none,
          .op (some 15) (.load false 1 (.t 14)) none,
          .op (some 16) (.mov (.t 5)) none,
          .op (some 17) (.idxA 1 (.t 15) (.t 16)) none,
          .op (some 18) (.load false 1 (.t 17)) none,
          .op (some 19) (.len (.t 18)) none,
          .op (some 20) (.bin .gtr (.t 19) (.c (.int .i64 300))) none])
        (.cond (.t 20)
        (.seq (.reg [.op (some 4) (.mov (.c (.bool false))) none])
          .ret)
        .skip)))
      (.reg [.op (some 12) (.mov (.t 5)) none,
        .op (some 13) (.bin .add (.t 12) (.c (.int .i64 1))) none,
        .op (some 5) (.mov (.t 13)) none]))))))
  (.seq (.seq (.reg [.op (some 6) (.mov (.c (.int .i64 0))) none])
  (.block 2
  (.loop [21, 22, 23, 24, 27, 28, 29, 30, 31, 32, 4, 25, 26, 6]
    (.seq (.seq (.reg [.op (some 21) (.mov (.t 6)) none,
        .op (some 22) (.mov (.t 1)) none,
        .op (some 23) (.len (.t 22)) none,
        .op (some 24) (.bin .lss (.t 21) (.t 23)) none])
      (.cond (.t 24)
      .skip
      (.exit 2)))
      (.seq (.block 3
      (.seq (.reg [.op (some 27) (.mov (.t 1)) none,
          .op (some 28) (.mov (.t 6)) none,
          .op (some 29) (.idxA 1 (.t 27) (.t 28)) none,
          .op (some 30) (.load false 1 (.t 29)) none,
          .op (some 31) (.len (.t 30)) none,
          .op (some 32) (.bin .gtr (.t 31) (.c (.int .i64 2000))) none])
        (.cond (.t 32)
        (.seq (.reg [.op (some 4) (.mov (.c (.bool false))) none])
          .ret)
        .skip)))
      (.reg [.op (some 25) (.mov (.t 6)) none,
        .op (some 26) (.bin .add (.t 25) (.c (.int .i64 1))) none,
        .op (some 6) (.mov (.t 26)) none]))))))
  (.seq (.reg [.op (some 33) (.fieldA 0 (.t 2)) none,
    .op (some 34) (.load false 1 (.t 33)) none,
    .op (some 35) (.len (.t 34)) none,
    .op (some 36) (.bin .leq (.t 35) (.c (.int .i64 12))) none,
    .op (some 37) (.mov (.t 36)) none,
    .op (some 38) (.mov (.t 1)) (some (37, true)),
    .op (some 39) (.len (.t 38)) (some (37, true)),
    .op (some 40) (.bin .leq (.t 39) (.c (.int .i64 40))) (some (37, true)),
    .op (some 41) (.pick (.t 37) (.t 40) (.c (.bool false))) none,
    .op (some 4) (.mov (.t 41)) none])
  .ret))))
def A10 : Ann := { n := 42, own := [], frz := [], ord := [] }
theorem facts10 : factsOf Try.prog A10 Try.f10 = some (c10, 42, [(4, none)], false) := by kernel_rfl

/- 11 leasehold/disk.New -/
def c11 : SCode := (.seq (.reg [.op (some 2) (.alloc 24 [(.slice none 0 0)]) none,
    .op (some 3) (.mov (.c (.int .i64 0))) none])
  (.seq (.seq (.reg [.op (some 6) (.mov (.t 0)) none,
    .op (some 7) (.bin .lss (.t 6) (.c (.int .i64 4))) none,
    .op (some 8) (.mov (.t 7)) none,
    .op (some 9) (.mov (.t 0)) (some (8, false)),
    .op (some 10) (.bin .gtr (.t 9) (.c (.int .i64 400))) (some (8, false)),
    .op (some 11) (.pick (.t 8) (.c (.bool true)) (.t 10)) none])
  (.cond (.t 11)
  (.seq (.reg [.op (some 12) (.build [(.slice none 0 0)] []) none,
      .op none (.store 1 (.t 2) (.t 12)) none,
      .op (some 3) (.mov (.c (.int .i64 1))) none])
    .ret)
  .skip))
  (.seq (.reg [.op (some 13) (.mov (.t 0)) none,
    .op (some 14) (.makeS 28 1 24 [(.slice none 0 0)] (.t 13) (.t 13)) none,
    .op (some 15) (.build [(.slice none 0 0)] [(0, 1, (.t 14))]) none,
    .op (some 4) (.alloc 24 [(.slice none 0 0)]) none,
    .op none (.store 1 (.t 4) (.t 15)) none])
  (.seq (.seq (.reg [.op (some 16) (.fieldA 0 (.t 4)) none,
    .op (some 17) (.load false 1 (.t 16)) none,
    .op (some 18) (.len (.t 17)) none,
    .op (some 19) (.mov (.c (.int .i64 0))) none])
  (.block 0
  (.loop [20, 21, 5, 22, 23, 24, 25, 26, 27, 19]
    (.seq (.reg [.op (some 20) (.bin .lss (.t 19) (.t 18)) none])
      (.seq (.cond (.t 20)
      .skip
      (.exit 0))
      (.seq (.block 1
      (.seq (.reg [.op (some 21) (.mov (.t 19)) none,
          .op (some 5) (.mov (.t 21)) none])
        (.regD [.op (some 22) (.fieldA 0 (.t 4)) none,
          .op (some 23) (.loadD false 1 (.t 22)) none,
          .op (some 24) (.mov (.t 5)) none,
          .op (some 25) (.makeSD 5 1 256 [(.int .u8 0)]) none,
          .op (some 26) (.idxA 1 (.t 23) (.t 24)) none,
          .op none (.storeX 1 (.t 26) (.t 25)) none])))
      (.reg [.frz 25,
        .op (some 27) (.bin .add (.t 19) (.c (.int .i64 1))) none,
        .op (some 19) (.mov (.t 27)) none])))))))
  (.seq (.reg [.frz 14,
    .op (some 28) (.load true 1 (.t 4)) none,
    .op none (.store 1 (.t 2) (.t 28)) none,
    .op (some 3) (.mov (.c (.int .i64 0))) none])
  .ret)))))
def A11 : Ann := { n := 29, own := [], frz := [(8, 0, [25]), (9, 0, [14])], ord := [(7, [0, 1, 2, 3, 4, 5], [[], [0], [], [], [0, 1, 2, 3], [0, 1, 2, 3, 4]])], co := [999999] }
theorem facts11 : factsOf Try.prog A11 Try.f11 = some (c11, 29, [(2, some (true, 1)), (3, none)], false) := by kernel_rfl

/- 12 leasehold/leaseholdref36.New -/
def c12 : SCode := (.seq (.reg [.op (some 2) (.alloc 24 [(.slice none 0 0)]) none,
    .op (some 3) (.mov (.c (.int .i64 0))) none])
  (.seq (.seq (.reg [.op (some 6) (.mov (.t 0)) none,
    .op (some 7) (.bin .lss (.t 6) (.c (.int .i64 4))) none,
    .op (some 8) (.mov (.t 7)) none,
    .op (some 9) (.mov (.t 0)) (some (8, false)),
    .op (some 10) (.bin .gtr (.t 9) (.c (.int .i64 400))) (some (8, false)),
    .op (some 11) (.pick (.t 8) (.c (.bool true)) (.t 10)) none])
  (.cond (.t 11)
  (.seq (.reg [.op (some 12) (.build [(.slice none 0 0)] []) none,
      .op none (.store 1 (.t 2) (.t 12)) none,
      .op (some 3) (.mov (.c (.int .i64 1))) none])
    .ret)
  .skip))
  (.seq (.reg [.op (some 4) (.alloc 24 [(.slice none 0 0)]) none])
  (.seq (.seq (.reg [.op (some 5) (.mov (.c (.int .i64 0))) none])
  (.block 0
  (.loop [13, 14, 15, 18, 19, 20, 21, 22, 23, 16, 17, 5]
    (.seq (.seq (.reg [.op (some 13) (.mov (.t 5)) none,
        .op (some 14) (.mov (.t 0)) none,
        .op (some 15) (.bin .lss (.t 13) (.t 14)) none])
      (.cond (.t 15)
      .skip
      (.exit 0)))
      (.seq (.block 1
      (.regD [.op (some 18) (.fieldA 0 (.t 4)) none,
          .op (some 19) (.loadD false 1 (.t 18)) none,
          .op (some 20) (.makeSD 5 1 256 [(.int .u8 0)]) none,
          .op (some 21) (.mkFD 28 1 1 [(.t 20)]) none,
          .op (some 22) (.appD 28 1 24 [(.slice none 0 0)] (.t 19) (.t 21)) none,
          .op (some 23) (.fieldA 0 (.t 4)) none,
          .op none (.storeD 1 (.t 23) (.t 22)) none]))
      (.reg [.frz 20,
        .op (some 16) (.mov (.t 5)) none,
        .op (some 17) (.bin .add (.t 16) (.c (.int .i64 1))) none,
        .op (some 5) (.mov (.t 17)) none]))))))
  (.seq (.reg [.frz 22,
    .op (some 24) (.load true 1 (.t 4)) none,
    .op none (.store 1 (.t 2) (.t 24)) none,
    .op (some 3) (.mov (.c (.int .i64 0))) none])
  .ret)))))
def A12 : Ann := { n := 25, own := [], frz := [(6, 0, [20]), (8, 0, [22])], ord := [(7, [0, 1, 2, 3, 4, 5, 6], [[], [0], [], [2], [0, 1, 2, 3], [0, 1, 2, 3, 4], [0, 1, 2, 3, 4, 5]])] }
theorem facts12 : factsOf Try.prog A12 Try.f12 = some (c12, 25, [(2, some (true, 1)), (3, none)], false) := by kernel_rfl

/- 14 leasehold/leaseholdref36.Append -/
def c14 : SCode := (.seq (.reg [.op (some 2) (.box 24 (.t 0)) none,
    .op (some 4) (.mov (.c (.slice none 0 0))) none,
    .op (some 5) (.mov (.c (.int .i64 0))) none])
  (.seq (.seq (.reg [.op (some 11) (.load true 1 (.t 2)) none,
    .op (some 12) (.call 25 [(.t 11)]) none,
    .op (some 13) (.un .not (.t 12)) none,
    .op (some 14) (.mov (.t 13)) none,
    .op (some 15) (.mov (.t 1)) (some (14, false)),
    .op (some 16) (.len (.t 15)) (some (14, false)),
    .op (some 17) (.bin .gtr (.t 16) (.c (.int .i64 65535))) (some (14, false)),
    .op (some 18) (.pick (.t 14) (.c (.bool true)) (.t 17)) none])
  (.cond (.t 18)
  (.seq (.reg [.op (some 4) (.mov (.c (.slice none 0 0))) none,
      .op (some 5) (.mov (.c (.int .i64 1))) none])
    .ret)
  .skip))
  (.seq (.reg [.op (some 19) (.load true 1 (.t 2)) none,
    .op (some 20) (.call 29 [(.t 19)]) none,
    .op (some 6) (.mov (.t 20)) none])
  (.seq (.reg [.op (some 21) (.load true 1 (.t 2)) none,
    .op (some 22) (.mov (.t 6)) none,
    .op (some 23) (.call 31 [(.t 21), (.t 22)]) none,
    .op (some 7) (.mov (.t 23)) none])
  (.seq (.reg [.op (some 25) (.mov (.t 7)) none,
    .op (some 26) (.call 30 [(.t 25)]) none,
    .op (some 24) (.mov (.t 26)) none,
    .op (some 27) (.extr (.t 24) 0) none,
    .op (some 28) (.extr (.t 24) 1) none,
    .op (some 8) (.mov (.t 27)) none,
    .op (some 9) (.mov (.t 28)) none])
  (.seq (.seq (.reg [.op (some 29) (.mov (.t 9)) none,
    .op (some 30) (.bin .add (.t 29) (.c (.int .i64 3))) none,
    .op (some 31) (.mov (.t 1)) none,
    .op (some 32) (.len (.t 31)) none,
    .op (some 33) (.bin .add (.t 30) (.t 32)) none,
    .op (some 34) (.mov (.t 7)) none,
    .op (some 35) (.len (.t 34)) none,
    .op (some 36) (.bin .gtr (.t 33) (.t 35)) none])
  (.cond (.t 36)
  (.seq (.reg [.op (some 4) (.mov (.c (.slice none 0 0))) none,
      .op (some 5) (.mov (.c (.int .i64 19))) none])
    .ret)
  .skip))
  (.seq (.regD [.op (some 37) (.loadD true 1 (.t 2)) none,
    .op (some 38) (.mov (.t 6)) none,
    .op (some 39) (.mov (.t 9)) none,
    .op (some 40) (.mov (.t 1)) none,
    .op (some 42) (.mov (.t 9)) none,
    .op (some 43) (.mov (.t 7)) none,
    .op (some 44) (.len (.t 43)) none,
    .op (some 41) (.callD 44 [(.t 40), (.c (.int .u8 0))]) none,
    .op (some 45) (.callD 43 [(.t 41), (.t 42), (.t 44)]) none,
    .op (some 46) (.callD 42 [(.t 37), (.t 38), (.t 39), (.t 45)]) none,
    .op (some 10) (.mov (.t 46)) none])
  (.seq (.reg [.op (some 47) (.mov (.t 10)) none,
    .op (some 48) (.load true 1 (.t 2)) none,
    .op (some 49) (.mov (.t 6)) none,
    .op (some 50) (.mov (.t 9)) none,
    .op (some 51) (.mkF 5 1 1 [(.c (.int .u8 1))]) none,
    .op (some 52) (.call 42 [(.t 48), (.t 49), (.t 50), (.t 51)]) none,
    .op (some 53) (.app 52 2 32 [(.int .i64 0), (.slice none 0 0)] (.t 47) (.t 52)) none,
    .op (some 4) (.mov (.t 53)) none,
    .op (some 5) (.mov (.c (.int .i64 0))) none])
  .ret))))))))
def A14 : Ann := { n := 54, own := [], frz := [(12, 7, [46])], ord := [(8, [0, 1, 2, 3, 5, 6, 7, 4, 8, 9, 10], [[], [], [], [], [3], [], [], [6], [3, 4, 5, 6, 7], [0, 1, 2, 3, 4, 5, 6, 7, 8], [0, 1, 2, 3, 4, 5, 6, 7, 8, 9]])] }
theorem facts14 : factsOf Try.prog A14 Try.f14 = some (c14, 54, [(4, none), (5, none)], false) := by kernel_rfl

/- 15 leasehold/disk.Truncate -/
def c15 : SCode := (.seq (.reg [.op (some 2) (.box 24 (.t 0)) none,
    .op (some 4) (.mov (.c (.slice none 0 0))) none,
    .op (some 5) (.mov (.c (.int .i64 0))) none])
  (.seq (.reg [.op (some 6) (.mov (.fn 45)) none])
  (.seq (.seq (.reg [.op (some 15) (.load true 1 (.t 2)) none,
    .op (some 16) (.call 35 [(.t 15)]) none,
    .op (some 17) (.un .not (.t 16)) none,
    .op (some 18) (.mov (.t 17)) none,
    .op (some 19) (.mov (.t 1)) (some (18, false)),
    .op (some 20) (.mov (.t 6)) (some (18, false)),
    .op (some 21) (.call 46 [(.t 19), (.t 20)]) (some (18, false)),
    .op (some 22) (.pick (.t 18) (.c (.bool true)) (.t 21)) none])
  (.cond (.t 22)
  (.seq (.reg [.op (some 4) (.mov (.c (.slice none 0 0))) none,
      .op (some 5) (.mov (.c (.int .i64 1))) none])
    .ret)
  .skip))
  (.seq (.reg [.op (some 7) (.mov (.c (.slice none 0 0))) none])
  (.seq (.seq (.reg [.op (some 23) (.mov (.t 1)) none,
    .op (some 24) (.len (.t 23)) none,
    .op (some 25) (.mov (.c (.int .i64 0))) none])
  (.block 0
  (.loop [26, 27, 28, 9, 29, 30, 31, 32, 7, 33, 25]
    (.seq (.reg [.op (some 26) (.bin .lss (.t 25) (.t 24)) none])
      (.seq (.cond (.t 26)
      .skip
      (.exit 0))
      (.seq (.block 1
      (.seq (.reg [.op (some 27) (.idxA 1 (.t 23) (.t 25)) none,
          .op (some 28) (.load false 1 (.t 27)) none,
          .op (some 9) (.mov (.t 28)) none])
        (.reg [.op (some 29) (.mov (.t 7)) none,
          .op (some 30) (.mov (.t 9)) none,
          .op (some 31) (.call 41 [(.t 30), (.c (.int .u8 1))]) none,
          .op (some 32) (.app 5 1 1 [(.int .u8 0)] (.t 29) (.t 31)) none,
          .op (some 7) (.mov (.t 32)) none])))
      (.reg [.op (some 33) (.bin .add (.t 25) (.c (.int .i64 1))) none,
        .op (some 25) (.mov (.t 33)) none])))))))
  (.seq (.reg [.frz 32,
    .op (some 35) (.load true 1 (.t 2)) none,
    .op (some 36) (.call 36 [(.t 35)]) none,
    .op (some 34) (.mov (.t 36)) none,
    .op (some 37) (.extr (.t 34) 0) none,
    .op (some 38) (.extr (.t 34) 1) none,
    .op (some 10) (.alloc 61 [(.slice none 0 0), (.int .i64 0), (.int .i64 0)]) none,
    .op (some 11) (.alloc 61 [(.slice none 0 0), (.int .i64 0), (.int .i64 0)]) none,
    .op none (.store 3 (.t 10) (.t 37)) none,
    .op none (.store 3 (.t 11) (.t 38)) none])
  (.seq (.reg [.op (some 39) (.load true 3 (.t 10)) none,
    .op (some 40) (.call 47 [(.t 39)]) none,
    .op (some 41) (.mm true [(.c (.int .i64 0)), (.t 40)]) none,
    .op (some 12) (.mov (.t 41)) none])
  (.seq (.seq (.reg [.op (some 42) (.mov (.t 7)) none,
    .op (some 43) (.len (.t 42)) none,
    .op (some 44) (.load true 3 (.t 11)) none,
    .op (some 45) (.call 37 [(.t 44)]) none,
    .op (some 46) (.len (.t 45)) none,
    .op (some 47) (.bin .gtr (.t 43) (.t 46)) none,
    .op (some 48) (.mov (.t 47)) none,
    .op (some 49) (.mov (.t 12)) (some (48, false)),
    .op (some 50) (.bin .eql (.t 49) (.c (.int .i64 4294967295))) (some (48, false)),
    .op (some 51) (.pick (.t 48) (.c (.bool true)) (.t 50)) none])
  (.cond (.t 51)
  (.seq (.reg [.op (some 4) (.mov (.c (.slice none 0 0))) none,
      .op (some 5) (.mov (.c (.int .i64 19))) none])
    .ret)
  .skip))
  (.seq (.reg [.op (some 52) (.mkfn 48 [] [(.t 11)]) none,
    .op (some 13) (.mov (.t 52)) none])
  (.seq (.reg [.op (some 53) (.mov (.t 13)) none,
    .op (some 54) (.load true 3 (.t 11)) none,
    .op (some 55) (.call 49 [(.t 54)]) none,
    .op (some 56) (.slc 1 (.t 55) none (some (.c (.int .i64 4)))) none,
    .op (some 57) (.callV (.t 53) [(.t 56), (.c (.int .u8 0))]) none,
    .op (some 58) (.mkR 52 1 2 [(.t 57)]) none,
    .op (some 14) (.mov (.t 58)) none])
  (.seq (.regD [.op (some 59) (.mov (.t 14)) none,
    .op (some 60) (.loadD true 3 (.t 11)) none,
    .op (some 61) (.mov (.t 7)) none,
    .op (some 62) (.mkFD 5 1 1 [(.c (.int .u8 0))]) none,
    .op (some 63) (.mkFD 28 2 1 [(.t 61), (.t 62)]) none,
    .op (some 64) (.callD 40 [(.t 63)]) none,
    .op (some 65) (.callD 39 [(.t 60), (.c (.int .i64 0)), (.t 64)]) none,
    .op (some 66) (.appD 52 2 32 [(.int .i64 0), (.slice none 0 0)] (.t 59) (.t 65)) none,
    .op (some 14) (.mov (.t 66)) none])
  (.seq (.reg [.op (some 67) (.mov (.t 14)) none,
    .op (some 68) (.mov (.t 13)) none,
    .op (some 69) (.mov (.t 12)) none,
    .op (some 70) (.bin .add (.t 69) (.c (.int .i64 1))) none,
    .op (some 71) (.call 50 [(.t 70), (.c (.int .i64 4))]) none,
    .op (some 72) (.callV (.t 68) [(.t 71), (.c (.int .u8 1))]) none,
    .op (some 73) (.mkF 52 1 2 [(.t 72)]) none,
    .op (some 74) (.app 52 2 32 [(.int .i64 0), (.slice none 0 0)] (.t 67) (.t 73)) none,
    .frz 58,
    .op (some 4) (.mov (.t 74)) none,
    .op (some 5) (.mov (.c (.int .i64 0))) none])
  .ret))))))))))))
def A15 : Ann := { n := 75, own := [58], frz := [(10, 0, [32]), (17, 8, [58])], ord := [(16, [0, 1, 2, 3, 4, 5, 6, 7, 8], [[], [], [], [], [2, 3], [2, 3, 4], [1, 2, 3, 4, 5], [0, 1, 2, 3, 4, 5, 6], [0, 1, 2, 3, 4, 5, 6, 7]])] }
theorem facts15 : factsOf Try.prog A15 Try.f15 = some (c15, 75, [(4, none), (5, none)], false) := by kernel_rfl

/- 16 leasehold/leaseholdref36.Truncate -/
def c16 : SCode := (.seq (.reg [.op (some 2) (.box 24 (.t 0)) none,
    .op (some 4) (.mov (.c (.slice none 0 0))) none,
    .op (some 5) (.mov (.c (.int .i64 0))) none])
  (.seq (.seq (.reg [.op (some 14) (.load true 1 (.t 2)) none,
    .op (some 15) (.call 25 [(.t 14)]) none,
    .op (some 16) (.un .not (.t 15)) none])
  (.cond (.t 16)
  (.seq (.reg [.op (some 4) (.mov (.c (.slice none 0 0))) none,
      .op (some 5) (.mov (.c (.int .i64 1))) none])
    .ret)
  .skip))
  (.seq (.reg [.op (some 6) (.mov (.c (.slice none 0 0))) none])
  (.seq (.seq (.reg [.op (some 7) (.mov (.c (.int .i64 0))) none])
  (.block 0
  (.loop [17, 18, 19, 20, 23, 24, 25, 26, 27, 28, 4, 5, 29, 30, 31, 32, 33, 34, 35, 6, 21, 22, 7]
    (.seq (.seq (.reg [.op (some 17) (.mov (.t 7)) none,
        .op (some 18) (.mov (.t 1)) none,
        .op (some 19) (.len (.t 18)) none,
        .op (some 20) (.bin .lss (.t 17) (.t 19)) none])
      (.cond (.t 20)
      .skip
      (.exit 0)))
      (.seq (.block 1
      (.seq (.seq (.reg [.op (some 23) (.mov (.t 1)) none,
          .op (some 24) (.mov (.t 7)) none,
          .op (some 25) (.idxA 1 (.t 23) (.t 24)) none,
          .op (some 26) (.load false 1 (.t 25)) none,
          .op (some 27) (.len (.t 26)) none,
          .op (some 28) (.bin .gtr (.t 27) (.c (.int .i64 65535))) none])
        (.cond (.t 28)
        (.seq (.reg [.op (some 4) (.mov (.c (.slice none 0 0))) none,
            .op (some 5) (.mov (.c (.int .i64 1))) none])
          .ret)
        .skip))
        (.reg [.op (some 29) (.mov (.t 6)) none,
          .op (some 30) (.mov (.t 1)) none,
          .op (some 31) (.mov (.t 7)) none,
          .op (some 32) (.idxA 1 (.t 30) (.t 31)) none,
          .op (some 33) (.load false 1 (.t 32)) none,
          .op (some 34) (.call 44 [(.t 33), (.c (.int .u8 1))]) none,
          .op (some 35) (.app 5 1 1 [(.int .u8 0)] (.t 29) (.t 34)) none,
          .op (some 6) (.mov (.t 35)) none])))
      (.reg [.op (some 21) (.mov (.t 7)) none,
        .op (some 22) (.bin .add (.t 21) (.c (.int .i64 1))) none,
        .op (some 7) (.mov (.t 22)) none]))))))
  (.seq (.reg [.op (some 36) (.load true 1 (.t 2)) none,
    .op (some 37) (.call 29 [(.t 36)]) none,
    .op (some 8) (.mov (.t 37)) none])
  (.seq (.reg [.op (some 38) (.load true 1 (.t 2)) none,
    .op (some 39) (.mov (.t 8)) none,
    .op (some 40) (.call 33 [(.t 38), (.t 39)]) none,
    .op (some 41) (.mm true [(.c (.int .i64 0)), (.t 40)]) none,
    .op (some 9) (.mov (.t 41)) none])
  (.seq (.reg [.op (some 42) (.load true 1 (.t 2)) none,
    .op (some 43) (.call 32 [(.t 42)]) none,
    .op (some 44) (.bin .sub (.t 43) (.c (.int .i64 1))) none,
    .op (some 45) (.bin .mul (.t 44) (.c (.int .i64 256))) none,
    .op (some 10) (.mov (.t 45)) none])
  (.seq (.seq (.reg [.op (some 46) (.mov (.t 6)) none,
    .op (some 47) (.len (.t 46)) none,
    .op (some 48) (.mov (.t 10)) none,
    .op (some 49) (.bin .gtr (.t 47) (.t 48)) none,
    .op (some 50) (.mov (.t 49)) none,
    .op (some 51) (.mov (.t 9)) (some (50, false)),
    .op (some 52) (.bin .eql (.t 51) (.c (.int .i64 4294967295))) (some (50, false)),
    .op (some 53) (.pick (.t 50) (.c (.bool true)) (.t 52)) none])
  (.cond (.t 53)
  (.seq (.reg [.op (some 4) (.mov (.c (.slice none 0 0))) none,
      .op (some 5) (.mov (.c (.int .i64 19))) none])
    .ret)
  .skip))
  (.seq (.reg [.op (some 54) (.mov (.t 8)) none,
    .op (some 55) (.bin .sub (.c (.int .i64 1)) (.t 54)) none,
    .op (some 11) (.mov (.t 55)) none])
  (.seq (.reg [.op (some 56) (.mov (.t 11)) none,
    .op (some 57) (.load true 1 (.t 2)) none,
    .op (some 58) (.call 32 [(.t 57)]) none,
    .op (some 59) (.bin .mul (.t 56) (.t 58)) none,
    .op (some 12) (.mov (.t 59)) none])
  (.seq (.reg [.frz 35,
    .op (some 60) (.mov (.t 12)) none,
    .op (some 61) (.mkR 5 0 1 []) none,
    .op (some 62) (.fieldA 0 (.t 2)) none,
    .op (some 63) (.load false 1 (.t 62)) none,
    .op (some 64) (.mov (.t 12)) none,
    .op (some 65) (.idxA 1 (.t 63) (.t 64)) none,
    .op (some 66) (.load false 1 (.t 65)) none,
    .op (some 67) (.slc 1 (.t 66) none (some (.c (.int .i64 4)))) none,
    .op (some 68) (.app 5 1 1 [(.int .u8 0)] (.t 61) (.t 67)) none,
    .op (some 69) (.mkF 5 1 1 [(.c (.int .u8 0))]) none,
    .op (some 70) (.app 5 1 1 [(.int .u8 0)] (.t 68) (.t 69)) none,
    .frz 61,
    .op (some 71) (.build [(.int .i64 0), (.slice none 0 0)] [(0, 1, (.t 60)), (1, 1, (.t 70))]) none,
    .op (some 72) (.mkR 52 1 2 [(.t 71)]) none,
    .op (some 13) (.mov (.t 72)) none])
  (.seq (.regD [.op (some 73) (.mov (.t 13)) none,
    .op (some 74) (.loadD true 1 (.t 2)) none,
    .op (some 75) (.mov (.t 11)) none,
    .op (some 76) (.mov (.t 6)) none,
    .op (some 77) (.mov (.t 10)) none,
    .op (some 78) (.callD 43 [(.t 76), (.c (.int .i64 0)), (.t 77)]) none,
    .op (some 79) (.callD 42 [(.t 74), (.t 75), (.c (.int .i64 0)), (.t 78)]) none,
    .op (some 80) (.appD 52 2 32 [(.int .i64 0), (.slice none 0 0)] (.t 73) (.t 79)) none,
    .op (some 13) (.mov (.t 80)) none])
  (.seq (.reg [.op (some 81) (.mov (.t 9)) none,
    .op (some 82) (.bin .add (.t 81) (.c (.int .i64 1))) none,
    .op (some 9) (.mov (.t 82)) none])
  (.seq (.reg [.op (some 83) (.mov (.t 13)) none,
    .op (some 84) (.mov (.t 12)) none,
    .op (some 85) (.mov (.t 9)) none,
    .op (some 86) (.bin .quo (.t 85) (.c (.int .i64 16777216))) none,
    .op (some 87) (.conv .u8 (.t 86)) none,
    .op (some 88) (.mov (.t 9)) none,
    .op (some 89) (.bin .quo (.t 88) (.c (.int .i64 65536))) none,
    .op (some 90) (.bin .rem (.t 89) (.c (.int .i64 256))) none,
    .op (some 91) (.conv .u8 (.t 90)) none,
    .op (some 92) (.mov (.t 9)) none,
    .op (some 93) (.bin .quo (.t 92) (.c (.int .i64 256))) none,
    .op (some 94) (.bin .rem (.t 93) (.c (.int .i64 256))) none,
    .op (some 95) (.conv .u8 (.t 94)) none,
    .op (some 96) (.mov (.t 9)) none,
    .op (some 97) (.bin .rem (.t 96) (.c (.int .i64 256))) none,
    .op (some 98) (.conv .u8 (.t 97)) none,
    .op (some 99) (.mkF 5 5 1 [(.t 87), (.t 91), (.t 95), (.t 98), (.c (.int .u8 1))]) none,
    .op (some 100) (.build [(.int .i64 0), (.slice none 0 0)] [(0, 1, (.t 84)), (1, 1, (.t 99))]) none,
    .op (some 101) (.mkF 52 1 2 [(.t 100)]) none,
    .op (some 102) (.app 52 2 32 [(.int .i64 0), (.slice none 0 0)] (.t 83) (.t 101)) none,
    .frz 72,
    .op (some 4) (.mov (.t 102)) none,
    .op (some 5) (.mov (.c (.int .i64 0))) none])
  .ret))))))))))))))
def A16 : Ann := { n := 103, own := [61, 72], frz := [(17, 0, [35]), (17, 11, [61]), (20, 20, [72])], ord := [(18, [0, 1, 2, 3, 4, 5, 6, 7, 8], [[], [], [], [], [], [3, 4], [1, 2, 3, 4, 5], [0, 1, 2, 3, 4, 5, 6], [0, 1, 2, 3, 4, 5, 6, 7]])] }
theorem facts16 : factsOf Try.prog A16 Try.f16 = some (c16, 103, [(4, none), (5, none)], false) := by kernel_rfl

/- 17 leasehold/leaseholdref36.Same -/
def c17 : SCode := (.seq (.reg [.op (some 2) (.box 24 (.t 0)) none,
    .op (some 3) (.box 24 (.t 1)) none,
    .op (some 4) (.mov (.c (.bool false))) none])
  (.seq (.reg [.op (some 5) (.fieldA 0 (.t 2)) none,
    .op (some 6) (.load false 1 (.t 5)) none,
    .op (some 7) (.fieldA 0 (.t 3)) none,
    .op (some 8) (.load false 1 (.t 7)) none,
    .op (some 9) (.call 21 [(.t 6), (.t 8)]) none,
    .op (some 4) (.mov (.t 9)) none])
  .ret))
def A17 : Ann := { n := 10, own := [], frz := [], ord := [] }
theorem facts17 : factsOf Try.prog A17 Try.f17 = some (c17, 10, [(4, none)], false) := by kernel_rfl

/- 18 leasehold/leaseholdref36.SameWrites -/
def c18 : SCode := (.seq (.reg [.op (some 4) (.mov (.c (.bool false))) none])
  (.seq (.seq (.reg [.op (some 6) (.mov (.t 0)) none,
    .op (some 7) (.len (.t 6)) none,
    .op (some 8) (.mov (.t 1)) none,
    .op (some 9) (.len (.t 8)) none,
    .op (some 10) (.bin .neq (.t 7) (.t 9)) none])
  (.cond (.t 10)
  (.seq (.reg [.op (some 4) (.mov (.c (.bool false))) none])
    .ret)
  .skip))
  (.seq (.seq (.reg [.op (some 5) (.mov (.c (.int .i64 0))) none])
  (.block 0
  (.loop [11, 12, 13, 14, 17, 18, 19, 20, 21, 22, 23, 24, 25, 26, 27, 28, 29, 30, 31, 32, 33, 34, 35, 36, 37, 38, 39, 40, 41, 42, 4, 15, 16, 5]
    (.seq (.seq (.reg [.op (some 11) (.mov (.t 5)) none,
        .op (some 12) (.mov (.t 0)) none,
        .op (some 13) (.len (.t 12)) none,
        .op (some 14) (.bin .lss (.t 11) (.t 13)) none])
      (.cond (.t 14)
      .skip
      (.exit 0)))
      (.seq (.block 1
      (.seq (.regD [.op (some 17) (.mov (.t 0)) none,
          .op (some 18) (.mov (.t 5)) none,
          .op (some 19) (.idxA 2 (.t 17) (.t 18)) none,
          .op (some 20) (.fieldA 0 (.t 19)) none,
          .op (some 21) (.loadD false 1 (.t 20)) none,
          .op (some 22) (.mov (.t 1)) none,
          .op (some 23) (.mov (.t 5)) none,
          .op (some 24) (.idxA 2 (.t 22) (.t 23)) none,
          .op (some 25) (.fieldA 0 (.t 24)) none,
          .op (some 26) (.loadD false 1 (.t 25)) none,
          .op (some 27) (.bin .neq (.t 21) (.t 26)) none,
          .op (some 28) (.mov (.t 27)) none,
          .op (some 29) (.mov (.t 0)) (some (28, false)),
          .op (some 30) (.mov (.t 5)) (some (28, false)),
          .op (some 31) (.idxA 2 (.t 29) (.t 30)) (some (28, false)),
          .op (some 32) (.fieldA 1 (.t 31)) (some (28, false)),
          .op (some 33) (.loadD false 1 (.t 32)) (some (28, false)),
          .op (some 34) (.b2sD (.t 33)) (some (28, false)),
          .op (some 35) (.mov (.t 1)) (some (28, false)),
          .op (some 36) (.mov (.t 5)) (some (28, false)),
          .op (some 37) (.idxA 2 (.t 35) (.t 36)) (some (28, false)),
          .op (some 38) (.fieldA 1 (.t 37)) (some (28, false)),
          .op (some 39) (.loadD false 1 (.t 38)) (some (28, false)),
          .op (some 40) (.b2sD (.t 39)) (some (28, false)),
          .op (some 41) (.bin .neq (.t 34) (.t 40)) (some (28, false)),
          .op (some 42) (.pick (.t 28) (.c (.bool true)) (.t 41)) none])
        (.cond (.t 42)
        (.seq (.reg [.op (some 4) (.mov (.c (.bool false))) none])
          .ret)
        .skip)))
      (.reg [.op (some 15) (.mov (.t 5)) none,
        .op (some 16) (.bin .add (.t 15) (.c (.int .i64 1))) none,
        .op (some 5) (.mov (.t 16)) none]))))))
  (.seq (.reg [.op (some 4) (.mov (.c (.bool true))) none])
  .ret))))
def A18 : Ann := { n := 43, own := [], frz := [], ord := [(6, [0, 1, 2, 3, 4, 5, 6, 7, 8, 9, 10, 11, 12, 13, 14, 15, 16, 17, 18, 19, 20, 21, 22, 23, 24, 25], [[], [], [0, 1], [0, 1, 2], [0, 1, 2, 3], [], [], [5, 6], [5, 6, 7], [5, 6, 7, 8], [0, 1, 2, 3, 4, 5, 6, 7, 8, 9], [0, 1, 2, 3, 4, 5, 6, 7, 8, 9, 10], [0, 1, 2, 3, 4, 5, 6, 7, 8, 9, 10, 11], [0, 1, 2, 3, 4, 5, 6, 7, 8, 9, 10, 11], [0, 1, 2, 3, 4, 5, 6, 7, 8, 9, 10, 11, 12, 13], [0, 1, 2, 3, 4, 5, 6, 7, 8, 9, 10, 11, 12, 13, 14], [0, 1, 2, 3, 4, 5, 6, 7, 8, 9, 10, 11, 12, 13, 14, 15], [0, 1, 2, 3, 4, 5, 6, 7, 8, 9, 10, 11, 12, 13, 14, 15, 16], [0, 1, 2, 3, 4, 5, 6, 7, 8, 9, 10, 11], [0, 1, 2, 3, 4, 5, 6, 7, 8, 9, 10, 11], [0, 1, 2, 3, 4, 5, 6, 7, 8, 9, 10, 11, 18, 19], [0, 1, 2, 3, 4, 5, 6, 7, 8, 9, 10, 11, 18, 19, 20], [0, 1, 2, 3, 4, 5, 6, 7, 8, 9, 10, 11, 18, 19, 20, 21], [0, 1, 2, 3, 4, 5, 6, 7, 8, 9, 10, 11, 18, 19, 20, 21, 22], [0, 1, 2, 3, 4, 5, 6, 7, 8, 9, 10, 11, 12, 13, 14, 15, 16, 17, 18, 19, 20, 21, 22, 23], [0, 1, 2, 3, 4, 5, 6, 7, 8, 9, 10, 11, 12, 13, 14, 15, 16, 17, 18, 19, 20, 21, 22, 23, 24]])] }
theorem facts18 : factsOf Try.prog A18 Try.f18 = some (c18, 43, [(4, none)], false) := by kernel_rfl

/- 19 leasehold/disk.Apply -/
def c19 : SCode := (.seq (.reg [.op (some 3) (.boxF 24 (.t 0)) none,
    .op (some 6) (.alloc 24 [(.slice none 0 0)]) none])
  (.seq (.reg [.op (some 14) (.mkfn 51 [] [(.t 3)]) none,
    .op (some 7) (.mov (.t 14)) none])
  (.seq (.seq (.reg [.op (some 15) (.load true 1 (.t 3)) none,
    .op (some 16) (.call 35 [(.t 15)]) none,
    .op (some 17) (.un .not (.t 16)) none,
    .op (some 18) (.mov (.t 17)) none,
    .op (some 19) (.mov (.t 1)) (some (18, false)),
    .op (some 20) (.mov (.t 7)) (some (18, false)),
    .op (some 21) (.call 52 [(.t 19), (.t 20)]) (some (18, false)),
    .op (some 22) (.pick (.t 18) (.c (.bool true)) (.t 21)) none])
  (.cond (.t 22)
  (.seq (.reg [.op (some 23) (.build [(.slice none 0 0)] []) none,
      .op none (.store 1 (.t 6) (.t 23)) none])
    .ret)
  .skip))
  (.seq (.reg [.op (some 24) (.fieldA 0 (.t 3)) none,
    .op (some 25) (.load false 1 (.t 24)) none,
    .op (some 26) (.len (.t 25)) none,
    .op (some 27) (.makeS 28 1 24 [(.slice none 0 0)] (.t 26) (.t 26)) none,
    .op (some 28) (.build [(.slice none 0 0)] [(0, 1, (.t 27))]) none,
    .op (some 8) (.alloc 24 [(.slice none 0 0)]) none,
    .op none (.store 1 (.t 8) (.t 28)) none])
  (.seq (.seq (.reg [.op (some 29) (.fieldA 0 (.t 3)) none,
    .op (some 30) (.load false 1 (.t 29)) none,
    .op (some 31) (.len (.t 30)) none,
    .op (some 32) (.mov (.c (.int .i64 0))) none])
  (.block 0
  (.loop [33, 34, 35, 36, 9, 10, 37, 38, 39, 40, 41, 42, 43, 32]
    (.seq (.reg [.op (some 33) (.bin .lss (.t 32) (.t 31)) none])
      (.seq (.cond (.t 33)
      .skip
      (.exit 0))
      (.seq (.block 1
      (.seq (.reg [.op (some 34) (.mov (.t 32)) none,
          .op (some 35) (.idxA 1 (.t 30) (.t 32)) none,
          .op (some 36) (.load false 1 (.t 35)) none,
          .op (some 9) (.mov (.t 34)) none,
          .op (some 10) (.mov (.t 36)) none])
        (.regD [.op (some 37) (.fieldA 0 (.t 8)) none,
          .op (some 38) (.loadD false 1 (.t 37)) none,
          .op (some 39) (.mov (.t 9)) none,
          .op (some 40) (.mov (.t 10)) none,
          .op (some 41) (.callD 53 [(.t 40)]) none,
          .op (some 42) (.idxA 1 (.t 38) (.t 39)) none,
          .op none (.storeX 1 (.t 42) (.t 41)) none])))
      (.reg [.op (some 43) (.bin .add (.t 32) (.c (.int .i64 1))) none,
        .op (some 32) (.mov (.t 43)) none])))))))
  (.seq (.seq (.reg [.op (some 44) (.mov (.t 1)) none,
    .op (some 45) (.len (.t 44)) none,
    .op (some 46) (.mov (.c (.int .i64 0))) none])
  (.block 2
  (.loop [47, 48, 49, 50, 12, 11, 51, 52, 13, 53, 54, 55, 56, 57, 58, 59, 60, 61, 62, 63, 64, 65, 66, 67, 68, 69, 70, 13, 71, 72, 73, 74, 75, 76, 77, 78, 79, 46]
    (.seq (.reg [.op (some 47) (.bin .lss (.t 46) (.t 45)) none])
      (.seq (.cond (.t 47)
      .skip
      (.exit 2))
      (.seq (.block 3
      (.seq (.reg [.op (some 48) (.mov (.t 46)) none,
          .op (some 49) (.idxA 2 (.t 44) (.t 46)) none,
          .op (some 50) (.load true 2 (.t 49)) none,
          .op (some 12) (.alloc 52 [(.int .i64 0), (.slice none 0 0)]) none,
          .op (some 11) (.mov (.t 48)) none,
          .op none (.store 2 (.t 12) (.t 50)) none])
        (.seq (.reg [.op (some 51) (.fieldA 1 (.t 12)) none,
          .op (some 52) (.load false 1 (.t 51)) none,
          .op (some 13) (.mov (.t 52)) none])
        (.seq (.seq (.reg [.op (some 53) (.mov (.t 11)) none,
          .op (some 54) (.mov (.t 1)) none,
          .op (some 55) (.len (.t 54)) none,
          .op (some 56) (.bin .sub (.t 55) (.c (.int .i64 1))) none,
          .op (some 57) (.bin .eql (.t 53) (.t 56)) none,
          .op (some 58) (.mov (.t 57)) none,
          .op (some 59) (.mov (.t 2)) (some (58, true)),
          .op (some 60) (.bin .geq (.t 59) (.c (.int .i64 0))) (some (58, true)),
          .op (some 61) (.pick (.t 58) (.t 60) (.c (.bool false))) none,
          .op (some 62) (.mov (.t 61)) none,
          .op (some 63) (.mov (.t 2)) (some (62, true)),
          .op (some 64) (.mov (.t 13)) (some (62, true)),
          .op (some 65) (.len (.t 64)) (some (62, true)),
          .op (some 66) (.bin .lss (.t 63) (.t 65)) (some (62, true)),
          .op (some 67) (.pick (.t 62) (.t 66) (.c (.bool false))) none])
        (.cond (.t 67)
        (.reg [.op (some 68) (.mov (.t 13)) none,
            .op (some 69) (.mov (.t 2)) none,
            .op (some 70) (.slc 1 (.t 68) none (some (.t 69))) none,
            .op (some 13) (.mov (.t 70)) none])
        .skip))
        (.reg [.op (some 71) (.fieldA 0 (.t 8)) none,
          .op (some 72) (.load false 1 (.t 71)) none,
          .op (some 73) (.fieldA 0 (.t 12)) none,
          .op (some 74) (.load false 1 (.t 73)) none,
          .op (some 75) (.idxA 1 (.t 72) (.t 74)) none,
          .op (some 76) (.load false 1 (.t 75)) none,
          .op (some 77) (.mov (.t 13)) none,
          .op (some 78) (.copy 5 1 (.t 76) (.t 77)) none])))))
      (.reg [.op (some 79) (.bin .add (.t 46) (.c (.int .i64 1))) none,
        .op (some 46) (.mov (.t 79)) none])))))))
  (.seq (.reg [.op (some 80) (.load true 1 (.t 8)) none,
    .op none (.store 1 (.t 6) (.t 80)) none])
  .ret)))))))
def A19 : Ann := { n := 81, own := [3], frz := [], ord := [(8, [0, 1, 2, 3, 4, 5, 6], [[], [0], [], [], [3], [0, 1, 2, 3, 4], [0, 1, 2, 3, 4, 5]])], co := [999999] }
theorem facts19 : factsOf Try.prog A19 Try.f19 = some (c19, 81, [(6, some (true, 1))], false) := by kernel_rfl

/- 20 leasehold/leaseholdref36.Apply -/
def c20 : SCode := (.seq (.reg [.op (some 3) (.box 24 (.t 0)) none,
    .op (some 6) (.alloc 24 [(.slice none 0 0)]) none])
  (.seq (.seq (.reg [.op (some 12) (.load true 1 (.t 3)) none,
    .op (some 13) (.call 25 [(.t 12)]) none,
    .op (some 14) (.un .not (.t 13)) none])
  (.cond (.t 14)
  (.seq (.reg [.op (some 15) (.build [(.slice none 0 0)] []) none,
      .op none (.store 1 (.t 6) (.t 15)) none])
    .ret)
  .skip))
  (.seq (.seq (.reg [.op (some 7) (.mov (.c (.int .i64 0))) none])
  (.block 0
  (.loop [16, 17, 18, 19, 22, 23, 24, 25, 26, 27, 28, 29, 20, 21, 7]
    (.seq (.seq (.reg [.op (some 16) (.mov (.t 7)) none,
        .op (some 17) (.mov (.t 1)) none,
        .op (some 18) (.len (.t 17)) none,
        .op (some 19) (.bin .lss (.t 16) (.t 18)) none])
      (.cond (.t 19)
      .skip
      (.exit 0)))
      (.seq (.block 1
      (.seq (.regD [.op (some 22) (.loadD true 1 (.t 3)) none,
          .op (some 23) (.mov (.t 1)) none,
          .op (some 24) (.mov (.t 7)) none,
          .op (some 25) (.idxA 2 (.t 23) (.t 24)) none,
          .op (some 26) (.loadD true 2 (.t 25)) none,
          .op (some 27) (.callD 28 [(.t 22), (.t 26)]) none,
          .op (some 28) (.un .not (.t 27)) none])
        (.cond (.t 28)
        (.seq (.reg [.op (some 29) (.build [(.slice none 0 0)] []) none,
            .op none (.store 1 (.t 6) (.t 29)) none])
          .ret)
        .skip)))
      (.reg [.op (some 20) (.mov (.t 7)) none,
        .op (some 21) (.bin .add (.t 20) (.c (.int .i64 1))) none,
        .op (some 7) (.mov (.t 21)) none]))))))
  (.seq (.reg [.op (some 8) (.alloc 24 [(.slice none 0 0)]) none])
  (.seq (.seq (.reg [.op (some 9) (.mov (.c (.int .i64 0))) none])
  (.block 2
  (.loop [30, 31, 32, 33, 34, 37, 38, 39, 40, 41, 42, 43, 44, 45, 46, 47, 48, 35, 36, 9]
    (.seq (.seq (.reg [.op (some 30) (.mov (.t 9)) none,
        .op (some 31) (.fieldA 0 (.t 3)) none,
        .op (some 32) (.load false 1 (.t 31)) none,
        .op (some 33) (.len (.t 32)) none,
        .op (some 34) (.bin .lss (.t 30) (.t 33)) none])
      (.cond (.t 34)
      .skip
      (.exit 2)))
      (.seq (.block 3
      (.regD [.op (some 37) (.fieldA 0 (.t 8)) none,
          .op (some 38) (.loadD false 1 (.t 37)) none,
          .op (some 40) (.fieldA 0 (.t 3)) none,
          .op (some 41) (.loadD false 1 (.t 40)) none,
          .op (some 42) (.mov (.t 9)) none,
          .op (some 43) (.idxA 1 (.t 41) (.t 42)) none,
          .op (some 44) (.loadD false 1 (.t 43)) none,
          .op (some 39) (.makeSD 5 1 0 (List.replicate 1 undef)) none,
          .op (some 45) (.appD 5 1 1 [(.int .u8 0)] (.t 39) (.t 44)) none,
          .op (some 46) (.mkFD 28 1 1 [(.t 45)]) none,
          .op (some 47) (.appD 28 1 24 [(.slice none 0 0)] (.t 38) (.t 46)) none,
          .op (some 48) (.fieldA 0 (.t 8)) none,
          .op none (.storeD 1 (.t 48) (.t 47)) none]))
      (.reg [.op (some 35) (.mov (.t 9)) none,
        .op (some 36) (.bin .add (.t 35) (.c (.int .i64 1))) none,
        .op (some 9) (.mov (.t 36)) none]))))))
  (.seq (.seq (.reg [.frz 47,
    .op (some 10) (.mov (.c (.int .i64 0))) none])
  (.block 4
  (.loop [49, 50, 51, 52, 55, 56, 57, 58, 59, 11, 60, 61, 62, 63, 64, 65, 66, 67, 68, 69, 70, 71, 72, 73, 74, 75, 76, 77, 11, 78, 79, 80, 81, 82, 83, 84, 85, 86, 87, 88, 53, 54, 10]
    (.seq (.seq (.reg [.op (some 49) (.mov (.t 10)) none,
        .op (some 50) (.mov (.t 1)) none,
        .op (some 51) (.len (.t 50)) none,
        .op (some 52) (.bin .lss (.t 49) (.t 51)) none])
      (.cond (.t 52)
      .skip
      (.exit 4)))
      (.seq (.block 5
      (.seq (.reg [.op (some 55) (.mov (.t 1)) none,
          .op (some 56) (.mov (.t 10)) none,
          .op (some 57) (.idxA 2 (.t 55) (.t 56)) none,
          .op (some 58) (.fieldA 1 (.t 57)) none,
          .op (some 59) (.load false 1 (.t 58)) none,
          .op (some 11) (.mov (.t 59)) none])
        (.seq (.seq (.reg [.op (some 60) (.mov (.t 10)) none,
          .op (some 61) (.mov (.t 1)) none,
          .op (some 62) (.len (.t 61)) none,
          .op (some 63) (.bin .sub (.t 62) (.c (.int .i64 1))) none,
          .op (some 64) (.bin .eql (.t 60) (.t 63)) none,
          .op (some 65) (.mov (.t 64)) none,
          .op (some 66) (.mov (.t 2)) (some (65, true)),
          .op (some 67) (.bin .geq (.t 66) (.c (.int .i64 0))) (some (65, true)),
          .op (some 68) (.pick (.t 65) (.t 67) (.c (.bool false))) none,
          .op (some 69) (.mov (.t 68)) none,
          .op (some 70) (.mov (.t 2)) (some (69, true)),
          .op (some 71) (.mov (.t 11)) (some (69, true)),
          .op (some 72) (.len (.t 71)) (some (69, true)),
          .op (some 73) (.bin .leq (.t 70) (.t 72)) (some (69, true)),
          .op (some 74) (.pick (.t 69) (.t 73) (.c (.bool false))) none])
        (.cond (.t 74)
        (.reg [.op (some 75) (.mov (.t 11)) none,
            .op (some 76) (.mov (.t 2)) none,
            .op (some 77) (.slc 1 (.t 75) none (some (.t 76))) none,
            .op (some 11) (.mov (.t 77)) none])
        .skip))
        (.regD [.op (some 78) (.fieldA 0 (.t 8)) none,
          .op (some 79) (.loadD false 1 (.t 78)) none,
          .op (some 80) (.mov (.t 1)) none,
          .op (some 81) (.mov (.t 10)) none,
          .op (some 82) (.idxA 2 (.t 80) (.t 81)) none,
          .op (some 83) (.fieldA 0 (.t 82)) none,
          .op (some 84) (.loadD false 1 (.t 83)) none,
          .op (some 85) (.idxA 1 (.t 79) (.t 84)) none,
          .op (some 86) (.loadD false 1 (.t 85)) none,
          .op (some 87) (.mov (.t 11)) none,
          .op (some 88) (.copyX 5 1 (.t 86) (.t 87)) none]))))
      (.reg [.op (some 53) (.mov (.t 10)) none,
        .op (some 54) (.bin .add (.t 53) (.c (.int .i64 1))) none,
        .op (some 10) (.mov (.t 54)) none]))))))
  (.seq (.reg [.op (some 89) (.load true 1 (.t 8)) none,
    .op none (.store 1 (.t 6) (.t 89)) none])
  .ret)))))))
def A20 : Ann := { n := 90, own := [39], frz := [(13, 0, [47])], ord := [(6, [0, 1, 2, 3, 4, 5, 6], [[], [], [], [1, 2], [1, 2, 3], [0, 1, 2, 3, 4], [0, 1, 2, 3, 4, 5]]), (12, [0, 1, 3, 4, 5, 6, 7, 2, 8, 9, 10, 11, 12], [[], [0], [], [], [3], [], [3, 4, 5], [3, 4, 5, 6], [2, 3, 4, 5, 6, 7], [2, 3, 4, 5, 6, 7, 8], [0, 1, 2, 3, 4, 5, 6, 7, 8, 9], [0, 1, 2, 3, 4, 5, 6, 7, 8, 9, 10], [0, 1, 2, 3, 4, 5, 6, 7, 8, 9, 10, 11]]), (19, [0, 1, 2, 3, 4, 5, 6, 7, 8, 9, 10], [[], [0], [], [], [2, 3], [2, 3, 4], [2, 3, 4, 5], [0, 1, 2, 3, 4, 5, 6], [0, 1, 2, 3, 4, 5, 6, 7], [], [0, 1, 2, 3, 4, 5, 6, 7, 8, 9]])], co := [88] }
theorem facts20 : factsOf Try.prog A20 Try.f20 = some (c20, 90, [(6, some (true, 1))], false) := by kernel_rfl

/- 21 leasehold/leaseholdref36.SameRecords -/
def c21 : SCode := (.seq (.reg [.op (some 4) (.mov (.c (.bool false))) none])
  (.seq (.seq (.reg [.op (some 6) (.mov (.t 0)) none,
    .op (some 7) (.len (.t 6)) none,
    .op (some 8) (.mov (.t 1)) none,
    .op (some 9) (.len (.t 8)) none,
    .op (some 10) (.bin .neq (.t 7) (.t 9)) none])
  (.cond (.t 10)
  (.seq (.reg [.op (some 4) (.mov (.c (.bool false))) none])
    .ret)
  .skip))
  (.seq (.seq (.reg [.op (some 5) (.mov (.c (.int .i64 0))) none])
  (.block 0
  (.loop [11, 12, 13, 14, 17, 18, 19, 20, 21, 22, 23, 24, 25, 26, 27, 4, 15, 16, 5]
    (.seq (.seq (.reg [.op (some 11) (.mov (.t 5)) none,
        .op (some 12) (.mov (.t 0)) none,
        .op (some 13) (.len (.t 12)) none,
        .op (some 14) (.bin .lss (.t 11) (.t 13)) none])
      (.cond (.t 14)
      .skip
      (.exit 0)))
      (.seq (.block 1
      (.seq (.regD [.op (some 17) (.mov (.t 0)) none,
          .op (some 18) (.mov (.t 5)) none,
          .op (some 19) (.idxA 1 (.t 17) (.t 18)) none,
          .op (some 20) (.loadD false 1 (.t 19)) none,
          .op (some 21) (.b2sD (.t 20)) none,
          .op (some 22) (.mov (.t 1)) none,
          .op (some 23) (.mov (.t 5)) none,
          .op (some 24) (.idxA 1 (.t 22) (.t 23)) none,
          .op (some 25) (.loadD false 1 (.t 24)) none,
          .op (some 26) (.b2sD (.t 25)) none,
          .op (some 27) (.bin .neq (.t 21) (.t 26)) none])
        (.cond (.t 27)
        (.seq (.reg [.op (some 4) (.mov (.c (.bool false))) none])
          .ret)
        .skip)))
      (.reg [.op (some 15) (.mov (.t 5)) none,
        .op (some 16) (.bin .add (.t 15) (.c (.int .i64 1))) none,
        .op (some 5) (.mov (.t 16)) none]))))))
  (.seq (.reg [.op (some 4) (.mov (.c (.bool true))) none])
  .ret))))
def A21 : Ann := { n := 28, own := [], frz := [], ord := [(6, [0, 1, 2, 3, 4, 5, 6, 7, 8, 9, 10], [[], [], [0, 1], [0, 1, 2], [0, 1, 2, 3], [], [], [5, 6], [5, 6, 7], [5, 6, 7, 8], [0, 1, 2, 3, 4, 5, 6, 7, 8, 9]])] }
theorem facts21 : factsOf Try.prog A21 Try.f21 = some (c21, 28, [(4, none)], false) := by kernel_rfl

/- 23 leasehold/leaseholdref36.Records -/
def c23 : SCode := (.seq (.reg [.op (some 1) (.box 24 (.t 0)) none,
    .op (some 2) (.mov (.c (.slice none 0 0))) none])
  (.seq (.seq (.reg [.op (some 5) (.load true 1 (.t 1)) none,
    .op (some 6) (.call 25 [(.t 5)]) none,
    .op (some 7) (.un .not (.t 6)) none])
  (.cond (.t 7)
  (.seq (.reg [.op (some 2) (.mov (.c (.slice none 0 0))) none])
    .ret)
  .skip))
  (.seq (.regD [.op (some 9) (.loadD true 1 (.t 1)) none,
    .op (some 10) (.loadD true 1 (.t 1)) none,
    .op (some 11) (.callD 29 [(.t 10)]) none,
    .op (some 12) (.callD 31 [(.t 9), (.t 11)]) none,
    .op (some 13) (.callD 30 [(.t 12)]) none,
    .op (some 8) (.mov (.t 13)) none,
    .op (some 14) (.extr (.t 8) 0) none,
    .op (some 15) (.extr (.t 8) 1) none,
    .op (some 3) (.mov (.t 14)) none,
    .op (some 4) (.mov (.t 15)) none])
  (.seq (.reg [.op (some 16) (.mov (.t 3)) none,
    .op (some 2) (.mov (.t 16)) none])
  .ret))))
def A23 : Ann := { n := 17, own := [], frz := [], ord := [(3, [0, 1, 2, 3, 4, 5, 6, 7, 8, 9], [[], [], [1], [0, 1, 2], [0, 1, 2, 3], [0, 1, 2, 3, 4], [0, 1, 2, 3, 4, 5], [0, 1, 2, 3, 4, 5], [0, 1, 2, 3, 4, 5, 6], [0, 1, 2, 3, 4, 5, 6, 7, 8]])] }
theorem facts23 : factsOf Try.prog A23 Try.f23 = some (c23, 17, [(2, none)], false) := by kernel_rfl

/- 24 leasehold/leaseholdlaw36.operation -/
def c24 : SCode := (.seq (.reg [.op (some 3) (.box 24 (.t 0)) none,
    .op (some 6) (.mov (.c (.slice none 0 0))) none,
    .op (some 7) (.mov (.c (.slice none 0 0))) none,
    .op (some 8) (.mov (.c (.int .i64 0))) none])
  (.seq (.seq (.reg [.op (some 14) (.mov (.t 2)) none])
  (.cond (.t 14)
  (.seq (.reg [.op (some 16) (.load true 1 (.t 3)) none,
      .op (some 17) (.mov (.t 1)) none,
      .op (some 18) (.call 15 [(.t 16), (.t 17)]) none,
      .op (some 15) (.mov (.t 18)) none,
      .op (some 19) (.extr (.t 15) 0) none,
      .op (some 20) (.extr (.t 15) 1) none,
      .op (some 9) (.mov (.t 19)) none,
      .op (some 10) (.mov (.t 20)) none])
    (.seq (.reg [.op (some 21) (.mov (.t 9)) none,
      .op (some 22) (.mov (.t 1)) none,
      .op (some 23) (.mov (.t 10)) none,
      .op (some 6) (.mov (.t 21)) none,
      .op (some 7) (.mov (.t 22)) none,
      .op (some 8) (.mov (.t 23)) none])
    .ret))
  .skip))
  (.seq (.reg [.op (some 11) (.mov (.c (.slice none 0 0))) none])
  (.seq (.seq (.reg [.op (some 24) (.mov (.t 1)) none,
    .op (some 25) (.len (.t 24)) none,
    .op (some 26) (.bin .gtr (.t 25) (.c (.int .i64 0))) none])
  (.cond (.t 26)
  (.reg [.op (some 27) (.mov (.t 1)) none,
      .op (some 28) (.idxA 1 (.t 27) (.c (.int .i64 0))) none,
      .op (some 29) (.load false 1 (.t 28)) none,
      .op (some 11) (.mov (.t 29)) none])
  .skip))
  (.seq (.reg [.op (some 31) (.load true 1 (.t 3)) none,
    .op (some 32) (.mov (.t 11)) none,
    .op (some 33) (.call 13 [(.t 31), (.t 32)]) none,
    .op (some 30) (.mov (.t 33)) none,
    .op (some 34) (.extr (.t 30) 0) none,
    .op (some 35) (.extr (.t 30) 1) none,
    .op (some 12) (.mov (.t 34)) none,
    .op (some 13) (.mov (.t 35)) none])
  (.seq (.reg [.op (some 36) (.mov (.t 12)) none,
    .op (some 37) (.mkR 28 0 1 []) none,
    .op (some 38) (.load true 1 (.t 3)) none,
    .op (some 39) (.call 22 [(.t 38)]) none,
    .op (some 40) (.app 28 1 24 [(.slice none 0 0)] (.t 37) (.t 39)) none,
    .op (some 41) (.mov (.t 11)) none,
    .op (some 42) (.mkF 28 1 1 [(.t 41)]) none,
    .op (some 43) (.app 28 1 24 [(.slice none 0 0)] (.t 40) (.t 42)) none,
    .op (some 44) (.mov (.t 13)) none,
    .frz 37,
    .op (some 6) (.mov (.t 36)) none,
    .op (some 7) (.mov (.t 43)) none,
    .op (some 8) (.mov (.t 44)) none])
  .ret))))))
def A24 : Ann := { n := 45, own := [37], frz := [(8, 9, [37])], ord := [] }
theorem facts24 : factsOf Try.prog A24 Try.f24 = some (c24, 45, [(6, none), (7, none), (8, none)], false) := by kernel_rfl

/- 25 leasehold/leaseholdref36.Valid -/
def c25 : SCode := (.seq (.reg [.op (some 1) (.box 24 (.t 0)) none,
    .op (some 2) (.mov (.c (.bool false))) none])
  (.seq (.seq (.reg [.op (some 4) (.fieldA 0 (.t 1)) none,
    .op (some 5) (.load false 1 (.t 4)) none,
    .op (some 6) (.len (.t 5)) none,
    .op (some 7) (.bin .lss (.t 6) (.c (.int .i64 4))) none,
    .op (some 8) (.mov (.t 7)) none,
    .op (some 9) (.fieldA 0 (.t 1)) (some (8, false)),
    .op (some 10) (.load false 1 (.t 9)) (some (8, false)),
    .op (some 11) (.len (.t 10)) (some (8, false)),
    .op (some 12) (.bin .gtr (.t 11) (.c (.int .i64 400))) (some (8, false)),
    .op (some 13) (.pick (.t 8) (.c (.bool true)) (.t 12)) none])
  (.cond (.t 13)
  (.seq (.reg [.op (some 2) (.mov (.c (.bool false))) none])
    .ret)
  .skip))
  (.seq (.seq (.reg [.op (some 3) (.mov (.c (.int .i64 0))) none])
  (.block 0
  (.loop [14, 15, 16, 17, 18, 21, 22, 23, 24, 25, 26, 27, 2, 19, 20, 3]
    (.seq (.seq (.reg [.op (some 14) (.mov (.t 3)) none,
        .op (some 15) (.fieldA 0 (.t 1)) none,
        .op (some 16) (.load false 1 (.t 15)) none,
        .op (some 17) (.len (.t 16)) none,
        .op (some 18) (.bin .lss (.t 14) (.t 17)) none])
      (.cond (.t 18)
      .skip
      (.exit 0)))
      (.seq (.block 1
      (.seq (.reg [.op (some 21) (.fieldA 0 (.t 1)) none,
          .op (some 22) (.load false 1 (.t 21)) none,
          .op (some 23) (.mov (.t 3)) none,
          .op (some 24) (.idxA 1 (.t 22) (.t 23)) none,
          .op (some 25) (.load false 1 (.t 24)) none,
          .op (some 26) (.len (.t 25)) none,
          .op (some 27) (.bin .neq (.t 26) (.c (.int .i64 256))) none])
        (.cond (.t 27)
        (.seq (.reg [.op (some 2) (.mov (.c (.bool false))) none])
          .ret)
        .skip)))
      (.reg [.op (some 19) (.mov (.t 3)) none,
        .op (some 20) (.bin .add (.t 19) (.c (.int .i64 1))) none,
        .op (some 3) (.mov (.t 20)) none]))))))
  (.seq (.reg [.op (some 2) (.mov (.c (.bool true))) none])
  .ret))))
def A25 : Ann := { n := 28, own := [], frz := [], ord := [] }
theorem facts25 : factsOf Try.prog A25 Try.f25 = some (c25, 28, [(2, none)], false) := by kernel_rfl

/- 26 leasehold/leaseholdref36.Bytes -/
def c26 : SCode := (.seq (.reg [.op (some 2) (.mov (.c (.int .i64 0))) none])
  (.seq (.reg [.op (some 3) (.mov (.c (.int .i64 0))) none])
  (.seq (.seq (.reg [.op (some 4) (.mov (.c (.int .i64 0))) none])
  (.block 0
  (.loop [5, 6, 7, 8, 11, 12, 13, 14, 15, 16, 17, 18, 3, 9, 10, 4]
    (.seq (.seq (.reg [.op (some 5) (.mov (.t 4)) none,
        .op (some 6) (.mov (.t 0)) none,
        .op (some 7) (.len (.t 6)) none,
        .op (some 8) (.bin .lss (.t 5) (.t 7)) none])
      (.cond (.t 8)
      .skip
      (.exit 0)))
      (.seq (.block 1
      (.reg [.op (some 11) (.mov (.t 3)) none,
          .op (some 12) (.mov (.t 0)) none,
          .op (some 13) (.mov (.t 4)) none,
          .op (some 14) (.idxA 2 (.t 12) (.t 13)) none,
          .op (some 15) (.fieldA 1 (.t 14)) none,
          .op (some 16) (.load false 1 (.t 15)) none,
          .op (some 17) (.len (.t 16)) none,
          .op (some 18) (.bin .add (.t 11) (.t 17)) none,
          .op (some 3) (.mov (.t 18)) none]))
      (.reg [.op (some 9) (.mov (.t 4)) none,
        .op (some 10) (.bin .add (.t 9) (.c (.int .i64 1))) none,
        .op (some 4) (.mov (.t 10)) none]))))))
  (.seq (.reg [.op (some 19) (.mov (.t 3)) none,
    .op (some 2) (.mov (.t 19)) none])
  .ret))))
def A26 : Ann := { n := 20, own := [], frz := [], ord := [] }
theorem facts26 : factsOf Try.prog A26 Try.f26 = some (c26, 20, [(2, none)], false) := by kernel_rfl

/- 27 leasehold/leaseholdref36.Cut -/
def c27 : SCode := (.seq (.reg [.op (some 4) (.mov (.c (.slice none 0 0))) none,
    .op (some 5) (.mov (.c (.int .i64 0))) none])
  (.seq (.seq (.reg [.op (some 6) (.mov (.c (.int .i64 0))) none])
  (.block 0
  (.loop [7, 8, 9, 10, 13, 14, 15, 16, 17, 18, 19, 20, 21, 22, 23, 24, 25, 4, 5, 26, 27, 28, 29, 30, 31, 32, 33, 1, 11, 12, 6]
    (.seq (.seq (.reg [.op (some 7) (.mov (.t 6)) none,
        .op (some 8) (.mov (.t 0)) none,
        .op (some 9) (.len (.t 8)) none,
        .op (some 10) (.bin .lss (.t 7) (.t 9)) none])
      (.cond (.t 10)
      .skip
      (.exit 0)))
      (.seq (.block 1
      (.seq (.seq (.reg [.op (some 13) (.mov (.t 1)) none,
          .op (some 14) (.mov (.t 0)) none,
          .op (some 15) (.mov (.t 6)) none,
          .op (some 16) (.idxA 2 (.t 14) (.t 15)) none,
          .op (some 17) (.fieldA 1 (.t 16)) none,
          .op (some 18) (.load false 1 (.t 17)) none,
          .op (some 19) (.len (.t 18)) none,
          .op (some 20) (.bin .lss (.t 13) (.t 19)) none])
        (.cond (.t 20)
        (.seq (.reg [.op (some 21) (.mov (.t 0)) none,
            .op (some 22) (.mov (.t 6)) none,
            .op (some 23) (.bin .add (.t 22) (.c (.int .i64 1))) none,
            .op (some 24) (.slc 2 (.t 21) none (some (.t 23))) none,
            .op (some 25) (.mov (.t 1)) none,
            .op (some 4) (.mov (.t 24)) none,
            .op (some 5) (.mov (.t 25)) none])
          .ret)
        .skip))
        (.reg [.op (some 26) (.mov (.t 1)) none,
          .op (some 27) (.mov (.t 0)) none,
          .op (some 28) (.mov (.t 6)) none,
          .op (some 29) (.idxA 2 (.t 27) (.t 28)) none,
          .op (some 30) (.fieldA 1 (.t 29)) none,
          .op (some 31) (.load false 1 (.t 30)) none,
          .op (some 32) (.len (.t 31)) none,
          .op (some 33) (.bin .sub (.t 26) (.t 32)) none,
          .op (some 1) (.mov (.t 33)) none])))
      (.reg [.op (some 11) (.mov (.t 6)) none,
        .op (some 12) (.bin .add (.t 11) (.c (.int .i64 1))) none,
        .op (some 6) (.mov (.t 12)) none]))))))
  (.seq (.reg [.op (some 34) (.mov (.t 0)) none,
    .op (some 4) (.mov (.t 34)) none,
    .op (some 5) (.mov (.c (.int .i64 (-1)))) none])
  .ret)))
def A27 : Ann := { n := 35, own := [], frz := [], ord := [] }
theorem facts27 : factsOf Try.prog A27 Try.f27 = some (c27, 35, [(4, none), (5, none)], false) := by kernel_rfl

/- 28 leasehold/leaseholdref36.Write -/
def c28 : SCode := (.seq (.reg [.op (some 2) (.box 24 (.t 0)) none,
    .op (some 3) (.box 52 (.t 1)) none,
    .op (some 4) (.mov (.c (.bool false))) none])
  (.seq (.reg [.op (some 5) (.fieldA 0 (.t 3)) none,
    .op (some 6) (.load false 1 (.t 5)) none,
    .op (some 7) (.bin .geq (.t 6) (.c (.int .i64 0))) none,
    .op (some 8) (.mov (.t 7)) none,
    .op (some 9) (.fieldA 0 (.t 3)) (some (8, true)),
    .op (some 10) (.load false 1 (.t 9)) (some (8, true)),
    .op (some 11) (.fieldA 0 (.t 2)) (some (8, true)),
    .op (some 12) (.load false 1 (.t 11)) (some (8, true)),
    .op (some 13) (.len (.t 12)) (some (8, true)),
    .op (some 14) (.bin .lss (.t 10) (.t 13)) (some (8, true)),
    .op (some 15) (.pick (.t 8) (.t 14) (.c (.bool false))) none,
    .op (some 16) (.mov (.t 15)) none,
    .op (some 17) (.fieldA 1 (.t 3)) (some (16, true)),
    .op (some 18) (.load false 1 (.t 17)) (some (16, true)),
    .op (some 19) (.len (.t 18)) (some (16, true)),
    .op (some 20) (.bin .leq (.t 19) (.c (.int .i64 256))) (some (16, true)),
    .op (some 21) (.pick (.t 16) (.t 20) (.c (.bool false))) none,
    .op (some 4) (.mov (.t 21)) none])
  .ret))
def A28 : Ann := { n := 22, own := [], frz := [], ord := [] }
theorem facts28 : factsOf Try.prog A28 Try.f28 = some (c28, 22, [(4, none)], false) := by kernel_rfl

/- 29 leasehold/leaseholdref36.Present -/
def c29 : SCode := (.seq (.reg [.op (some 1) (.box 24 (.t 0)) none,
    .op (some 2) (.mov (.c (.int .i64 0))) none])
  (.seq (.seq (.regD [.op (some 3) (.loadD true 1 (.t 1)) none,
    .op (some 5) (.loadD true 1 (.t 1)) none,
    .op (some 4) (.callD 33 [(.t 3), (.c (.int .i64 1))]) none,
    .op (some 6) (.callD 33 [(.t 5), (.c (.int .i64 0))]) none,
    .op (some 7) (.bin .gtr (.t 4) (.t 6)) none])
  (.cond (.t 7)
  (.seq (.reg [.op (some 2) (.mov (.c (.int .i64 1))) none])
    .ret)
  .skip))
  (.seq (.reg [.op (some 2) (.mov (.c (.int .i64 0))) none])
  .ret)))
def A29 : Ann := { n := 8, own := [], frz := [], ord := [(1, [0, 2, 1, 3, 4], [[], [0], [], [0, 1, 2], [0, 1, 2, 3]])] }
theorem facts29 : factsOf Try.prog A29 Try.f29 = some (c29, 8, [(2, none)], false) := by kernel_rfl

/- 30 leasehold/leaseholdref36.Parsed -/
def c30 : SCode := (.seq (.reg [.op (some 2) (.mov (.c (.slice none 0 0))) none,
    .op (some 3) (.mov (.c (.int .i64 0))) none])
  (.seq (.reg [.op (some 4) (.mov (.c (.slice none 0 0))) none])
  (.seq (.reg [.op (some 5) (.mov (.c (.int .i64 0))) none])
  (.seq (.block 0
  (.loop [7, 8, 9, 10, 11, 12, 13, 14, 15, 16, 17, 18, 19, 20, 21, 22, 23, 24, 25, 26, 27, 28, 29, 30, 31, 32, 6, 33, 34, 35, 36, 37, 38, 39, 40, 41, 2, 3, 42, 43, 44, 45, 46, 47, 48, 49, 50, 51, 52, 53, 54, 4, 55, 56, 57, 58, 5]
    (.seq (.seq (.reg [.op (some 7) (.mov (.t 5)) none,
        .op (some 8) (.bin .add (.t 7) (.c (.int .i64 3))) none,
        .op (some 9) (.mov (.t 0)) none,
        .op (some 10) (.len (.t 9)) none,
        .op (some 11) (.bin .leq (.t 8) (.t 10)) none,
        .op (some 12) (.mov (.t 11)) none,
        .op (some 13) (.mov (.t 0)) (some (12, true)),
        .op (some 14) (.mov (.t 5)) (some (12, true)),
        .op (some 15) (.idxA 1 (.t 13) (.t 14)) (some (12, true)),
        .op (some 16) (.load false 1 (.t 15)) (some (12, true)),
        .op (some 17) (.bin .eql (.t 16) (.c (.int .u8 1))) (some (12, true)),
        .op (some 18) (.pick (.t 12) (.t 17) (.c (.bool false))) none])
      (.cond (.t 18)
      .skip
      (.exit 0)))
      (.block 1
      (.seq (.regD [.op (some 19) (.mov (.t 0)) none,
          .op (some 20) (.mov (.t 5)) none,
          .op (some 21) (.bin .add (.t 20) (.c (.int .i64 1))) none,
          .op (some 22) (.idxA 1 (.t 19) (.t 21)) none,
          .op (some 23) (.loadD false 1 (.t 22)) none,
          .op (some 24) (.conv .i64 (.t 23)) none,
          .op (some 25) (.bin .mul (.t 24) (.c (.int .i64 256))) none,
          .op (some 26) (.mov (.t 0)) none,
          .op (some 27) (.mov (.t 5)) none,
          .op (some 28) (.bin .add (.t 27) (.c (.int .i64 2))) none,
          .op (some 29) (.idxA 1 (.t 26) (.t 28)) none,
          .op (some 30) (.loadD false 1 (.t 29)) none,
          .op (some 31) (.conv .i64 (.t 30)) none,
          .op (some 32) (.bin .add (.t 25) (.t 31)) none,
          .op (some 6) (.mov (.t 32)) none])
        (.seq (.seq (.reg [.op (some 33) (.mov (.t 5)) none,
          .op (some 34) (.bin .add (.t 33) (.c (.int .i64 3))) none,
          .op (some 35) (.mov (.t 6)) none,
          .op (some 36) (.bin .add (.t 34) (.t 35)) none,
          .op (some 37) (.mov (.t 0)) none,
          .op (some 38) (.len (.t 37)) none,
          .op (some 39) (.bin .gtr (.t 36) (.t 38)) none])
        (.cond (.t 39)
        (.seq (.reg [.op (some 40) (.mov (.t 4)) none,
            .op (some 41) (.mov (.t 5)) none,
            .op (some 2) (.mov (.t 40)) none,
            .op (some 3) (.mov (.t 41)) none])
          .ret)
        .skip))
        (.seq (.reg [.op (some 42) (.mov (.t 4)) none,
          .op (some 43) (.mkR 5 0 1 []) none,
          .op (some 44) (.mov (.t 0)) none,
          .op (some 45) (.mov (.t 5)) none,
          .op (some 46) (.bin .add (.t 45) (.c (.int .i64 3))) none,
          .op (some 47) (.mov (.t 5)) none,
          .op (some 48) (.bin .add (.t 47) (.c (.int .i64 3))) none,
          .op (some 49) (.mov (.t 6)) none,
          .op (some 50) (.bin .add (.t 48) (.t 49)) none,
          .op (some 51) (.slc 1 (.t 44) (some (.t 46)) (some (.t 50))) none,
          .op (some 52) (.app 5 1 1 [(.int .u8 0)] (.t 43) (.t 51)) none,
          .frz 43,
          .op (some 53) (.mkF 28 1 1 [(.t 52)]) none,
          .op (some 54) (.app 28 1 24 [(.slice none 0 0)] (.t 42) (.t 53)) none,
          .op (some 4) (.mov (.t 54)) none])
        (.reg [.op (some 55) (.mov (.t 5)) none,
          .op (some 56) (.bin .add (.t 55) (.c (.int .i64 3))) none,
          .op (some 57) (.mov (.t 6)) none,
          .op (some 58) (.bin .add (.t 56) (.t 57)) none,
          .op (some 5) (.mov (.t 58)) none]))))))))
  (.seq (.reg [.op (some 59) (.mov (.t 4)) none,
    .op (some 60) (.mov (.t 5)) none,
    .op (some 2) (.mov (.t 59)) none,
    .op (some 3) (.mov (.t 60)) none])
  .ret)))))
def A30 : Ann := { n := 61, own := [43], frz := [(7, 11, [43])], ord := [(4, [0, 1, 2, 3, 4, 5, 6, 7, 8, 9, 10, 11, 12, 13, 14], [[], [], [1], [0, 1, 2], [0, 1, 2, 3], [0, 1, 2, 3, 4], [0, 1, 2, 3, 4, 5], [], [], [8], [7, 8, 9], [7, 8, 9, 10], [7, 8, 9, 10, 11], [0, 1, 2, 3, 4, 5, 6, 7, 8, 9, 10, 11, 12], [0, 1, 2, 3, 4, 5, 6, 7, 8, 9, 10, 11, 12, 13]])] }
theorem facts30 : factsOf Try.prog A30 Try.f30 = some (c30, 61, [(2, none), (3, none)], false) := by kernel_rfl

/- 31 leasehold/leaseholdref36.Space -/
def c31 : SCode := (.seq (.reg [.op (some 2) (.box 24 (.t 0)) none,
    .op (some 4) (.mov (.c (.slice none 0 0))) none])
  (.seq (.reg [.op (some 5) (.mov (.c (.slice none 0 0))) none])
  (.seq (.seq (.reg [.op (some 6) (.mov (.c (.int .i64 1))) none])
  (.block 0
  (.loop [7, 8, 9, 10, 13, 14, 15, 16, 17, 18, 19, 20, 21, 22, 23, 24, 5, 11, 12, 6]
    (.seq (.seq (.reg [.op (some 7) (.mov (.t 6)) none,
        .op (some 8) (.load true 1 (.t 2)) none,
        .op (some 9) (.call 32 [(.t 8)]) none,
        .op (some 10) (.bin .lss (.t 7) (.t 9)) none])
      (.cond (.t 10)
      .skip
      (.exit 0)))
      (.seq (.block 1
      (.regD [.op (some 13) (.mov (.t 5)) none,
          .op (some 14) (.fieldA 0 (.t 2)) none,
          .op (some 15) (.loadD false 1 (.t 14)) none,
          .op (some 16) (.mov (.t 1)) none,
          .op (some 17) (.loadD true 1 (.t 2)) none,
          .op (some 20) (.mov (.t 6)) none,
          .op (some 18) (.callD 32 [(.t 17)]) none,
          .op (some 19) (.bin .mul (.t 16) (.t 18)) none,
          .op (some 21) (.bin .add (.t 19) (.t 20)) none,
          .op (some 22) (.idxA 1 (.t 15) (.t 21)) none,
          .op (some 23) (.loadD false 1 (.t 22)) none,
          .op (some 24) (.appD 5 1 1 [(.int .u8 0)] (.t 13) (.t 23)) none,
          .op (some 5) (.mov (.t 24)) none]))
      (.reg [.op (some 11) (.mov (.t 6)) none,
        .op (some 12) (.bin .add (.t 11) (.c (.int .i64 1))) none,
        .op (some 6) (.mov (.t 12)) none]))))))
  (.seq (.reg [.op (some 25) (.mov (.t 5)) none,
    .op (some 4) (.mov (.t 25)) none])
  .ret))))
def A31 : Ann := { n := 26, own := [], frz := [], ord := [(5, [0, 1, 2, 3, 4, 7, 5, 6, 8, 9, 10, 11, 12], [[], [], [1], [], [], [4], [3, 4, 5], [], [3, 4, 5, 6, 7], [1, 2, 3, 4, 5, 6, 7, 8], [1, 2, 3, 4, 5, 6, 7, 8, 9], [0, 1, 2, 3, 4, 5, 6, 7, 8, 9, 10], [0, 1, 2, 3, 4, 5, 6, 7, 8, 9, 10, 11]])] }
theorem facts31 : factsOf Try.prog A31 Try.f31 = some (c31, 26, [(4, none)], false) := by kernel_rfl

/- 32 leasehold/leaseholdref36.Half -/
def c32 : SCode := (.seq (.reg [.op (some 1) (.box 24 (.t 0)) none,
    .op (some 2) (.mov (.c (.int .i64 0))) none])
  (.seq (.reg [.op (some 3) (.fieldA 0 (.t 1)) none,
    .op (some 4) (.load false 1 (.t 3)) none,
    .op (some 5) (.len (.t 4)) none,
    .op (some 6) (.bin .quo (.t 5) (.c (.int .i64 2))) none,
    .op (some 2) (.mov (.t 6)) none])
  .ret))
def A32 : Ann := { n := 7, own := [], frz := [], ord := [] }
theorem facts32 : factsOf Try.prog A32 Try.f32 = some (c32, 7, [(2, none)], false) := by kernel_rfl

/- 33 leasehold/leaseholdref36.Generation -/
def c33 : SCode := (.seq (.reg [.op (some 2) (.box 24 (.t 0)) none,
    .op (some 4) (.mov (.c (.int .i64 0))) none])
  (.seq (.regD [.op (some 6) (.fieldA 0 (.t 2)) none,
    .op (some 7) (.loadD false 1 (.t 6)) none,
    .op (some 8) (.mov (.t 1)) none,
    .op (some 9) (.loadD true 1 (.t 2)) none,
    .op (some 10) (.callD 32 [(.t 9)]) none,
    .op (some 11) (.bin .mul (.t 8) (.t 10)) none,
    .op (some 12) (.idxA 1 (.t 7) (.t 11)) none,
    .op (some 13) (.loadD false 1 (.t 12)) none,
    .op (some 5) (.mov (.t 13)) none])
  (.seq (.seq (.reg [.op (some 14) (.mov (.t 5)) none,
    .op (some 15) (.idxA 1 (.t 14) (.c (.int .i64 4))) none,
    .op (some 16) (.load false 1 (.t 15)) none,
    .op (some 17) (.bin .neq (.t 16) (.c (.int .u8 1))) none])
  (.cond (.t 17)
  (.seq (.reg [.op (some 4) (.mov (.c (.int .i64 (-1)))) none])
    .ret)
  .skip))
  (.seq (.regD [.op (some 18) (.mov (.t 5)) none,
    .op (some 19) (.idxA 1 (.t 18) (.c (.int .i64 0))) none,
    .op (some 20) (.loadD false 1 (.t 19)) none,
    .op (some 21) (.conv .i64 (.t 20)) none,
    .op (some 22) (.bin .mul (.t 21) (.c (.int .i64 256))) none,
    .op (some 23) (.mov (.t 5)) none,
    .op (some 24) (.idxA 1 (.t 23) (.c (.int .i64 1))) none,
    .op (some 25) (.loadD false 1 (.t 24)) none,
    .op (some 26) (.conv .i64 (.t 25)) none,
    .op (some 27) (.bin .add (.t 22) (.t 26)) none,
    .op (some 28) (.bin .mul (.t 27) (.c (.int .i64 256))) none,
    .op (some 29) (.mov (.t 5)) none,
    .op (some 30) (.idxA 1 (.t 29) (.c (.int .i64 2))) none,
    .op (some 31) (.loadD false 1 (.t 30)) none,
    .op (some 32) (.conv .i64 (.t 31)) none,
    .op (some 33) (.bin .add (.t 28) (.t 32)) none,
    .op (some 34) (.bin .mul (.t 33) (.c (.int .i64 256))) none,
    .op (some 35) (.mov (.t 5)) none,
    .op (some 36) (.idxA 1 (.t 35) (.c (.int .i64 3))) none,
    .op (some 37) (.loadD false 1 (.t 36)) none,
    .op (some 38) (.conv .i64 (.t 37)) none,
    .op (some 39) (.bin .add (.t 34) (.t 38)) none,
    .op (some 4) (.mov (.t 39)) none])
  .ret))))
def A33 : Ann := { n := 40, own := [], frz := [], ord := [(1, [0, 1, 2, 3, 4, 5, 6, 7, 8], [[], [0], [], [], [3], [2, 3, 4], [0, 1, 2, 3, 4, 5], [0, 1, 2, 3, 4, 5, 6], [0, 1, 2, 3, 4, 5, 6, 7]]), (4, [0, 1, 2, 3, 4, 5, 6, 7, 8, 9, 10, 11, 12, 13, 14, 15, 16, 17, 18, 19, 20, 21, 22], [[], [0], [0, 1], [0, 1, 2], [0, 1, 2, 3], [], [5], [5, 6], [5, 6, 7], [0, 1, 2, 3, 4, 5, 6, 7, 8], [0, 1, 2, 3, 4, 5, 6, 7, 8, 9], [], [11], [11, 12], [11, 12, 13], [0, 1, 2, 3, 4, 5, 6, 7, 8, 9, 10, 11, 12, 13, 14], [0, 1, 2, 3, 4, 5, 6, 7, 8, 9, 10, 11, 12, 13, 14, 15], [], [17], [17, 18], [17, 18, 19], [0, 1, 2, 3, 4, 5, 6, 7, 8, 9, 10, 11, 12, 13, 14, 15, 16, 17, 18, 19, 20], [0, 1, 2, 3, 4, 5, 6, 7, 8, 9, 10, 11, 12, 13, 14, 15, 16, 17, 18, 19, 20, 21]])] }
theorem facts33 : factsOf Try.prog A33 Try.f33 = some (c33, 40, [(4, none)], false) := by kernel_rfl

/- 34 leasehold/leaseholdlaw36.expected -/
def c34 : SCode := (.seq (.reg [.op (some 2) (.mov (.c (.int .i64 0))) none])
  (.seq (.seq (.reg [.op (some 3) (.mov (.t 0)) none])
  (.cond (.t 3)
  (.seq (.reg [.op (some 2) (.mov (.c (.int .i64 19))) none])
    .ret)
  .skip))
  (.seq (.reg [.op (some 2) (.mov (.c (.int .i64 0))) none])
  .ret)))
def A34 : Ann := { n := 4, own := [], frz := [], ord := [] }
theorem facts34 : factsOf Try.prog A34 Try.f34 = some (c34, 4, [(2, none)], false) := by kernel_rfl

/- 35 leasehold/disk.valid -/
def c35 : SCode := (.seq (.reg [.op (some 1) (.box 24 (.t 0)) none,
    .op (some 2) (.mov (.c (.bool false))) none])
  (.seq (.reg [.op (some 3) (.mov (.fn 54)) none])
  (.seq (.reg [.op (some 4) (.fieldA 0 (.t 1)) none,
    .op (some 5) (.load false 1 (.t 4)) none,
    .op (some 6) (.len (.t 5)) none,
    .op (some 7) (.bin .geq (.t 6) (.c (.int .i64 4))) none,
    .op (some 8) (.mov (.t 7)) none,
    .op (some 9) (.fieldA 0 (.t 1)) (some (8, true)),
    .op (some 10) (.load false 1 (.t 9)) (some (8, true)),
    .op (some 11) (.len (.t 10)) (some (8, true)),
    .op (some 12) (.bin .leq (.t 11) (.c (.int .i64 400))) (some (8, true)),
    .op (some 13) (.pick (.t 8) (.t 12) (.c (.bool false))) none,
    .op (some 14) (.mov (.t 13)) none,
    .op (some 15) (.fieldA 0 (.t 1)) (some (14, true)),
    .op (some 16) (.load false 1 (.t 15)) (some (14, true)),
    .op (some 17) (.mov (.t 3)) (some (14, true)),
    .op (some 18) (.call 46 [(.t 16), (.t 17)]) (some (14, true)),
    .op (some 19) (.un .not (.t 18)) (some (14, true)),
    .op (some 20) (.pick (.t 14) (.t 19) (.c (.bool false))) none,
    .op (some 2) (.mov (.t 20)) none])
  .ret)))
def A35 : Ann := { n := 21, own := [], frz := [], ord := [] }
theorem facts35 : factsOf Try.prog A35 Try.f35 = some (c35, 21, [(2, none)], false) := by kernel_rfl

/- 36 leasehold/disk.halves -/
def c36 : SCode := (.seq (.reg [.op (some 1) (.box 24 (.t 0)) none,
    .op (some 2) (.alloc 61 [(.slice none 0 0), (.int .i64 0), (.int .i64 0)]) none,
    .op (some 3) (.alloc 61 [(.slice none 0 0), (.int .i64 0), (.int .i64 0)]) none])
  (.seq (.reg [.op (some 7) (.fieldA 0 (.t 1)) none,
    .op (some 8) (.load false 1 (.t 7)) none,
    .op (some 9) (.len (.t 8)) none,
    .op (some 10) (.bin .quo (.t 9) (.c (.int .i64 2))) none,
    .op (some 4) (.mov (.t 10)) none])
  (.seq (.regD [.op (some 11) (.loadK 1 true 1 (.t 1)) none,
    .op (some 12) (.mov (.t 4)) none,
    .op (some 13) (.build [(.slice none 0 0), (.int .i64 0), (.int .i64 0)] [(0, 1, (.t 11)), (1, 1, (.c (.int .i64 0))), (2, 1, (.t 12))]) none,
    .op (some 14) (.loadK 1 true 1 (.t 1)) none,
    .op (some 15) (.mov (.t 4)) none,
    .op (some 16) (.mov (.t 4)) none,
    .op (some 17) (.build [(.slice none 0 0), (.int .i64 0), (.int .i64 0)] [(0, 1, (.t 14)), (1, 1, (.t 15)), (2, 1, (.t 16))]) none,
    .op (some 5) (.allocD 61 [(.slice none 0 0), (.int .i64 0), (.int .i64 0)]) none,
    .op (some 6) (.allocD 61 [(.slice none 0 0), (.int .i64 0), (.int .i64 0)]) none,
    .op none (.storeK 5 3 (.t 5) (.t 13)) none,
    .op none (.storeK 6 3 (.t 6) (.t 17)) none])
  (.seq (.seq (.regD [.op (some 18) (.loadK 6 true 3 (.t 6)) none,
    .op (some 20) (.loadK 5 true 3 (.t 5)) none,
    .op (some 19) (.callD 47 [(.t 18)]) none,
    .op (some 21) (.callD 47 [(.t 20)]) none,
    .op (some 22) (.bin .gtr (.t 19) (.t 21)) none])
  (.cond (.t 22)
  (.seq (.regD [.op (some 23) (.loadK 6 true 3 (.t 6)) none,
      .op (some 24) (.loadK 5 true 3 (.t 5)) none,
      .op none (.storeK 2 3 (.t 2) (.t 23)) none,
      .op none (.storeK 3 3 (.t 3) (.t 24)) none])
    .ret)
  .skip))
  (.seq (.regD [.op (some 25) (.loadK 5 true 3 (.t 5)) none,
    .op (some 26) (.loadK 6 true 3 (.t 6)) none,
    .op none (.storeK 2 3 (.t 2) (.t 25)) none,
    .op none (.storeK 3 3 (.t 3) (.t 26)) none])
  .ret)))))
def A36 : Ann := { n := 27, own := [], frz := [], ord := [(2, [0, 1, 2, 3, 4, 5, 6, 7, 8, 9, 10], [[], [], [0, 1], [], [], [], [3, 4, 5], [], [], [0, 1, 2, 7, 8], [0, 1, 2, 3, 4, 5, 6, 7, 8, 9]]), (3, [0, 2, 1, 3, 4], [[], [0], [], [0, 1, 2], [0, 1, 2, 3]]), (4, [0, 1, 2, 3], [[], [], [0], [0, 1, 2]]), (5, [0, 1, 2, 3], [[], [], [0], [0, 1, 2]])], bx := [1, 2, 3, 5, 6] }
theorem facts36 : factsOf Try.prog A36 Try.f36 = some (c36, 27, [(2, some (true, 3)), (3, some (true, 3))], false) := by kernel_rfl

/- 37 (leasehold/disk.half).space -/
def c37 : SCode := (.seq (.reg [.op (some 1) (.box 61 (.t 0)) none,
    .op (some 2) (.mov (.c (.slice none 0 0))) none])
  (.seq (.reg [.op (some 3) (.fieldA 0 (.t 1)) none,
    .op (some 4) (.fieldA 0 (.t 3)) none,
    .op (some 5) (.load false 1 (.t 4)) none,
    .op (some 6) (.fieldA 1 (.t 1)) none,
    .op (some 7) (.load false 1 (.t 6)) none,
    .op (some 8) (.bin .add (.t 7) (.c (.int .i64 1))) none,
    .op (some 9) (.fieldA 1 (.t 1)) none,
    .op (some 10) (.load false 1 (.t 9)) none,
    .op (some 11) (.fieldA 2 (.t 1)) none,
    .op (some 12) (.load false 1 (.t 11)) none,
    .op (some 13) (.bin .add (.t 10) (.t 12)) none,
    .op (some 14) (.slc 1 (.t 5) (some (.t 8)) (some (.t 13))) none,
    .op (some 15) (.call 40 [(.t 14)]) none,
    .op (some 2) (.mov (.t 15)) none])
  .ret))
def A37 : Ann := { n := 16, own := [], frz := [], ord := [] }
theorem facts37 : factsOf Try.prog A37 Try.f37 = some (c37, 16, [(2, none)], false) := by kernel_rfl

/- 38 leasehold/disk.frames -/
def c38 : SCode := (.seq (.reg [.op (some 1) (.boxF 28 (.t 0)) none,
    .op (some 2) (.mov (.c .nilFunc)) none])
  (.seq (.reg [.op (some 3) (.mkfn 55 [] [(.t 1)]) none,
    .op (some 2) (.mov (.t 3)) none])
  .ret))
def A38 : Ann := { n := 4, own := [1], frz := [], ord := [] }
theorem facts38 : factsOf Try.prog A38 Try.f38 = some (c38, 4, [(2, none)], false) := by kernel_rfl

/- 39 (leasehold/disk.half).cover -/
def c39 : SCode := (.seq (.reg [.op (some 3) (.box 61 (.t 0)) none,
    .op (some 6) (.mov (.c (.slice none 0 0))) none])
  (.seq (.reg [.op (some 11) (.load true 3 (.t 3)) none,
    .op (some 12) (.call 37 [(.t 11)]) none,
    .op (some 7) (.mov (.t 12)) none])
  (.seq (.reg [.op (some 13) (.mov (.t 1)) none,
    .op (some 14) (.mov (.t 7)) none,
    .op (some 15) (.mov (.t 1)) none,
    .op (some 16) (.slc 1 (.t 14) (some (.t 15)) none) none,
    .op (some 17) (.mov (.t 2)) none,
    .op (some 18) (.copy 5 1 (.t 16) (.t 17)) none,
    .op (some 19) (.bin .add (.t 13) (.t 18)) none,
    .op (some 8) (.mov (.t 19)) none])
  (.seq (.reg [.frz 12,
    .op (some 9) (.mov (.c (.slice none 0 0))) none])
  (.seq (.seq (.reg [.op (some 20) (.mov (.t 1)) none,
    .op (some 21) (.mov (.t 1)) none,
    .op (some 22) (.bin .rem (.t 21) (.c (.int .i64 256))) none,
    .op (some 23) (.bin .sub (.t 20) (.t 22)) none,
    .op (some 10) (.mov (.t 23)) none])
  (.block 0
  (.loop [24, 25, 26, 29, 30, 31, 32, 33, 34, 35, 36, 37, 38, 39, 40, 41, 42, 43, 44, 45, 46, 9, 27, 28, 10]
    (.seq (.seq (.reg [.op (some 24) (.mov (.t 10)) none,
        .op (some 25) (.mov (.t 8)) none,
        .op (some 26) (.bin .lss (.t 24) (.t 25)) none])
      (.cond (.t 26)
      .skip
      (.exit 0)))
      (.seq (.block 1
      (.regD [.op (some 29) (.mov (.t 9)) none,
          .op (some 30) (.fieldA 1 (.t 3)) none,
          .op (some 31) (.loadD false 1 (.t 30)) none,
          .op (some 32) (.bin .add (.t 31) (.c (.int .i64 1))) none,
          .op (some 33) (.mov (.t 10)) none,
          .op (some 34) (.bin .quo (.t 33) (.c (.int .i64 256))) none,
          .op (some 35) (.bin .add (.t 32) (.t 34)) none,
          .op (some 36) (.mov (.t 7)) none,
          .op (some 37) (.mov (.t 10)) none,
          .op (some 38) (.mov (.t 8)) none,
          .op (some 39) (.mov (.t 10)) none,
          .op (some 40) (.bin .add (.t 39) (.c (.int .i64 256))) none,
          .op (some 41) (.mm false [(.t 38), (.t 40)]) none,
          .op (some 42) (.slc 1 (.t 36) (some (.t 37)) (some (.t 41))) none,
          .op (some 43) (.callD 53 [(.t 42)]) none,
          .op (some 44) (.build [(.int .i64 0), (.slice none 0 0)] [(0, 1, (.t 35)), (1, 1, (.t 43))]) none,
          .op (some 45) (.mkFD 52 1 2 [(.t 44)]) none,
          .op (some 46) (.appD 52 2 32 [(.int .i64 0), (.slice none 0 0)] (.t 29) (.t 45)) none,
          .op (some 9) (.mov (.t 46)) none]))
      (.reg [.op (some 27) (.mov (.t 10)) none,
        .op (some 28) (.bin .add (.t 27) (.c (.int .i64 256))) none,
        .op (some 10) (.mov (.t 28)) none]))))))
  (.seq (.reg [.op (some 47) (.mov (.t 9)) none,
    .op (some 6) (.mov (.t 47)) none])
  .ret))))))
def A39 : Ann := { n := 48, own := [], frz := [(3, 0, [12])], ord := [(7, [0, 1, 2, 3, 4, 5, 6, 7, 8, 9, 10, 11, 12, 13, 14, 15, 16, 17, 18], [[], [], [1], [1, 2], [], [4], [1, 2, 3, 4, 5], [], [], [], [], [10], [9, 10, 11], [7, 8, 9, 10, 11, 12], [7, 8, 9, 10, 11, 12, 13], [1, 2, 3, 4, 5, 6, 7, 8, 9, 10, 11, 12, 13, 14], [1, 2, 3, 4, 5, 6, 7, 8, 9, 10, 11, 12, 13, 14, 15], [0, 1, 2, 3, 4, 5, 6, 7, 8, 9, 10, 11, 12, 13, 14, 15, 16], [0, 1, 2, 3, 4, 5, 6, 7, 8, 9, 10, 11, 12, 13, 14, 15, 16, 17]])] }
theorem facts39 : factsOf Try.prog A39 Try.f39 = some (c39, 48, [(6, none)], false) := by kernel_rfl

/- 40 leasehold/disk.join -/
def c40 : SCode := (.seq (.reg [.op (some 2) (.mov (.c (.slice none 0 0))) none])
  (.seq (.reg [.op (some 3) (.mov (.t 0)) none,
    .op (some 4) (.call 57 [(.t 3)]) none,
    .op (some 2) (.mov (.t 4)) none])
  .ret))
def A40 : Ann := { n := 5, own := [], frz := [], ord := [] }
theorem facts40 : factsOf Try.prog A40 Try.f40 = some (c40, 5, [(2, none)], false) := by kernel_rfl

/- 41 leasehold/disk.frame -/
def c41 : SCode := (.seq (.reg [.op (some 4) (.mov (.c (.slice none 0 0))) none])
  (.seq (.reg [.op (some 5) (.mov (.t 1)) none,
    .op (some 6) (.mkF 5 1 1 [(.t 5)]) none,
    .op (some 7) (.mov (.t 0)) none,
    .op (some 8) (.len (.t 7)) none,
    .op (some 9) (.call 50 [(.t 8), (.c (.int .i64 2))]) none,
    .op (some 10) (.mov (.t 0)) none,
    .op (some 11) (.mkF 28 3 1 [(.t 6), (.t 9), (.t 10)]) none,
    .op (some 12) (.call 40 [(.t 11)]) none,
    .op (some 4) (.mov (.t 12)) none])
  .ret))
def A41 : Ann := { n := 13, own := [], frz := [], ord := [] }
theorem facts41 : factsOf Try.prog A41 Try.f41 = some (c41, 13, [(4, none)], false) := by kernel_rfl

/- 42 leasehold/leaseholdref36.cover -/
def c42 : SCode := (.seq (.reg [.op (some 4) (.box 24 (.t 0)) none,
    .op (some 8) (.mov (.c (.slice none 0 0))) none])
  (.seq (.reg [.op (some 13) (.load true 1 (.t 4)) none,
    .op (some 14) (.mov (.t 1)) none,
    .op (some 15) (.call 31 [(.t 13), (.t 14)]) none,
    .op (some 9) (.mov (.t 15)) none])
  (.seq (.reg [.op (some 16) (.mov (.t 9)) none,
    .op (some 17) (.mov (.t 2)) none,
    .op (some 18) (.slc 1 (.t 16) (some (.t 17)) none) none,
    .op (some 19) (.mov (.t 3)) none,
    .op (some 20) (.copy 5 1 (.t 18) (.t 19)) none])
  (.seq (.reg [.frz 15,
    .op (some 10) (.mov (.c (.slice none 0 0))) none])
  (.seq (.seq (.reg [.op (some 21) (.mov (.t 2)) none,
    .op (some 22) (.bin .quo (.t 21) (.c (.int .i64 256))) none,
    .op (some 11) (.mov (.t 22)) none])
  (.block 0
  (.loop [23, 24, 25, 26, 27, 28, 29, 32, 33, 34, 35, 36, 37, 38, 39, 12, 40, 41, 42, 43, 44, 45, 46, 47, 48, 49, 50, 51, 52, 53, 54, 55, 56, 57, 10, 30, 31, 11]
    (.seq (.seq (.reg [.op (some 23) (.mov (.t 11)) none,
        .op (some 24) (.bin .mul (.t 23) (.c (.int .i64 256))) none,
        .op (some 25) (.mov (.t 2)) none,
        .op (some 26) (.mov (.t 3)) none,
        .op (some 27) (.len (.t 26)) none,
        .op (some 28) (.bin .add (.t 25) (.t 27)) none,
        .op (some 29) (.bin .lss (.t 24) (.t 28)) none])
      (.cond (.t 29)
      .skip
      (.exit 0)))
      (.seq (.block 1
      (.seq (.reg [.op (some 32) (.mov (.t 11)) none,
          .op (some 33) (.bin .add (.t 32) (.c (.int .i64 1))) none,
          .op (some 34) (.bin .mul (.t 33) (.c (.int .i64 256))) none,
          .op (some 35) (.mov (.t 2)) none,
          .op (some 36) (.mov (.t 3)) none,
          .op (some 37) (.len (.t 36)) none,
          .op (some 38) (.bin .add (.t 35) (.t 37)) none,
          .op (some 39) (.mm false [(.t 34), (.t 38)]) none,
          .op (some 12) (.mov (.t 39)) none])
        (.regD [.op (some 40) (.mov (.t 10)) none,
          .op (some 41) (.mov (.t 1)) none,
          .op (some 42) (.loadD true 1 (.t 4)) none,
          .op (some 46) (.mov (.t 11)) none,
          .op (some 49) (.mov (.t 9)) none,
          .op (some 50) (.mov (.t 11)) none,
          .op (some 51) (.bin .mul (.t 50) (.c (.int .i64 256))) none,
          .op (some 52) (.mov (.t 12)) none,
          .op (some 53) (.slc 1 (.t 49) (some (.t 51)) (some (.t 52))) none,
          .op (some 43) (.callD 32 [(.t 42)]) none,
          .op (some 44) (.bin .mul (.t 41) (.t 43)) none,
          .op (some 45) (.bin .add (.t 44) (.c (.int .i64 1))) none,
          .op (some 47) (.bin .add (.t 45) (.t 46)) none,
          .op (some 48) (.makeSD 5 1 0 (List.replicate 1 undef)) none,
          .op (some 54) (.appD 5 1 1 [(.int .u8 0)] (.t 48) (.t 53)) none,
          .op (some 55) (.build [(.int .i64 0), (.slice none 0 0)] [(0, 1, (.t 47)), (1, 1, (.t 54))]) none,
          .op (some 56) (.mkFD 52 1 2 [(.t 55)]) none,
          .op (some 57) (.appD 52 2 32 [(.int .i64 0), (.slice none 0 0)] (.t 40) (.t 56)) none,
          .op (some 10) (.mov (.t 57)) none])))
      (.reg [.frz 48,
        .op (some 30) (.mov (.t 11)) none,
        .op (some 31) (.bin .add (.t 30) (.c (.int .i64 1))) none,
        .op (some 11) (.mov (.t 31)) none]))))))
  (.seq (.reg [.op (some 58) (.mov (.t 10)) none,
    .op (some 8) (.mov (.t 58)) none])
  .ret))))))
def A42 : Ann := { n := 59, own := [48], frz := [(3, 0, [15]), (6, 0, [48])], ord := [(8, [0, 1, 2, 6, 9, 10, 11, 12, 13, 3, 4, 5, 7, 8, 14, 15, 16, 17, 18], [[], [], [], [2], [1, 2, 3], [1, 2, 3, 4], [], [1, 2, 3, 4, 5, 6], [], [], [], [10], [], [9, 10, 11, 12], [2, 3, 8, 9, 10, 11, 12, 13], [1, 2, 3, 4, 5, 6, 7, 8, 9, 10, 11, 12, 13, 14], [1, 2, 3, 4, 5, 6, 7, 8, 9, 10, 11, 12, 13, 14, 15], [0, 1, 2, 3, 4, 5, 6, 7, 8, 9, 10, 11, 12, 13, 14, 15, 16], [0, 1, 2, 3, 4, 5, 6, 7, 8, 9, 10, 11, 12, 13, 14, 15, 16, 17]])] }
theorem facts42 : factsOf Try.prog A42 Try.f42 = some (c42, 59, [(8, none)], false) := by kernel_rfl

/- 43 leasehold/leaseholdref36.ended -/
def c43 : SCode := (.seq (.reg [.op (some 6) (.mov (.c (.slice none 0 0))) none])
  (.seq (.seq (.reg [.op (some 7) (.mov (.t 1)) none,
    .op (some 8) (.mov (.t 0)) none,
    .op (some 9) (.len (.t 8)) none,
    .op (some 10) (.bin .add (.t 7) (.t 9)) none,
    .op (some 11) (.mov (.t 2)) none,
    .op (some 12) (.bin .lss (.t 10) (.t 11)) none])
  (.cond (.t 12)
  (.seq (.reg [.op (some 13) (.mkR 5 0 1 []) none,
      .op (some 14) (.mov (.t 0)) none,
      .op (some 15) (.app 5 1 1 [(.int .u8 0)] (.t 13) (.t 14)) none,
      .op (some 16) (.mkF 5 1 1 [(.c (.int .u8 0))]) none,
      .op (some 17) (.app 5 1 1 [(.int .u8 0)] (.t 15) (.t 16)) none,
      .op (some 6) (.mov (.t 17)) none])
    .ret)
  .skip))
  (.seq (.reg [.op (some 18) (.mov (.t 0)) none,
    .op (some 6) (.mov (.t 18)) none])
  .ret)))
def A43 : Ann := { n := 19, own := [13], frz := [], ord := [] }
theorem facts43 : factsOf Try.prog A43 Try.f43 = some (c43, 19, [(6, none)], false) := by kernel_rfl

/- 44 leasehold/leaseholdref36.Frame -/
def c44 : SCode := (.seq (.reg [.op (some 4) (.mov (.c (.slice none 0 0))) none])
  (.seq (.reg [.op (some 5) (.mov (.t 1)) none,
    .op (some 6) (.mov (.t 0)) none,
    .op (some 7) (.len (.t 6)) none,
    .op (some 8) (.bin .quo (.t 7) (.c (.int .i64 256))) none,
    .op (some 9) (.conv .u8 (.t 8)) none,
    .op (some 10) (.mov (.t 0)) none,
    .op (some 11) (.len (.t 10)) none,
    .op (some 12) (.bin .rem (.t 11) (.c (.int .i64 256))) none,
    .op (some 13) (.conv .u8 (.t 12)) none,
    .op (some 14) (.mkR 5 3 1 [(.t 5), (.t 9), (.t 13)]) none,
    .op (some 15) (.mov (.t 0)) none,
    .op (some 16) (.app 5 1 1 [(.int .u8 0)] (.t 14) (.t 15)) none,
    .op (some 4) (.mov (.t 16)) none])
  .ret))
def A44 : Ann := { n := 17, own := [14], frz := [], ord := [] }
theorem facts44 : factsOf Try.prog A44 Try.f44 = some (c44, 17, [(4, none)], false) := by kernel_rfl

/- 45 leasehold/disk.Truncate$1 -/
def c45 : SCode := (.seq (.reg [.op (some 2) (.mov (.c (.bool false))) none])
  (.seq (.reg [.op (some 3) (.mov (.t 0)) none,
    .op (some 4) (.len (.t 3)) none,
    .op (some 5) (.bin .gtr (.t 4) (.c (.int .i64 65535))) none,
    .op (some 2) (.mov (.t 5)) none])
  .ret))
def A45 : Ann := { n := 6, own := [], frz := [], ord := [] }
theorem facts45 : factsOf Try.prog A45 Try.f45 = some (c45, 6, [(2, none)], false) := by kernel_rfl

/- 46 slices.ContainsFunc[[][]byte,[]byte] -/
def c46 : SCode := (.seq (.reg [.op (some 4) (.mov (.c (.bool false))) none])
  (.seq (.reg [.op (some 5) (.mov (.t 0)) none,
    .op (some 6) (.mov (.t 1)) none,
    .op (some 7) (.call 58 [(.t 5), (.t 6)]) none,
    .op (some 8) (.bin .geq (.t 7) (.c (.int .i64 0))) none,
    .op (some 4) (.mov (.t 8)) none])
  .ret))
def A46 : Ann := { n := 9, own := [], frz := [], ord := [] }
theorem facts46 : factsOf Try.prog A46 Try.f46 = some (c46, 9, [(4, none)], false) := by kernel_rfl

/- 47 (leasehold/disk.half).generation -/
def c47 : SCode := (.seq (.reg [.op (some 1) (.box 61 (.t 0)) none,
    .op (some 2) (.mov (.c (.int .i64 0))) none])
  (.seq (.seq (.reg [.op (some 3) (.load true 3 (.t 1)) none,
    .op (some 4) (.call 49 [(.t 3)]) none,
    .op (some 5) (.idxA 1 (.t 4) (.c (.int .i64 4))) none,
    .op (some 6) (.load false 1 (.t 5)) none,
    .op (some 7) (.bin .neq (.t 6) (.c (.int .u8 1))) none])
  (.cond (.t 7)
  (.seq (.reg [.op (some 2) (.mov (.c (.int .i64 (-1)))) none])
    .ret)
  .skip))
  (.seq (.reg [.op (some 8) (.load true 3 (.t 1)) none,
    .op (some 9) (.call 49 [(.t 8)]) none,
    .op (some 10) (.slc 1 (.t 9) none (some (.c (.int .i64 4)))) none,
    .op (some 11) (.call 56 [(.t 10)]) none,
    .op (some 2) (.mov (.t 11)) none])
  .ret)))
def A47 : Ann := { n := 12, own := [], frz := [], ord := [] }
theorem facts47 : factsOf Try.prog A47 Try.f47 = some (c47, 12, [(2, none)], false) := by kernel_rfl

/- 48 leasehold/disk.Truncate$2 -/
def c48 : SCode := (.seq (.reg [.op (some 5) (.alloc 52 [(.int .i64 0), (.slice none 0 0)]) none])
  (.seq (.regD [.op (some 6) (.fieldA 1 (.t 2)) none,
    .op (some 7) (.loadD false 1 (.t 6)) none,
    .op (some 8) (.mov (.t 0)) none,
    .op (some 9) (.mov (.t 1)) none,
    .op (some 10) (.mkFD 5 1 1 [(.t 9)]) none,
    .op (some 11) (.mkFD 28 2 1 [(.t 8), (.t 10)]) none,
    .op (some 12) (.callD 40 [(.t 11)]) none,
    .op (some 13) (.build [(.int .i64 0), (.slice none 0 0)] [(0, 1, (.t 7)), (1, 1, (.t 12))]) none,
    .op none (.storeD 2 (.t 5) (.t 13)) none])
  .ret))
def A48 : Ann := { n := 14, own := [], frz := [], ord := [(1, [0, 1, 2, 3, 4, 5, 6, 7, 8], [[], [0], [], [], [3], [2, 3, 4], [2, 3, 4, 5], [0, 1, 2, 3, 4, 5, 6], [0, 1, 2, 3, 4, 5, 6, 7]])] }
theorem facts48 : factsOf Try.prog A48 Try.f48 = some (c48, 14, [(5, some (true, 2))], false) := by kernel_rfl

/- 49 (leasehold/disk.half).header -/
def c49 : SCode := (.seq (.reg [.op (some 1) (.box 61 (.t 0)) none,
    .op (some 2) (.mov (.c (.slice none 0 0))) none])
  (.seq (.reg [.op (some 3) (.fieldA 0 (.t 1)) none,
    .op (some 4) (.fieldA 0 (.t 3)) none,
    .op (some 5) (.load false 1 (.t 4)) none,
    .op (some 6) (.fieldA 1 (.t 1)) none,
    .op (some 7) (.load false 1 (.t 6)) none,
    .op (some 8) (.idxA 1 (.t 5) (.t 7)) none,
    .op (some 9) (.load false 1 (.t 8)) none,
    .op (some 2) (.mov (.t 9)) none])
  .ret))
def A49 : Ann := { n := 10, own := [], frz := [], ord := [] }
theorem facts49 : factsOf Try.prog A49 Try.f49 = some (c49, 10, [(2, none)], false) := by kernel_rfl

/- 50 leasehold/disk.word -/
def c50 : SCode := (.seq (.reg [.op (some 4) (.mov (.c (.slice none 0 0))) none])
  (.seq (.reg [.op (some 5) (.mov (.c (.slice none 0 0))) none])
  (.seq (.seq (.reg [.op (some 7) (.mov (.t 1)) none,
    .op (some 8) (.bin .sub (.t 7) (.c (.int .i64 1))) none,
    .op (some 6) (.mov (.t 8)) none])
  (.block 0
  (.loop [9, 10, 13, 14, 15, 16, 17, 18, 19, 20, 21, 5, 11, 12, 6]
    (.seq (.seq (.reg [.op (some 9) (.mov (.t 6)) none,
        .op (some 10) (.bin .geq (.t 9) (.c (.int .i64 0))) none])
      (.cond (.t 10)
      .skip
      (.exit 0)))
      (.seq (.block 1
      (.reg [.op (some 13) (.mov (.t 5)) none,
          .op (some 14) (.mov (.t 0)) none,
          .op (some 15) (.conv .u64 (.t 14)) none,
          .op (some 16) (.mov (.t 6)) none,
          .op (some 17) (.bin .mul (.c (.int .i64 8)) (.t 16)) none,
          .op (some 18) (.bin .shr (.t 15) (.t 17)) none,
          .op (some 19) (.conv .u8 (.t 18)) none,
          .op (some 20) (.mkF 5 1 1 [(.t 19)]) none,
          .op (some 21) (.app 5 1 1 [(.int .u8 0)] (.t 13) (.t 20)) none,
          .op (some 5) (.mov (.t 21)) none]))
      (.reg [.op (some 11) (.mov (.t 6)) none,
        .op (some 12) (.bin .sub (.t 11) (.c (.int .i64 1))) none,
        .op (some 6) (.mov (.t 12)) none]))))))
  (.seq (.reg [.op (some 22) (.mov (.t 5)) none,
    .op (some 4) (.mov (.t 22)) none])
  .ret))))
def A50 : Ann := { n := 23, own := [], frz := [], ord := [] }
theorem facts50 : factsOf Try.prog A50 Try.f50 = some (c50, 23, [(4, none)], false) := by kernel_rfl

/- 51 leasehold/disk.Apply$1 -/
def c51 : SCode := (.seq (.reg [.op (some 2) (.box 52 (.t 0)) none,
    .op (some 3) (.mov (.c (.bool false))) none])
  (.seq (.reg [.op (some 4) (.fieldA 0 (.t 2)) none,
    .op (some 5) (.load false 1 (.t 4)) none,
    .op (some 6) (.bin .lss (.t 5) (.c (.int .i64 0))) none,
    .op (some 7) (.mov (.t 6)) none,
    .op (some 8) (.fieldA 0 (.t 2)) (some (7, false)),
    .op (some 9) (.load false 1 (.t 8)) (some (7, false)),
    .op (some 10) (.fieldA 0 (.t 1)) (some (7, false)),
    .op (some 11) (.load false 1 (.t 10)) (some (7, false)),
    .op (some 12) (.len (.t 11)) (some (7, false)),
    .op (some 13) (.bin .geq (.t 9) (.t 12)) (some (7, false)),
    .op (some 14) (.pick (.t 7) (.c (.bool true)) (.t 13)) none,
    .op (some 15) (.mov (.t 14)) none,
    .op (some 16) (.fieldA 1 (.t 2)) (some (15, false)),
    .op (some 17) (.load false 1 (.t 16)) (some (15, false)),
    .op (some 18) (.len (.t 17)) (some (15, false)),
    .op (some 19) (.bin .gtr (.t 18) (.c (.int .i64 256))) (some (15, false)),
    .op (some 20) (.pick (.t 15) (.c (.bool true)) (.t 19)) none,
    .op (some 3) (.mov (.t 20)) none])
  .ret))
def A51 : Ann := { n := 21, own := [], frz := [], ord := [] }
theorem facts51 : factsOf Try.prog A51 Try.f51 = some (c51, 21, [(3, none)], false) := by kernel_rfl

/- 52 slices.ContainsFunc[[]leasehold/api.Write,leasehold/api.Write] -/
def c52 : SCode := (.seq (.reg [.op (some 4) (.mov (.c (.bool false))) none])
  (.seq (.reg [.op (some 5) (.mov (.t 0)) none,
    .op (some 6) (.mov (.t 1)) none,
    .op (some 7) (.call 59 [(.t 5), (.t 6)]) none,
    .op (some 8) (.bin .geq (.t 7) (.c (.int .i64 0))) none,
    .op (some 4) (.mov (.t 8)) none])
  .ret))
def A52 : Ann := { n := 9, own := [], frz := [], ord := [] }
theorem facts52 : factsOf Try.prog A52 Try.f52 = some (c52, 9, [(4, none)], false) := by kernel_rfl

/- 53 slices.Clone[[]byte,byte] -/
def c53 : SCode := (.seq (.reg [.op (some 2) (.mov (.c (.slice none 0 0))) none])
  (.seq (.seq (.reg [.op (some 3) (.mov (.t 0)) none,
    .op (some 4) (.eqS false (.t 3) (.c (.slice none 0 0))) none])
  (.cond (.t 4)
  (.seq (.reg [.op (some 2) (.mov (.c (.slice none 0 0))) none])
    .ret)
  .skip))
  (.seq (.reg [.op (some 5) (.mkR 5 0 1 []) none,
    .op (some 6) (.mov (.t 0)) none,
    .op (some 7) (.app 5 1 1 [(.int .u8 0)] (.t 5) (.t 6)) none,
    .op (some 2) (.mov (.t 7)) none])
  .ret)))
def A53 : Ann := { n := 8, own := [5], frz := [], ord := [] }
theorem facts53 : factsOf Try.prog A53 Try.f53 = some (c53, 8, [(2, none)], false) := by kernel_rfl

/- 54 leasehold/disk.valid$1 -/
def c54 : SCode := (.seq (.reg [.op (some 2) (.mov (.c (.bool false))) none])
  (.seq (.reg [.op (some 3) (.mov (.t 0)) none,
    .op (some 4) (.len (.t 3)) none,
    .op (some 5) (.bin .neq (.t 4) (.c (.int .i64 256))) none,
    .op (some 2) (.mov (.t 5)) none])
  .ret))
def A54 : Ann := { n := 6, own := [], frz := [], ord := [] }
theorem facts54 : factsOf Try.prog A54 Try.f54 = some (c54, 6, [(2, none)], false) := by kernel_rfl

/- 55 leasehold/disk.frames$1 -/
def c55 : SCode := (.seq (.reg [.op (some 3) (.mov (.c (.int .i64 0))) none])
  (.block 0
  (.loop [5, 6, 7, 8, 9, 10, 11, 12, 13, 14, 15, 16, 17, 18, 19, 20, 21, 22, 23, 24, 25, 26, 4, 27, 28, 29, 30, 31, 32, 33, 34, 35, 36, 37, 38, 39, 40, 41, 42, 3]
    (.seq (.seq (.reg [.op (some 5) (.mov (.t 3)) none,
        .op (some 6) (.bin .add (.t 5) (.c (.int .i64 3))) none,
        .op (some 7) (.load false 1 (.t 1)) none,
        .op (some 8) (.len (.t 7)) none,
        .op (some 9) (.bin .leq (.t 6) (.t 8)) none,
        .op (some 10) (.mov (.t 9)) none,
        .op (some 11) (.load false 1 (.t 1)) (some (10, true)),
        .op (some 12) (.mov (.t 3)) (some (10, true)),
        .op (some 13) (.idxA 1 (.t 11) (.t 12)) (some (10, true)),
        .op (some 14) (.load false 1 (.t 13)) (some (10, true)),
        .op (some 15) (.bin .eql (.t 14) (.c (.int .u8 1))) (some (10, true)),
        .op (some 16) (.pick (.t 10) (.t 15) (.c (.bool false))) none])
      (.cond (.t 16)
      .skip
      (.exit 0)))
      (.block 1
      (.seq (.reg [.op (some 17) (.mov (.t 3)) none,
          .op (some 18) (.bin .add (.t 17) (.c (.int .i64 3))) none,
          .op (some 19) (.load false 1 (.t 1)) none,
          .op (some 20) (.mov (.t 3)) none,
          .op (some 21) (.bin .add (.t 20) (.c (.int .i64 1))) none,
          .op (some 22) (.mov (.t 3)) none,
          .op (some 23) (.bin .add (.t 22) (.c (.int .i64 3))) none,
          .op (some 24) (.slc 1 (.t 19) (some (.t 21)) (some (.t 23))) none,
          .op (some 25) (.call 56 [(.t 24)]) none,
          .op (some 26) (.bin .add (.t 18) (.t 25)) none,
          .op (some 4) (.mov (.t 26)) none])
        (.seq (.seq (.reg [.op (some 27) (.mov (.t 4)) none,
          .op (some 28) (.load false 1 (.t 1)) none,
          .op (some 29) (.len (.t 28)) none,
          .op (some 30) (.bin .gtr (.t 27) (.t 29)) none,
          .op (some 31) (.mov (.t 30)) none,
          .op (some 32) (.mov (.t 0)) (some (31, false)),
          .op (some 33) (.mov (.t 4)) (some (31, false)),
          .op (some 34) (.load false 1 (.t 1)) (some (31, false)),
          .op (some 35) (.mov (.t 3)) (some (31, false)),
          .op (some 36) (.bin .add (.t 35) (.c (.int .i64 3))) (some (31, false)),
          .op (some 37) (.mov (.t 4)) (some (31, false)),
          .op (some 38) (.slc 1 (.t 34) (some (.t 36)) (some (.t 37))) (some (31, false)),
          .op (some 39) (.callV (.t 32) [(.t 33), (.t 38)]) (some (31, false)),
          .op (some 40) (.un .not (.t 39)) (some (31, false)),
          .op (some 41) (.pick (.t 31) (.c (.bool true)) (.t 40)) none])
        (.cond (.t 41)
        .ret
        .skip))
        (.reg [.op (some 42) (.mov (.t 4)) none,
          .op (some 3) (.mov (.t 42)) none]))))))))
def A55 : Ann := { n := 43, own := [], frz := [], ord := [] }
theorem facts55 : factsOf Try.prog A55 Try.f55 = some (c55, 43, [], false) := by kernel_rfl

/- 56 leasehold/disk.value -/
def c56 : SCode := (.seq (.reg [.op (some 2) (.mov (.c (.int .i64 0))) none])
  (.seq (.reg [.op (some 3) (.mov (.c (.int .u64 0))) none])
  (.seq (.seq (.reg [.op (some 6) (.mov (.t 0)) none,
    .op (some 7) (.len (.t 6)) none,
    .op (some 8) (.mov (.c (.int .i64 0))) none])
  (.block 0
  (.loop [9, 10, 11, 5, 12, 13, 14, 15, 16, 3, 17, 8]
    (.seq (.reg [.op (some 9) (.bin .lss (.t 8) (.t 7)) none])
      (.seq (.cond (.t 9)
      .skip
      (.exit 0))
      (.seq (.block 1
      (.seq (.reg [.op (some 10) (.idxA 1 (.t 6) (.t 8)) none,
          .op (some 11) (.load false 1 (.t 10)) none,
          .op (some 5) (.mov (.t 11)) none])
        (.reg [.op (some 12) (.mov (.t 3)) none,
          .op (some 13) (.bin .shl (.t 12) (.c (.int .u64 8))) none,
          .op (some 14) (.mov (.t 5)) none,
          .op (some 15) (.conv .u64 (.t 14)) none,
          .op (some 16) (.bin .or (.t 13) (.t 15)) none,
          .op (some 3) (.mov (.t 16)) none])))
      (.reg [.op (some 17) (.bin .add (.t 8) (.c (.int .i64 1))) none,
        .op (some 8) (.mov (.t 17)) none])))))))
  (.seq (.reg [.op (some 18) (.mov (.t 3)) none,
    .op (some 19) (.conv .i64 (.t 18)) none,
    .op (some 2) (.mov (.t 19)) none])
  .ret))))
def A56 : Ann := { n := 20, own := [], frz := [], ord := [] }
theorem facts56 : factsOf Try.prog A56 Try.f56 = some (c56, 20, [(2, none)], false) := by kernel_rfl

/- 57 slices.Concat[[]byte,byte] -/
def c57 : SCode := (.seq (.reg [.op (some 2) (.mov (.c (.slice none 0 0))) none])
  (.seq (.reg [.op (some 3) (.mov (.c (.int .i64 0))) none])
  (.seq (.seq (.reg [.op (some 9) (.mov (.t 0)) none,
    .op (some 10) (.len (.t 9)) none,
    .op (some 11) (.mov (.c (.int .i64 0))) none])
  (.block 0
  (.loop [12, 13, 14, 5, 15, 16, 17, 18, 3, 19, 20, 21, 22, 11]
    (.seq (.reg [.op (some 12) (.bin .lss (.t 11) (.t 10)) none])
      (.seq (.cond (.t 12)
      .skip
      (.exit 0))
      (.seq (.block 1
      (.seq (.reg [.op (some 13) (.idxA 1 (.t 9) (.t 11)) none,
          .op (some 14) (.load false 1 (.t 13)) none,
          .op (some 5) (.mov (.t 14)) none])
        (.seq (.reg [.op (some 15) (.mov (.t 3)) none,
          .op (some 16) (.mov (.t 5)) none,
          .op (some 17) (.len (.t 16)) none,
          .op (some 18) (.bin .add (.t 15) (.t 17)) none,
          .op (some 3) (.mov (.t 18)) none])
        (.seq (.reg [.op (some 19) (.mov (.t 3)) none,
          .op (some 20) (.bin .lss (.t 19) (.c (.int .i64 0))) none])
        (.cond (.t 20)
        (.reg [.op (some 21) (.mkif 9 (.c (.string ⟨#[108, 101, 110, 32, 111, 117, 116, 32, 111, 102, 32, 114, 97, 110, 103, 101]⟩))) none,
            .op none (.pan (.t 21)) none])
        .skip)))))
      (.reg [.op (some 22) (.bin .add (.t 11) (.c (.int .i64 1))) none,
        .op (some 11) (.mov (.t 22)) none])))))))
  (.seq (.reg [.op (some 23) (.mov (.t 3)) none,
    .op (some 24) (.call 60 [(.c (.slice none 0 0)), (.t 23)]) none,
    .op (some 6) (.mov (.t 24)) none])
  (.seq (.seq (.reg [.op (some 25) (.mov (.t 0)) none,
    .op (some 26) (.len (.t 25)) none,
    .op (some 27) (.mov (.c (.int .i64 0))) none])
  (.block 2
  (.loop [28, 29, 30, 8, 31, 32, 33, 6, 34, 27]
    (.seq (.reg [.op (some 28) (.bin .lss (.t 27) (.t 26)) none])
      (.seq (.cond (.t 28)
      .skip
      (.exit 2))
      (.seq (.block 3
      (.seq (.reg [.op (some 29) (.idxA 1 (.t 25) (.t 27)) none,
          .op (some 30) (.load false 1 (.t 29)) none,
          .op (some 8) (.mov (.t 30)) none])
        (.reg [.op (some 31) (.mov (.t 6)) none,
          .op (some 32) (.mov (.t 8)) none,
          .op (some 33) (.app 5 1 1 [(.int .u8 0)] (.t 31) (.t 32)) none,
          .op (some 6) (.mov (.t 33)) none])))
      (.reg [.op (some 34) (.bin .add (.t 27) (.c (.int .i64 1))) none,
        .op (some 27) (.mov (.t 34)) none])))))))
  (.seq (.reg [.op (some 35) (.mov (.t 6)) none,
    .op (some 2) (.mov (.t 35)) none])
  .ret))))))
def A57 : Ann := { n := 36, own := [], frz := [], ord := [] }
theorem facts57 : factsOf Try.prog A57 Try.f57 = some (c57, 36, [(2, none)], false) := by kernel_rfl

/- 58 slices.IndexFunc[[][]byte,[]byte] -/
def c58 : SCode := (.seq (.reg [.op (some 4) (.mov (.c (.int .i64 0))) none])
  (.seq (.seq (.reg [.op (some 6) (.mov (.t 0)) none,
    .op (some 7) (.len (.t 6)) none,
    .op (some 8) (.mov (.c (.int .i64 0))) none])
  (.block 0
  (.loop [9, 10, 5, 11, 12, 13, 14, 15, 16, 17, 4, 18, 8]
    (.seq (.reg [.op (some 9) (.bin .lss (.t 8) (.t 7)) none])
      (.seq (.cond (.t 9)
      .skip
      (.exit 0))
      (.seq (.block 1
      (.seq (.reg [.op (some 10) (.mov (.t 8)) none,
          .op (some 5) (.mov (.t 10)) none])
        (.seq (.reg [.op (some 11) (.mov (.t 1)) none,
          .op (some 12) (.mov (.t 0)) none,
          .op (some 13) (.mov (.t 5)) none,
          .op (some 14) (.idxA 1 (.t 12) (.t 13)) none,
          .op (some 15) (.load false 1 (.t 14)) none,
          .op (some 16) (.callV (.t 11) [(.t 15)]) none])
        (.cond (.t 16)
        (.seq (.reg [.op (some 17) (.mov (.t 5)) none,
            .op (some 4) (.mov (.t 17)) none])
          .ret)
        .skip))))
      (.reg [.op (some 18) (.bin .add (.t 8) (.c (.int .i64 1))) none,
        .op (some 8) (.mov (.t 18)) none])))))))
  (.seq (.reg [.op (some 4) (.mov (.c (.int .i64 (-1)))) none])
  .ret)))
def A58 : Ann := { n := 19, own := [], frz := [], ord := [] }
theorem facts58 : factsOf Try.prog A58 Try.f58 = some (c58, 19, [(4, none)], false) := by kernel_rfl

/- 59 slices.IndexFunc[[]leasehold/api.Write,leasehold/api.Write] -/
def c59 : SCode := (.seq (.reg [.op (some 4) (.mov (.c (.int .i64 0))) none])
  (.seq (.seq (.reg [.op (some 6) (.mov (.t 0)) none,
    .op (some 7) (.len (.t 6)) none,
    .op (some 8) (.mov (.c (.int .i64 0))) none])
  (.block 0
  (.loop [9, 10, 5, 11, 12, 13, 14, 15, 16, 17, 4, 18, 8]
    (.seq (.reg [.op (some 9) (.bin .lss (.t 8) (.t 7)) none])
      (.seq (.cond (.t 9)
      .skip
      (.exit 0))
      (.seq (.block 1
      (.seq (.reg [.op (some 10) (.mov (.t 8)) none,
          .op (some 5) (.mov (.t 10)) none])
        (.seq (.reg [.op (some 11) (.mov (.t 1)) none,
          .op (some 12) (.mov (.t 0)) none,
          .op (some 13) (.mov (.t 5)) none,
          .op (some 14) (.idxA 2 (.t 12) (.t 13)) none,
          .op (some 15) (.load true 2 (.t 14)) none,
          .op (some 16) (.callV (.t 11) [(.t 15)]) none])
        (.cond (.t 16)
        (.seq (.reg [.op (some 17) (.mov (.t 5)) none,
            .op (some 4) (.mov (.t 17)) none])
          .ret)
        .skip))))
      (.reg [.op (some 18) (.bin .add (.t 8) (.c (.int .i64 1))) none,
        .op (some 8) (.mov (.t 18)) none])))))))
  (.seq (.reg [.op (some 4) (.mov (.c (.int .i64 (-1)))) none])
  .ret)))
def A59 : Ann := { n := 19, own := [], frz := [], ord := [] }
theorem facts59 : factsOf Try.prog A59 Try.f59 = some (c59, 19, [(4, none)], false) := by kernel_rfl

end Go.Fr.Try
