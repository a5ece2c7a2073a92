/- Part of the proofs of the statements of this seat. -/
import Derived.Test.YtjobilmjlmeohaaDoorFW1
import Derived.Test.YtjobilmjlmeohaaDoorProg
set_option linter.unusedVariables false
namespace Go.Fr.Tryd
open Go Go.RowKit Go.Proofs Go.Fr
/- 3 leasehold/leaseholdlaw23.LayoutWords -/
def c3 : SCode := (.seq (.reg [.op (some 4) (.box 25 (.t 1)) none,
    .op (some 6) (.mov (.c (.bool false))) none])
  (.seq (.reg [.op (some 14) (.call 8 []) none,
    .op (some 7) (.mov (.t 14)) none])
  (.seq (.seq (.reg [.op (some 15) (.mov (.t 0)) none,
    .op (some 16) (.load true 3 (.t 4)) none,
    .op (some 17) (.call 9 [(.t 15), (.t 16)]) none,
    .op (some 18) (.un .not (.t 17)) none,
    .op (some 19) (.mov (.t 18)) none,
    .op (some 20) (.mov (.t 0)) (some (19, false)),
    .op (some 21) (.load true 3 (.t 4)) (some (19, false)),
    .op (some 22) (.call 10 [(.t 20), (.t 21)]) (some (19, false)),
    .op (some 23) (.un .not (.t 22)) (some (19, false)),
    .op (some 24) (.pick (.t 19) (.c (.bool true)) (.t 23)) none])
  (.cond (.t 24)
  (.seq (.reg [.op (some 25) (.mov (.t 7)) none,
      .op (some 6) (.mov (.t 25)) none])
    .ret)
  .skip))
  (.seq (.reg [.op (some 27) (.mov (.t 0)) none,
    .op (some 28) (.load true 3 (.t 4)) none,
    .op (some 29) (.mov (.t 2)) none,
    .op (some 30) (.call 11 [(.t 27), (.t 28), (.t 29)]) none,
    .op (some 26) (.mov (.t 30)) none,
    .op (some 31) (.extr (.t 26) 0) none,
    .op (some 32) (.extr (.t 26) 1) none,
    .op (some 8) (.alloc 32 [(.int .i64 0), (.int .i64 0), (.int .i64 0), (.int .i64 0), (.slice none 0 0), (.bool false), (.slice none 0 0), (.slice none 0 0)]) none,
    .op none (.store 8 (.t 8) (.t 31)) none,
    .op (some 9) (.mov (.t 32)) none])
  (.seq (.reg [.op (some 34) (.mov (.t 0)) none,
    .op (some 35) (.load true 3 (.t 4)) none,
    .op (some 36) (.load true 8 (.t 8)) none,
    .op (some 37) (.call 12 [(.t 34), (.t 35), (.t 36)]) none,
    .op (some 33) (.mov (.t 37)) none,
    .op (some 38) (.extr (.t 33) 0) none,
    .op (some 39) (.extr (.t 33) 1) none,
    .op (some 10) (.mov (.t 38)) none,
    .op (some 11) (.mov (.t 39)) none])
  (.seq (.reg [.op (some 40) (.mov (.t 0)) none,
    .op (some 41) (.load true 3 (.t 4)) none,
    .op (some 42) (.call 13 [(.t 40), (.t 41)]) none,
    .op (some 12) (.mov (.t 42)) none])
  (.seq (.seq (.reg [.op (some 43) (.mov (.t 11)) none,
    .op (some 44) (.bin .neq (.t 43) (.c (.int .i64 0))) none,
    .op (some 45) (.mov (.t 44)) none,
    .op (some 46) (.mov (.t 10)) (some (45, false)),
    .op (some 47) (.len (.t 46)) (some (45, false)),
    .op (some 48) (.mov (.t 0)) (some (45, false)),
    .op (some 49) (.load true 3 (.t 4)) (some (45, false)),
    .op (some 50) (.call 14 [(.t 48), (.t 49)]) (some (45, false)),
    .op (some 51) (.bin .neq (.t 47) (.t 50)) (some (45, false)),
    .op (some 52) (.pick (.t 45) (.c (.bool true)) (.t 51)) none,
    .op (some 53) (.mov (.t 52)) none,
    .op (some 54) (.mov (.t 12)) (some (53, false)),
    .op (some 55) (.bin .lss (.t 54) (.c (.int .i64 0))) (some (53, false)),
    .op (some 56) (.pick (.t 53) (.c (.bool true)) (.t 55)) none])
  (.cond (.t 56)
  (.seq (.reg [.op (some 6) (.mov (.c (.bool false))) none])
    .ret)
  .skip))
  (.seq (.seq (.reg [.op (some 13) (.mov (.c (.int .i64 0))) none])
  (.block 0
  (.loop [57, 58, 59, 60, 63, 64, 65, 66, 67, 68, 69, 70, 71, 72, 73, 74, 6, 61, 62, 13]
    (.seq (.seq (.reg [.op (some 57) (.mov (.t 13)) none,
        .op (some 58) (.mov (.t 10)) none,
        .op (some 59) (.len (.t 58)) none,
        .op (some 60) (.bin .lss (.t 57) (.t 59)) none])
      (.cond (.t 60)
      .skip
      (.exit 0)))
      (.seq (.block 1
      (.seq (.reg [.op (some 63) (.mov (.t 10)) none,
          .op (some 64) (.mov (.t 13)) none,
          .op (some 65) (.idxA 1 (.t 63) (.t 64)) none,
          .op (some 66) (.load false 1 (.t 65)) none,
          .op (some 67) (.bin .lss (.t 66) (.c (.int .i64 (-1000000000)))) none,
          .op (some 68) (.mov (.t 67)) none,
          .op (some 69) (.mov (.t 10)) (some (68, false)),
          .op (some 70) (.mov (.t 13)) (some (68, false)),
          .op (some 71) (.idxA 1 (.t 69) (.t 70)) (some (68, false)),
          .op (some 72) (.load false 1 (.t 71)) (some (68, false)),
          .op (some 73) (.bin .gtr (.t 72) (.c (.int .i64 1000000000))) (some (68, false)),
          .op (some 74) (.pick (.t 68) (.c (.bool true)) (.t 73)) none])
        (.cond (.t 74)
        (.seq (.reg [.op (some 6) (.mov (.c (.bool false))) none])
          .ret)
        .skip)))
      (.reg [.op (some 61) (.mov (.t 13)) none,
        .op (some 62) (.bin .add (.t 61) (.c (.int .i64 1))) none,
        .op (some 13) (.mov (.t 62)) none]))))))
  (.seq (.reg [.op (some 75) (.mov (.t 7)) none,
    .op (some 76) (.mov (.t 75)) none,
    .op (some 77) (.mov (.t 12)) (some (76, true)),
    .op (some 78) (.bin .eql (.t 77) (.c (.int .i64 0))) (some (76, true)),
    .op (some 79) (.mov (.t 78)) (some (76, true)),
    .op (some 80) (.mov (.t 10)) (some (79, false)),
    .op (some 81) (.len (.t 80)) (some (79, false)),
    .op (some 82) (.bin .gtr (.t 81) (.c (.int .i64 0))) (some (79, false)),
    .op (some 83) (.mov (.t 82)) (some (79, false)),
    .op (some 84) (.mov (.t 10)) (some (83, true)),
    .op (some 85) (.idxA 1 (.t 84) (.c (.int .i64 0))) (some (83, true)),
    .op (some 86) (.load false 1 (.t 85)) (some (83, true)),
    .op (some 87) (.bin .geq (.t 86) (.c (.int .i64 0))) (some (83, true)),
    .op (some 88) (.pick (.t 83) (.t 87) (.c (.bool false))) (some (79, false)),
    .op (some 89) (.mov (.t 88)) (some (79, false)),
    .op (some 90) (.mov (.t 10)) (some (89, true)),
    .op (some 91) (.idxA 1 (.t 90) (.c (.int .i64 0))) (some (89, true)),
    .op (some 92) (.load false 1 (.t 91)) (some (89, true)),
    .op (some 93) (.mov (.t 12)) (some (89, true)),
    .op (some 94) (.bin .sub (.c (.int .i64 65536)) (.t 93)) (some (89, true)),
    .op (some 95) (.bin .lss (.t 92) (.t 94)) (some (89, true)),
    .op (some 96) (.pick (.t 89) (.t 95) (.c (.bool false))) (some (79, false)),
    .op (some 97) (.pick (.t 79) (.c (.bool true)) (.t 96)) (some (76, true)),
    .op (some 98) (.pick (.t 76) (.t 97) (.c (.bool false))) none,
    .op (some 6) (.mov (.t 98)) none])
  .ret)))))))))
def A3 : Ann := { n := 99, own := [], frz := [], ord := [] }
theorem facts3 : factsOf Tryd.prog A3 Tryd.f3 = some (c3, 99, [(6, none)], false) := by kernel_rfl

/- 4 leasehold/leaseholdlaw23.LayoutInverse -/
def c4 : SCode := (.seq (.reg [.op (some 5) (.box 25 (.t 1)) none,
    .op (some 8) (.mov (.c (.bool false))) none])
  (.seq (.reg [.op (some 20) (.call 8 []) none,
    .op (some 9) (.mov (.t 20)) none])
  (.seq (.seq (.reg [.op (some 21) (.mov (.t 0)) none,
    .op (some 22) (.load true 3 (.t 5)) none,
    .op (some 23) (.call 9 [(.t 21), (.t 22)]) none,
    .op (some 24) (.un .not (.t 23)) none,
    .op (some 25) (.mov (.t 24)) none,
    .op (some 26) (.mov (.t 0)) (some (25, false)),
    .op (some 27) (.load true 3 (.t 5)) (some (25, false)),
    .op (some 28) (.call 10 [(.t 26), (.t 27)]) (some (25, false)),
    .op (some 29) (.un .not (.t 28)) (some (25, false)),
    .op (some 30) (.pick (.t 25) (.c (.bool true)) (.t 29)) none,
    .op (some 31) (.mov (.t 30)) none,
    .op (some 32) (.mov (.t 3)) (some (31, false)),
    .op (some 33) (.len (.t 32)) (some (31, false)),
    .op (some 34) (.bin .gtr (.t 33) (.c (.int .i64 300))) (some (31, false)),
    .op (some 35) (.pick (.t 31) (.c (.bool true)) (.t 34)) none])
  (.cond (.t 35)
  (.seq (.reg [.op (some 36) (.mov (.t 9)) none,
      .op (some 8) (.mov (.t 36)) none])
    .ret)
  .skip))
  (.seq (.reg [.op (some 38) (.mov (.t 0)) none,
    .op (some 39) (.load true 3 (.t 5)) none,
    .op (some 40) (.mov (.t 2)) none,
    .op (some 41) (.call 11 [(.t 38), (.t 39), (.t 40)]) none,
    .op (some 37) (.mov (.t 41)) none,
    .op (some 42) (.extr (.t 37) 0) none,
    .op (some 43) (.extr (.t 37) 1) none,
    .op (some 10) (.alloc 32 [(.int .i64 0), (.int .i64 0), (.int .i64 0), (.int .i64 0), (.slice none 0 0), (.bool false), (.slice none 0 0), (.slice none 0 0)]) none,
    .op none (.store 8 (.t 10) (.t 42)) none,
    .op (some 11) (.mov (.t 43)) none])
  (.seq (.reg [.op (some 45) (.mov (.t 0)) none,
    .op (some 46) (.load true 3 (.t 5)) none,
    .op (some 47) (.load true 8 (.t 10)) none,
    .op (some 48) (.call 12 [(.t 45), (.t 46), (.t 47)]) none,
    .op (some 44) (.mov (.t 48)) none,
    .op (some 49) (.extr (.t 44) 0) none,
    .op (some 50) (.extr (.t 44) 1) none,
    .op (some 12) (.mov (.t 49)) none,
    .op (some 13) (.mov (.t 50)) none])
  (.seq (.reg [.op (some 52) (.mov (.t 0)) none,
    .op (some 53) (.load true 3 (.t 5)) none,
    .op (some 54) (.mov (.t 12)) none,
    .op (some 55) (.call 15 [(.t 52), (.t 53), (.t 54)]) none,
    .op (some 51) (.mov (.t 55)) none,
    .op (some 56) (.extr (.t 51) 0) none,
    .op (some 57) (.extr (.t 51) 1) none,
    .op (some 14) (.alloc 32 [(.int .i64 0), (.int .i64 0), (.int .i64 0), (.int .i64 0), (.slice none 0 0), (.bool false), (.slice none 0 0), (.slice none 0 0)]) none,
    .op none (.store 8 (.t 14) (.t 56)) none,
    .op (some 15) (.mov (.t 57)) none])
  (.seq (.seq (.reg [.op (some 58) (.mov (.t 13)) none,
    .op (some 59) (.bin .neq (.t 58) (.c (.int .i64 0))) none,
    .op (some 60) (.mov (.t 59)) none,
    .op (some 61) (.mov (.t 15)) (some (60, false)),
    .op (some 62) (.bin .neq (.t 61) (.c (.int .i64 0))) (some (60, false)),
    .op (some 63) (.pick (.t 60) (.c (.bool true)) (.t 62)) none,
    .op (some 64) (.mov (.t 63)) none,
    .op (some 65) (.load true 8 (.t 10)) (some (64, false)),
    .op (some 66) (.load true 8 (.t 14)) (some (64, false)),
    .op (some 67) (.call 16 [(.t 65), (.t 66)]) (some (64, false)),
    .op (some 68) (.un .not (.t 67)) (some (64, false)),
    .op (some 69) (.pick (.t 64) (.c (.bool true)) (.t 68)) none])
  (.cond (.t 69)
  (.seq (.reg [.op (some 8) (.mov (.c (.bool false))) none])
    .ret)
  .skip))
  (.seq (.reg [.op (some 71) (.mov (.t 0)) none,
    .op (some 72) (.load true 3 (.t 5)) none,
    .op (some 73) (.mov (.t 3)) none,
    .op (some 74) (.call 15 [(.t 71), (.t 72), (.t 73)]) none,
    .op (some 70) (.mov (.t 74)) none,
    .op (some 75) (.extr (.t 70) 0) none,
    .op (some 76) (.extr (.t 70) 1) none,
    .op (some 16) (.alloc 32 [(.int .i64 0), (.int .i64 0), (.int .i64 0), (.int .i64 0), (.slice none 0 0), (.bool false), (.slice none 0 0), (.slice none 0 0)]) none,
    .op none (.store 8 (.t 16) (.t 75)) none,
    .op (some 17) (.mov (.t 76)) none])
  (.seq (.seq (.reg [.op (some 77) (.mov (.t 17)) none,
    .op (some 78) (.bin .neq (.t 77) (.c (.int .i64 0))) none])
  (.cond (.t 78)
  (.seq (.reg [.op (some 79) (.mov (.t 9)) none,
      .op (some 80) (.mov (.t 79)) none,
      .op (some 81) (.mov (.t 17)) (some (80, true)),
      .op (some 82) (.bin .eql (.t 81) (.c (.int .i64 16))) (some (80, true)),
      .op (some 83) (.pick (.t 80) (.t 82) (.c (.bool false))) none,
      .op (some 8) (.mov (.t 83)) none])
    .ret)
  .skip))
  (.seq (.reg [.op (some 85) (.mov (.t 0)) none,
    .op (some 86) (.load true 3 (.t 5)) none,
    .op (some 87) (.load true 8 (.t 16)) none,
    .op (some 88) (.call 12 [(.t 85), (.t 86), (.t 87)]) none,
    .op (some 84) (.mov (.t 88)) none,
    .op (some 89) (.extr (.t 84) 0) none,
    .op (some 90) (.extr (.t 84) 1) none,
    .op (some 18) (.mov (.t 89)) none,
    .op (some 19) (.mov (.t 90)) none])
  (.seq (.reg [.op (some 91) (.mov (.t 9)) none,
    .op (some 92) (.mov (.t 91)) none,
    .op (some 93) (.mov (.t 19)) (some (92, true)),
    .op (some 94) (.bin .eql (.t 93) (.c (.int .i64 0))) (some (92, true)),
    .op (some 95) (.pick (.t 92) (.t 94) (.c (.bool false))) none,
    .op (some 96) (.mov (.t 95)) none,
    .op (some 97) (.mov (.t 18)) (some (96, true)),
    .op (some 98) (.mov (.t 3)) (some (96, true)),
    .op (some 99) (.call 17 [(.t 97), (.t 98)]) (some (96, true)),
    .op (some 100) (.pick (.t 96) (.t 99) (.c (.bool false))) none,
    .op (some 8) (.mov (.t 100)) none])
  .ret)))))))))))
def A4 : Ann := { n := 101, own := [], frz := [], ord := [] }
theorem facts4 : factsOf Tryd.prog A4 Tryd.f4 = some (c4, 101, [(8, none)], false) := by kernel_rfl

/- 5 leasehold/leaseholdlaw23.LayoutOptions -/
def c5 : SCode := (.seq (.reg [.op (some 9) (.box 25 (.t 4)) none,
    .op (some 10) (.mov (.c (.bool false))) none])
  (.seq (.reg [.op (some 18) (.call 8 []) none,
    .op (some 11) (.mov (.t 18)) none])
  (.seq (.reg [.op (some 19) (.mov (.t 1)) none,
    .op (some 20) (.conv .i64 (.t 19)) none,
    .op (some 21) (.bin .rem (.t 20) (.c (.int .i64 16))) none,
    .op (some 12) (.mov (.t 21)) none])
  (.seq (.seq (.reg [.op (some 22) (.mov (.t 0)) none,
    .op (some 23) (.load true 3 (.t 9)) none,
    .op (some 24) (.call 9 [(.t 22), (.t 23)]) none,
    .op (some 25) (.un .not (.t 24)) none])
  (.cond (.t 25)
  (.seq (.reg [.op (some 26) (.mov (.t 11)) none,
      .op (some 10) (.mov (.t 26)) none])
    .ret)
  .skip))
  (.seq (.reg [.op (some 27) (.build [(.int .i64 0), (.int .i64 0), (.slice none 0 0)] [(0, 1, (.c (.int .i64 6)))]) none,
    .op (some 13) (.alloc 25 [(.int .i64 0), (.int .i64 0), (.slice none 0 0)]) none,
    .op none (.store 3 (.t 13) (.t 27)) none])
  (.seq (.seq (.reg [.op (some 28) (.mov (.t 3)) none,
    .op (some 29) (.bin .rem (.t 28) (.c (.int .u8 3))) none])
  (.block 0
  (.seq (.reg [.op (some 31) (.bin .eql (.t 29) (.c (.int .u8 0))) none,
      .op (some 30) (.mov (.t 31)) none])
    (.cond (.t 30)
    (.reg [.op (some 32) (.load true 3 (.t 9)) none,
        .op (some 33) (.call 18 [(.c (.int .i64 3)), (.t 32)]) none,
        .op none (.store 3 (.t 13) (.t 33)) none])
    (.seq (.reg [.op (some 35) (.bin .eql (.t 29) (.c (.int .u8 1))) none,
        .op (some 34) (.mov (.t 35)) none])
      (.cond (.t 34)
      (.reg [.op (some 36) (.load true 3 (.t 9)) none,
          .op (some 37) (.call 18 [(.c (.int .i64 4)), (.t 36)]) none,
          .op none (.store 3 (.t 13) (.t 37)) none])
      .skip))))))
  (.seq (.reg [.op (some 38) (.build [(.string ⟨#[]⟩), (.int .i64 0), (.int .i64 0), (.slice none 0 0), (.int .i64 0)] []) none,
    .op (some 14) (.alloc 48 [(.string ⟨#[]⟩), (.int .i64 0), (.int .i64 0), (.slice none 0 0), (.int .i64 0)]) none,
    .op none (.store 5 (.t 14) (.t 38)) none])
  (.seq (.seq (.reg [.op (some 15) (.mov (.c (.int .i64 0))) none])
  (.block 1
  (.loop [39, 40, 41, 44, 16, 45, 46, 47, 48, 49, 50, 51, 52, 53, 54, 55, 56, 57, 58, 59, 60, 42, 43, 15]
    (.seq (.seq (.reg [.op (some 39) (.mov (.t 15)) none,
        .op (some 40) (.mov (.t 12)) none,
        .op (some 41) (.bin .leq (.t 39) (.t 40)) none])
      (.cond (.t 41)
      .skip
      (.exit 1)))
      (.seq (.block 2
      (.seq (.reg [.op (some 44) (.build [(.string ⟨#[]⟩), (.slice none 0 0)] []) none,
          .op (some 16) (.alloc 50 [(.string ⟨#[]⟩), (.slice none 0 0)]) none,
          .op none (.store 2 (.t 16) (.t 44)) none])
        (.seq (.seq (.reg [.op (some 45) (.mov (.t 15)) none,
          .op (some 46) (.mov (.t 2)) none,
          .op (some 47) (.conv .i64 (.t 46)) none,
          .op (some 48) (.mov (.t 12)) none,
          .op (some 49) (.bin .add (.t 48) (.c (.int .i64 1))) none,
          .op (some 50) (.bin .rem (.t 47) (.t 49)) none,
          .op (some 51) (.bin .eql (.t 45) (.t 50)) none])
        (.cond (.t 51)
        (.reg [.op (some 52) (.load true 3 (.t 13)) none,
            .op (some 53) (.mkF 25 1 3 [(.t 52)]) none,
            .op (some 54) (.fieldA 1 (.t 16)) none,
            .op none (.store 1 (.t 54) (.t 53)) none])
        .skip))
        (.reg [.op (some 55) (.fieldA 3 (.t 14)) none,
          .op (some 56) (.load false 1 (.t 55)) none,
          .op (some 57) (.load true 2 (.t 16)) none,
          .op (some 58) (.mkF 50 1 2 [(.t 57)]) none,
          .op (some 59) (.app 50 2 40 [(.string ⟨#[]⟩), (.slice none 0 0)] (.t 56) (.t 58)) none,
          .op (some 60) (.fieldA 3 (.t 14)) none,
          .op none (.store 1 (.t 60) (.t 59)) none]))))
      (.reg [.op (some 42) (.mov (.t 15)) none,
        .op (some 43) (.bin .add (.t 42) (.c (.int .i64 1))) none,
        .op (some 15) (.mov (.t 43)) none]))))))
  (.seq (.seq (.reg [.frz 59])
  (.regD [.op (some 62) (.mov (.t 0)) none,
    .op (some 64) (.loadD true 5 (.t 14)) none,
    .op (some 61) (.makeSD 48 5 0 (List.replicate 5 undef)) none,
    .op (some 63) (.appD 48 5 64 [(.string ⟨#[]⟩), (.int .i64 0), (.int .i64 0), (.slice none 0 0), (.int .i64 0)] (.t 61) (.t 62)) none,
    .op (some 65) (.mkFD 48 1 5 [(.t 64)]) none,
    .op (some 66) (.appD 48 5 64 [(.string ⟨#[]⟩), (.int .i64 0), (.int .i64 0), (.slice none 0 0), (.int .i64 0)] (.t 63) (.t 65)) none,
    .op (some 17) (.mov (.t 66)) none]))
  (.seq (.reg [.frz 61,
    .op (some 67) (.mov (.t 11)) none,
    .op (some 68) (.mov (.t 67)) none,
    .op (some 69) (.mov (.t 17)) (some (68, true)),
    .op (some 70) (.mov (.t 0)) (some (68, true)),
    .op (some 71) (.len (.t 70)) (some (68, true)),
    .op (some 72) (.call 19 [(.t 71), (.c (.slice none 0 0))]) (some (68, true)),
    .op (some 73) (.call 14 [(.t 69), (.t 72)]) (some (68, true)),
    .op (some 74) (.bin .eql (.t 73) (.c (.int .i64 1))) (some (68, true)),
    .op (some 75) (.pick (.t 68) (.t 74) (.c (.bool false))) none,
    .op (some 76) (.mov (.t 75)) none,
    .op (some 77) (.mov (.t 17)) (some (76, true)),
    .op (some 78) (.mov (.t 0)) (some (76, true)),
    .op (some 79) (.len (.t 78)) (some (76, true)),
    .op (some 80) (.call 19 [(.t 79), (.c (.slice none 0 0))]) (some (76, true)),
    .op (some 81) (.call 13 [(.t 77), (.t 80)]) (some (76, true)),
    .op (some 82) (.mov (.t 12)) (some (76, true)),
    .op (some 83) (.bin .sub (.c (.int .i64 32768)) (.t 82)) (some (76, true)),
    .op (some 84) (.bin .eql (.t 81) (.t 83)) (some (76, true)),
    .op (some 85) (.pick (.t 76) (.t 84) (.c (.bool false))) none,
    .op (some 10) (.mov (.t 85)) none])
  .ret))))))))))
def A5 : Ann := { n := 86, own := [61], frz := [(19, 0, [59]), (20, 0, [61])], ord := [(19, [1, 3, 0, 2, 4, 5, 6], [[], [], [0, 1], [], [3], [0, 1, 2, 3, 4], [0, 1, 2, 3, 4, 5]])] }
theorem facts5 : factsOf Tryd.prog A5 Tryd.f5 = some (c5, 86, [(10, none)], false) := by kernel_rfl

/- 6 leasehold/leaseholdlaw23.LayoutLength -/
def c6 : SCode := (.seq (.reg [.op (some 5) (.box 25 (.t 1)) none,
    .op (some 8) (.mov (.c (.bool false))) none])
  (.seq (.reg [.op (some 18) (.call 8 []) none,
    .op (some 9) (.mov (.t 18)) none])
  (.seq (.seq (.reg [.op (some 19) (.mov (.t 0)) none,
    .op (some 20) (.load true 3 (.t 5)) none,
    .op (some 21) (.call 9 [(.t 19), (.t 20)]) none,
    .op (some 22) (.un .not (.t 21)) none,
    .op (some 23) (.mov (.t 22)) none,
    .op (some 24) (.mov (.t 0)) (some (23, false)),
    .op (some 25) (.load true 3 (.t 5)) (some (23, false)),
    .op (some 26) (.call 10 [(.t 24), (.t 25)]) (some (23, false)),
    .op (some 27) (.un .not (.t 26)) (some (23, false)),
    .op (some 28) (.pick (.t 23) (.c (.bool true)) (.t 27)) none])
  (.cond (.t 28)
  (.seq (.reg [.op (some 29) (.mov (.t 9)) none,
      .op (some 8) (.mov (.t 29)) none])
    .ret)
  .skip))
  (.seq (.reg [.op (some 31) (.mov (.t 0)) none,
    .op (some 32) (.load true 3 (.t 5)) none,
    .op (some 33) (.mov (.t 2)) none,
    .op (some 34) (.call 11 [(.t 31), (.t 32), (.t 33)]) none,
    .op (some 30) (.mov (.t 34)) none,
    .op (some 35) (.extr (.t 30) 0) none,
    .op (some 36) (.extr (.t 30) 1) none,
    .op (some 10) (.alloc 32 [(.int .i64 0), (.int .i64 0), (.int .i64 0), (.int .i64 0), (.slice none 0 0), (.bool false), (.slice none 0 0), (.slice none 0 0)]) none,
    .op none (.store 8 (.t 10) (.t 35)) none,
    .op (some 11) (.mov (.t 36)) none])
  (.seq (.reg [.op (some 38) (.mov (.t 0)) none,
    .op (some 39) (.load true 3 (.t 5)) none,
    .op (some 40) (.load true 8 (.t 10)) none,
    .op (some 41) (.call 12 [(.t 38), (.t 39), (.t 40)]) none,
    .op (some 37) (.mov (.t 41)) none,
    .op (some 42) (.extr (.t 37) 0) none,
    .op (some 43) (.extr (.t 37) 1) none,
    .op (some 12) (.mov (.t 42)) none,
    .op (some 13) (.mov (.t 43)) none])
  (.seq (.seq (.reg [.op (some 44) (.mov (.t 13)) none,
    .op (some 45) (.bin .neq (.t 44) (.c (.int .i64 0))) none])
  (.cond (.t 45)
  (.seq (.reg [.op (some 8) (.mov (.c (.bool false))) none])
    .ret)
  .skip))
  (.seq (.regD [.op (some 47) (.mov (.t 0)) none,
    .op (some 48) (.loadD true 3 (.t 5)) none,
    .op (some 50) (.mov (.t 12)) none,
    .op (some 52) (.mov (.t 3)) none,
    .op (some 49) (.makeSD 3 1 0 (List.replicate 1 undef)) none,
    .op (some 51) (.appD 3 1 8 [(.int .i64 0)] (.t 49) (.t 50)) none,
    .op (some 53) (.mkFD 3 1 1 [(.t 52)]) none,
    .op (some 54) (.appD 3 1 8 [(.int .i64 0)] (.t 51) (.t 53)) none,
    .op (some 55) (.callD 15 [(.t 47), (.t 48), (.t 54)]) none,
    .op (some 46) (.mov (.t 55)) none,
    .op (some 56) (.extr (.t 46) 0) none,
    .op (some 57) (.extr (.t 46) 1) none,
    .op (some 14) (.allocD 32 [(.int .i64 0), (.int .i64 0), (.int .i64 0), (.int .i64 0), (.slice none 0 0), (.bool false), (.slice none 0 0), (.slice none 0 0)]) none,
    .op none (.storeD 8 (.t 14) (.t 56)) none,
    .op (some 15) (.mov (.t 57)) none])
  (.seq (.seq (.reg [.op (some 58) (.mov (.t 15)) none,
    .op (some 59) (.bin .neq (.t 58) (.c (.int .i64 16))) none,
    .op (some 60) (.mov (.t 59)) none,
    .op (some 61) (.mov (.t 12)) (some (60, false)),
    .op (some 62) (.len (.t 61)) (some (60, false)),
    .op (some 63) (.bin .eql (.t 62) (.c (.int .i64 0))) (some (60, false)),
    .op (some 64) (.pick (.t 60) (.c (.bool true)) (.t 63)) none])
  (.cond (.t 64)
  (.seq (.reg [.op (some 65) (.mov (.t 9)) none,
      .op (some 66) (.mov (.t 65)) none,
      .op (some 67) (.mov (.t 15)) (some (66, true)),
      .op (some 68) (.bin .eql (.t 67) (.c (.int .i64 16))) (some (66, true)),
      .op (some 69) (.pick (.t 66) (.t 68) (.c (.bool false))) none,
      .op (some 8) (.mov (.t 69)) none])
    .ret)
  .skip))
  (.seq (.regD [.op (some 71) (.mov (.t 0)) none,
    .op (some 72) (.loadD true 3 (.t 5)) none,
    .op (some 73) (.mov (.t 12)) none,
    .op (some 74) (.mov (.t 12)) none,
    .op (some 75) (.len (.t 74)) none,
    .op (some 76) (.bin .sub (.t 75) (.c (.int .i64 1))) none,
    .op (some 77) (.slc 1 (.t 73) none (some (.t 76))) none,
    .op (some 78) (.callD 15 [(.t 71), (.t 72), (.t 77)]) none,
    .op (some 70) (.mov (.t 78)) none,
    .op (some 79) (.extr (.t 70) 0) none,
    .op (some 80) (.extr (.t 70) 1) none,
    .op (some 16) (.allocD 32 [(.int .i64 0), (.int .i64 0), (.int .i64 0), (.int .i64 0), (.slice none 0 0), (.bool false), (.slice none 0 0), (.slice none 0 0)]) none,
    .op none (.storeD 8 (.t 16) (.t 79)) none,
    .op (some 17) (.mov (.t 80)) none])
  (.seq (.reg [.op (some 81) (.mov (.t 9)) none,
    .op (some 82) (.mov (.t 81)) none,
    .op (some 83) (.mov (.t 17)) (some (82, true)),
    .op (some 84) (.bin .eql (.t 83) (.c (.int .i64 16))) (some (82, true)),
    .op (some 85) (.pick (.t 82) (.t 84) (.c (.bool false))) none,
    .op (some 8) (.mov (.t 85)) none])
  .ret))))))))))
def A6 : Ann := { n := 86, own := [49], frz := [], ord := [(8, [0, 1, 3, 5, 2, 4, 6, 7, 8, 9, 10, 11, 12, 13, 14], [[], [], [], [], [2, 3], [], [5], [2, 3, 4, 5, 6], [0, 1, 2, 3, 4, 5, 6, 7], [0, 1, 2, 3, 4, 5, 6, 7, 8], [0, 1, 2, 3, 4, 5, 6, 7, 8, 9], [0, 1, 2, 3, 4, 5, 6, 7, 8, 9], [], [0, 1, 2, 3, 4, 5, 6, 7, 8, 9, 10, 12], [0, 1, 2, 3, 4, 5, 6, 7, 8, 9, 10, 11, 12, 13]]), (11, [0, 1, 2, 3, 4, 5, 6, 7, 8, 9, 10, 11, 12, 13], [[], [], [], [], [3], [3, 4], [2, 3, 4, 5], [0, 1, 2, 3, 4, 5, 6], [0, 1, 2, 3, 4, 5, 6, 7], [0, 1, 2, 3, 4, 5, 6, 7, 8], [0, 1, 2, 3, 4, 5, 6, 7, 8], [], [0, 1, 2, 3, 4, 5, 6, 7, 8, 9, 11], [0, 1, 2, 3, 4, 5, 6, 7, 8, 9, 10, 11, 12]])] }
theorem facts6 : factsOf Tryd.prog A6 Tryd.f6 = some (c6, 86, [(8, none)], false) := by kernel_rfl

/- 7 leasehold/leaseholdlaw23.LayoutMore -/
def c7 : SCode := (.seq (.reg [.op (some 5) (.box 48 (.t 1)) none,
    .op (some 6) (.box 25 (.t 2)) none,
    .op (some 8) (.mov (.c (.bool false))) none])
  (.seq (.reg [.op (some 17) (.call 8 []) none,
    .op (some 9) (.mov (.t 17)) none])
  (.seq (.regD [.op (some 19) (.mov (.t 0)) none,
    .op (some 21) (.loadD true 5 (.t 5)) none,
    .op (some 18) (.makeSD 48 5 0 (List.replicate 5 undef)) none,
    .op (some 20) (.appD 48 5 64 [(.string ⟨#[]⟩), (.int .i64 0), (.int .i64 0), (.slice none 0 0), (.int .i64 0)] (.t 18) (.t 19)) none,
    .op (some 22) (.mkFD 48 1 5 [(.t 21)]) none,
    .op (some 23) (.appD 48 5 64 [(.string ⟨#[]⟩), (.int .i64 0), (.int .i64 0), (.slice none 0 0), (.int .i64 0)] (.t 20) (.t 22)) none,
    .op (some 10) (.mov (.t 23)) none])
  (.seq (.seq (.reg [.frz 18,
    .op (some 24) (.mov (.t 10)) none,
    .op (some 25) (.load true 3 (.t 6)) none,
    .op (some 26) (.call 9 [(.t 24), (.t 25)]) none,
    .op (some 27) (.un .not (.t 26)) none,
    .op (some 28) (.mov (.t 27)) none,
    .op (some 29) (.mov (.t 0)) (some (28, false)),
    .op (some 30) (.load true 3 (.t 6)) (some (28, false)),
    .op (some 31) (.call 10 [(.t 29), (.t 30)]) (some (28, false)),
    .op (some 32) (.un .not (.t 31)) (some (28, false)),
    .op (some 33) (.pick (.t 28) (.c (.bool true)) (.t 32)) none])
  (.cond (.t 33)
  (.seq (.reg [.op (some 34) (.mov (.t 9)) none,
      .op (some 8) (.mov (.t 34)) none])
    .ret)
  .skip))
  (.seq (.reg [.op (some 36) (.mov (.t 0)) none,
    .op (some 37) (.load true 3 (.t 6)) none,
    .op (some 38) (.mov (.t 3)) none,
    .op (some 39) (.call 11 [(.t 36), (.t 37), (.t 38)]) none,
    .op (some 35) (.mov (.t 39)) none,
    .op (some 40) (.extr (.t 35) 0) none,
    .op (some 41) (.extr (.t 35) 1) none,
    .op (some 11) (.alloc 32 [(.int .i64 0), (.int .i64 0), (.int .i64 0), (.int .i64 0), (.slice none 0 0), (.bool false), (.slice none 0 0), (.slice none 0 0)]) none,
    .op none (.store 8 (.t 11) (.t 40)) none,
    .op (some 12) (.mov (.t 41)) none])
  (.seq (.reg [.op (some 43) (.mov (.t 0)) none,
    .op (some 44) (.load true 3 (.t 6)) none,
    .op (some 45) (.load true 8 (.t 11)) none,
    .op (some 46) (.call 12 [(.t 43), (.t 44), (.t 45)]) none,
    .op (some 42) (.mov (.t 46)) none,
    .op (some 47) (.extr (.t 42) 0) none,
    .op (some 48) (.extr (.t 42) 1) none,
    .op (some 13) (.mov (.t 47)) none,
    .op (some 14) (.mov (.t 48)) none])
  (.seq (.reg [.op (some 50) (.mov (.t 10)) none,
    .op (some 51) (.load true 3 (.t 6)) none,
    .op (some 52) (.load true 8 (.t 11)) none,
    .op (some 53) (.call 12 [(.t 50), (.t 51), (.t 52)]) none,
    .op (some 49) (.mov (.t 53)) none,
    .op (some 54) (.extr (.t 49) 0) none,
    .op (some 55) (.extr (.t 49) 1) none,
    .op (some 15) (.mov (.t 54)) none,
    .op (some 16) (.mov (.t 55)) none])
  (.seq (.regD [.op (some 56) (.mov (.t 9)) none,
    .op (some 57) (.mov (.t 56)) none,
    .op (some 58) (.mov (.t 14)) (some (57, true)),
    .op (some 59) (.bin .eql (.t 58) (.c (.int .i64 0))) (some (57, true)),
    .op (some 60) (.pick (.t 57) (.t 59) (.c (.bool false))) none,
    .op (some 61) (.mov (.t 60)) none,
    .op (some 62) (.mov (.t 16)) (some (61, true)),
    .op (some 63) (.bin .eql (.t 62) (.c (.int .i64 0))) (some (61, true)),
    .op (some 64) (.pick (.t 61) (.t 63) (.c (.bool false))) none,
    .op (some 65) (.mov (.t 64)) none,
    .op (some 66) (.mov (.t 13)) (some (65, true)),
    .op (some 67) (.mov (.t 15)) (some (65, true)),
    .op (some 68) (.callD 17 [(.t 66), (.t 67)]) (some (65, true)),
    .op (some 69) (.pick (.t 65) (.t 68) (.c (.bool false))) none,
    .op (some 70) (.mov (.t 69)) none,
    .op (some 71) (.mov (.t 0)) (some (70, true)),
    .op (some 72) (.loadD true 3 (.t 6)) (some (70, true)),
    .op (some 74) (.mov (.t 10)) (some (70, true)),
    .op (some 75) (.loadD true 3 (.t 6)) (some (70, true)),
    .op (some 73) (.callD 14 [(.t 71), (.t 72)]) (some (70, true)),
    .op (some 76) (.callD 14 [(.t 74), (.t 75)]) (some (70, true)),
    .op (some 77) (.bin .eql (.t 73) (.t 76)) (some (70, true)),
    .op (some 78) (.pick (.t 70) (.t 77) (.c (.bool false))) none,
    .op (some 79) (.mov (.t 78)) none,
    .op (some 80) (.mov (.t 0)) (some (79, true)),
    .op (some 81) (.loadD true 3 (.t 6)) (some (79, true)),
    .op (some 83) (.mov (.t 10)) (some (79, true)),
    .op (some 84) (.loadD true 3 (.t 6)) (some (79, true)),
    .op (some 82) (.callD 13 [(.t 80), (.t 81)]) (some (79, true)),
    .op (some 85) (.callD 13 [(.t 83), (.t 84)]) (some (79, true)),
    .op (some 86) (.bin .eql (.t 82) (.t 85)) (some (79, true)),
    .op (some 87) (.pick (.t 79) (.t 86) (.c (.bool false))) none,
    .op (some 8) (.mov (.t 87)) none])
  .ret))))))))
def A7 : Ann := { n := 88, own := [18], frz := [(3, 0, [18])], ord := [(2, [1, 3, 0, 2, 4, 5, 6], [[], [], [0, 1], [], [3], [0, 1, 2, 3, 4], [0, 1, 2, 3, 4, 5]]), (8, [0, 1, 2, 3, 4, 5, 6, 7, 8, 9, 10, 11, 12, 13, 14, 15, 16, 18, 19, 17, 20, 21, 22, 23, 24, 25, 27, 28, 26, 29, 30, 31, 32], [[], [0], [0, 1], [0, 1, 2], [0, 1, 2, 3], [0, 1, 2, 3, 4], [0, 1, 2, 3, 4, 5], [0, 1, 2, 3, 4, 5, 6], [0, 1, 2, 3, 4, 5, 6, 7], [0, 1, 2, 3, 4, 5, 6, 7, 8], [0, 1, 2, 3, 4, 5, 6, 7, 8, 9], [0, 1, 2, 3, 4, 5, 6, 7, 8, 9], [0, 1, 2, 3, 4, 5, 6, 7, 8, 9, 10, 11], [0, 1, 2, 3, 4, 5, 6, 7, 8, 9, 10, 11, 12], [0, 1, 2, 3, 4, 5, 6, 7, 8, 9, 10, 11, 12, 13], [0, 1, 2, 3, 4, 5, 6, 7, 8, 9, 10, 11, 12, 13, 14], [0, 1, 2, 3, 4, 5, 6, 7, 8, 9, 10, 11, 12, 13, 14], [0, 1, 2, 3, 4, 5, 6, 7, 8, 9, 10, 11, 12, 13, 14, 15, 16], [0, 1, 2, 3, 4, 5, 6, 7, 8, 9, 10, 11, 12, 13, 14], [0, 1, 2, 3, 4, 5, 6, 7, 8, 9, 10, 11, 12, 13, 14], [0, 1, 2, 3, 4, 5, 6, 7, 8, 9, 10, 11, 12, 13, 14, 15, 16, 17, 18, 19], [0, 1, 2, 3, 4, 5, 6, 7, 8, 9, 10, 11, 12, 13, 14, 15, 16, 17, 18, 19, 20], [0, 1, 2, 3, 4, 5, 6, 7, 8, 9, 10, 11, 12, 13, 14, 15, 16, 17, 18, 19, 20, 21], [0, 1, 2, 3, 4, 5, 6, 7, 8, 9, 10, 11, 12, 13, 14, 15, 16, 17, 18, 19, 20, 21, 22], [0, 1, 2, 3, 4, 5, 6, 7, 8, 9, 10, 11, 12, 13, 14, 15, 16, 17, 18, 19, 20, 21, 22, 23], [0, 1, 2, 3, 4, 5, 6, 7, 8, 9, 10, 11, 12, 13, 14, 15, 16, 17, 18, 19, 20, 21, 22, 23], [0, 1, 2, 3, 4, 5, 6, 7, 8, 9, 10, 11, 12, 13, 14, 15, 16, 17, 18, 19, 20, 21, 22, 23, 24, 25], [0, 1, 2, 3, 4, 5, 6, 7, 8, 9, 10, 11, 12, 13, 14, 15, 16, 17, 18, 19, 20, 21, 22, 23], [0, 1, 2, 3, 4, 5, 6, 7, 8, 9, 10, 11, 12, 13, 14, 15, 16, 17, 18, 19, 20, 21, 22, 23], [0, 1, 2, 3, 4, 5, 6, 7, 8, 9, 10, 11, 12, 13, 14, 15, 16, 17, 18, 19, 20, 21, 22, 23, 24, 25, 26, 27, 28], [0, 1, 2, 3, 4, 5, 6, 7, 8, 9, 10, 11, 12, 13, 14, 15, 16, 17, 18, 19, 20, 21, 22, 23, 24, 25, 26, 27, 28, 29], [0, 1, 2, 3, 4, 5, 6, 7, 8, 9, 10, 11, 12, 13, 14, 15, 16, 17, 18, 19, 20, 21, 22, 23, 24, 25, 26, 27, 28, 29, 30], [0, 1, 2, 3, 4, 5, 6, 7, 8, 9, 10, 11, 12, 13, 14, 15, 16, 17, 18, 19, 20, 21, 22, 23, 24, 25, 26, 27, 28, 29, 30, 31]])] }
theorem facts7 : factsOf Tryd.prog A7 Tryd.f7 = some (c7, 88, [(8, none)], false) := by kernel_rfl

/- 8 leasehold/leaseholdlaw23.head -/
def c8 : SCode := (.seq (.reg [.op (some 0) (.mov (.c (.bool false))) none])
  (.seq (.reg [.op (some 13) (.call 20 []) none,
    .op (some 1) (.mov (.t 13)) none])
  (.seq (.reg [.op (some 14) (.call 21 []) none,
    .op (some 2) (.alloc 25 [(.int .i64 0), (.int .i64 0), (.slice none 0 0)]) none,
    .op none (.store 3 (.t 2) (.t 14)) none])
  (.seq (.reg [.op (some 15) (.load true 3 (.t 2)) none,
    .op (some 16) (.call 18 [(.c (.int .i64 3)), (.t 15)]) none,
    .op (some 3) (.alloc 25 [(.int .i64 0), (.int .i64 0), (.slice none 0 0)]) none,
    .op none (.store 3 (.t 3) (.t 16)) none])
  (.seq (.reg [.op (some 18) (.mov (.t 1)) none,
    .op (some 19) (.load true 3 (.t 3)) none,
    .op (some 20) (.mkF 25 1 3 [(.t 19)]) none,
    .op (some 21) (.call 19 [(.c (.int .i64 0)), (.t 20)]) none,
    .op (some 22) (.build [(.int .i64 0), (.int .i64 0), (.int .i64 0), (.int .i64 0), (.slice none 0 0), (.bool false), (.slice none 0 0), (.slice none 0 0)] [(0, 1, (.c (.int .i64 2)))]) none,
    .op (some 23) (.call 12 [(.t 18), (.t 21), (.t 22)]) none,
    .op (some 17) (.mov (.t 23)) none,
    .op (some 24) (.extr (.t 17) 0) none,
    .op (some 25) (.extr (.t 17) 1) none,
    .op (some 4) (.mov (.t 24)) none,
    .op (some 5) (.mov (.t 25)) none])
  (.seq (.reg [.op (some 27) (.mov (.t 1)) none,
    .op (some 28) (.load true 3 (.t 3)) none,
    .op (some 29) (.mkF 25 1 3 [(.t 28)]) none,
    .op (some 30) (.call 19 [(.c (.int .i64 0)), (.t 29)]) none,
    .op (some 31) (.build [(.int .i64 0), (.int .i64 0), (.int .i64 0), (.int .i64 0), (.slice none 0 0), (.bool false), (.slice none 0 0), (.slice none 0 0)] [(0, 1, (.c (.int .i64 3))), (3, 1, (.c (.int .i64 5)))]) none,
    .op (some 32) (.mkF 32 1 8 [(.t 31)]) none,
    .op (some 33) (.build [(.int .i64 0), (.int .i64 0), (.int .i64 0), (.int .i64 0), (.slice none 0 0), (.bool false), (.slice none 0 0), (.slice none 0 0)] [(0, 1, (.c (.int .i64 2))), (2, 1, (.c (.int .i64 1))), (4, 1, (.t 32))]) none,
    .op (some 34) (.call 12 [(.t 27), (.t 30), (.t 33)]) none,
    .op (some 26) (.mov (.t 34)) none,
    .op (some 35) (.extr (.t 26) 0) none,
    .op (some 36) (.extr (.t 26) 1) none,
    .op (some 6) (.mov (.t 35)) none,
    .op (some 7) (.mov (.t 36)) none])
  (.seq (.reg [.op (some 38) (.mov (.t 1)) none,
    .op (some 39) (.load true 3 (.t 3)) none,
    .op (some 40) (.mkF 25 1 3 [(.t 39)]) none,
    .op (some 41) (.call 19 [(.c (.int .i64 0)), (.t 40)]) none,
    .op (some 42) (.mkF 3 1 1 [(.c (.int .i64 32768))]) none,
    .op (some 43) (.call 15 [(.t 38), (.t 41), (.t 42)]) none,
    .op (some 37) (.mov (.t 43)) none,
    .op (some 44) (.extr (.t 37) 0) none,
    .op (some 45) (.extr (.t 37) 1) none,
    .op (some 8) (.alloc 32 [(.int .i64 0), (.int .i64 0), (.int .i64 0), (.int .i64 0), (.slice none 0 0), (.bool false), (.slice none 0 0), (.slice none 0 0)]) none,
    .op none (.store 8 (.t 8) (.t 44)) none,
    .op (some 9) (.mov (.t 45)) none])
  (.seq (.reg [.op (some 47) (.mov (.t 1)) none,
    .op (some 48) (.load true 3 (.t 3)) none,
    .op (some 49) (.mkF 25 1 3 [(.t 48)]) none,
    .op (some 50) (.call 19 [(.c (.int .i64 0)), (.t 49)]) none,
    .op (some 51) (.mkF 3 1 1 [(.c (.int .i64 32769))]) none,
    .op (some 52) (.call 15 [(.t 47), (.t 50), (.t 51)]) none,
    .op (some 46) (.mov (.t 52)) none,
    .op (some 53) (.extr (.t 46) 0) none,
    .op (some 54) (.extr (.t 46) 1) none,
    .op (some 10) (.alloc 32 [(.int .i64 0), (.int .i64 0), (.int .i64 0), (.int .i64 0), (.slice none 0 0), (.bool false), (.slice none 0 0), (.slice none 0 0)]) none,
    .op none (.store 8 (.t 10) (.t 53)) none,
    .op (some 11) (.mov (.t 54)) none])
  (.seq (.reg [.op (some 55) (.mov (.t 1)) none,
    .op (some 56) (.load true 3 (.t 3)) none,
    .op (some 57) (.mkF 25 1 3 [(.t 56)]) none,
    .op (some 58) (.call 19 [(.c (.int .i64 0)), (.t 57)]) none,
    .op (some 59) (.call 14 [(.t 55), (.t 58)]) none,
    .op (some 60) (.bin .eql (.t 59) (.c (.int .i64 1))) none,
    .op (some 61) (.mov (.t 60)) none,
    .op (some 62) (.mov (.t 1)) (some (61, true)),
    .op (some 63) (.load true 3 (.t 3)) (some (61, true)),
    .op (some 64) (.mkF 25 1 3 [(.t 63)]) (some (61, true)),
    .op (some 65) (.call 19 [(.c (.int .i64 0)), (.t 64)]) (some (61, true)),
    .op (some 66) (.call 13 [(.t 62), (.t 65)]) (some (61, true)),
    .op (some 67) (.bin .eql (.t 66) (.c (.int .i64 32767))) (some (61, true)),
    .op (some 68) (.pick (.t 61) (.t 67) (.c (.bool false))) none,
    .op (some 69) (.mov (.t 68)) none,
    .op (some 70) (.mov (.t 1)) (some (69, true)),
    .op (some 71) (.load true 3 (.t 2)) (some (69, true)),
    .op (some 72) (.mkF 25 1 3 [(.t 71)]) (some (69, true)),
    .op (some 73) (.call 19 [(.c (.int .i64 0)), (.t 72)]) (some (69, true)),
    .op (some 74) (.call 14 [(.t 70), (.t 73)]) (some (69, true)),
    .op (some 75) (.bin .eql (.t 74) (.c (.int .i64 2))) (some (69, true)),
    .op (some 76) (.pick (.t 69) (.t 75) (.c (.bool false))) none,
    .op (some 77) (.mov (.t 76)) none,
    .op (some 78) (.mov (.t 1)) (some (77, true)),
    .op (some 79) (.load true 3 (.t 2)) (some (77, true)),
    .op (some 80) (.mkF 25 1 3 [(.t 79)]) (some (77, true)),
    .op (some 81) (.call 19 [(.c (.int .i64 0)), (.t 80)]) (some (77, true)),
    .op (some 82) (.call 13 [(.t 78), (.t 81)]) (some (77, true)),
    .op (some 83) (.bin .eql (.t 82) (.c (.int .i64 65534))) (some (77, true)),
    .op (some 84) (.pick (.t 77) (.t 83) (.c (.bool false))) none,
    .op (some 85) (.mov (.t 84)) none,
    .op (some 86) (.mov (.t 1)) (some (85, true)),
    .op (some 87) (.load true 3 (.t 3)) (some (85, true)),
    .op (some 88) (.mkF 25 1 3 [(.t 87)]) (some (85, true)),
    .op (some 89) (.call 19 [(.c (.int .i64 0)), (.t 88)]) (some (85, true)),
    .op (some 90) (.mkF 25 1 3 [(.t 89)]) (some (85, true)),
    .op (some 91) (.call 19 [(.c (.int .i64 0)), (.t 90)]) (some (85, true)),
    .op (some 92) (.call 13 [(.t 86), (.t 91)]) (some (85, true)),
    .op (some 93) (.bin .eql (.t 92) (.c (.int .i64 32766))) (some (85, true)),
    .op (some 94) (.pick (.t 85) (.t 93) (.c (.bool false))) none,
    .op (some 95) (.mov (.t 94)) none,
    .op (some 96) (.mov (.t 1)) (some (95, true)),
    .op (some 97) (.load true 3 (.t 2)) (some (95, true)),
    .op (some 98) (.load true 3 (.t 3)) (some (95, true)),
    .op (some 99) (.mkF 25 2 3 [(.t 97), (.t 98)]) (some (95, true)),
    .op (some 100) (.call 19 [(.c (.int .i64 1)), (.t 99)]) (some (95, true)),
    .op (some 101) (.call 14 [(.t 96), (.t 100)]) (some (95, true)),
    .op (some 102) (.bin .eql (.t 101) (.c (.int .i64 2))) (some (95, true)),
    .op (some 103) (.pick (.t 95) (.t 102) (.c (.bool false))) none,
    .op (some 104) (.mov (.t 103)) none,
    .op (some 105) (.mov (.t 1)) (some (104, true)),
    .op (some 106) (.load true 3 (.t 2)) (some (104, true)),
    .op (some 107) (.load true 3 (.t 3)) (some (104, true)),
    .op (some 108) (.mkF 25 2 3 [(.t 106), (.t 107)]) (some (104, true)),
    .op (some 109) (.call 19 [(.c (.int .i64 1)), (.t 108)]) (some (104, true)),
    .op (some 110) (.call 13 [(.t 105), (.t 109)]) (some (104, true)),
    .op (some 111) (.bin .eql (.t 110) (.c (.int .i64 0))) (some (104, true)),
    .op (some 112) (.pick (.t 104) (.t 111) (.c (.bool false))) none,
    .op (some 113) (.mov (.t 112)) none,
    .op (some 114) (.mov (.t 1)) (some (113, true)),
    .op (some 115) (.load true 3 (.t 2)) (some (113, true)),
    .op (some 116) (.mkF 25 1 3 [(.t 115)]) (some (113, true)),
    .op (some 117) (.call 19 [(.c (.int .i64 2)), (.t 116)]) (some (113, true)),
    .op (some 118) (.call 14 [(.t 114), (.t 117)]) (some (113, true)),
    .op (some 119) (.bin .eql (.t 118) (.c (.int .i64 3))) (some (113, true)),
    .op (some 120) (.pick (.t 113) (.t 119) (.c (.bool false))) none,
    .op (some 12) (.mov (.t 120)) none])
  (.seq (.reg [.op (some 121) (.mov (.t 12)) none,
    .op (some 122) (.mov (.t 121)) none,
    .op (some 123) (.mov (.t 5)) (some (122, true)),
    .op (some 124) (.bin .eql (.t 123) (.c (.int .i64 0))) (some (122, true)),
    .op (some 125) (.pick (.t 122) (.t 124) (.c (.bool false))) none,
    .op (some 126) (.mov (.t 125)) none,
    .op (some 127) (.mov (.t 4)) (some (126, true)),
    .op (some 128) (.mkF 3 1 1 [(.c (.int .i64 32768))]) (some (126, true)),
    .op (some 129) (.call 17 [(.t 127), (.t 128)]) (some (126, true)),
    .op (some 130) (.pick (.t 126) (.t 129) (.c (.bool false))) none,
    .op (some 131) (.mov (.t 130)) none,
    .op (some 132) (.mov (.t 7)) (some (131, true)),
    .op (some 133) (.bin .eql (.t 132) (.c (.int .i64 0))) (some (131, true)),
    .op (some 134) (.pick (.t 131) (.t 133) (.c (.bool false))) none,
    .op (some 135) (.mov (.t 134)) none,
    .op (some 136) (.mov (.t 6)) (some (135, true)),
    .op (some 137) (.mkF 3 1 1 [(.c (.int .i64 5))]) (some (135, true)),
    .op (some 138) (.call 17 [(.t 136), (.t 137)]) (some (135, true)),
    .op (some 139) (.pick (.t 135) (.t 138) (.c (.bool false))) none,
    .op (some 140) (.mov (.t 139)) none,
    .op (some 141) (.mov (.t 9)) (some (140, true)),
    .op (some 142) (.bin .eql (.t 141) (.c (.int .i64 0))) (some (140, true)),
    .op (some 143) (.pick (.t 140) (.t 142) (.c (.bool false))) none,
    .op (some 144) (.mov (.t 143)) none,
    .op (some 145) (.fieldA 0 (.t 8)) (some (144, true)),
    .op (some 146) (.load false 1 (.t 145)) (some (144, true)),
    .op (some 147) (.bin .eql (.t 146) (.c (.int .i64 2))) (some (144, true)),
    .op (some 148) (.pick (.t 144) (.t 147) (.c (.bool false))) none,
    .op (some 149) (.mov (.t 148)) none,
    .op (some 150) (.fieldA 2 (.t 8)) (some (149, true)),
    .op (some 151) (.load false 1 (.t 150)) (some (149, true)),
    .op (some 152) (.bin .eql (.t 151) (.c (.int .i64 0))) (some (149, true)),
    .op (some 153) (.pick (.t 149) (.t 152) (.c (.bool false))) none,
    .op (some 154) (.mov (.t 153)) none,
    .op (some 155) (.mov (.t 11)) (some (154, true)),
    .op (some 156) (.bin .eql (.t 155) (.c (.int .i64 16))) (some (154, true)),
    .op (some 157) (.pick (.t 154) (.t 156) (.c (.bool false))) none,
    .op (some 158) (.mov (.t 157)) none,
    .op (some 159) (.mov (.t 1)) (some (158, true)),
    .op (some 160) (.build [(.slice none 0 0), (.slice none 0 0), (.slice none 0 0), (.slice none 0 0), (.slice none 0 0), (.slice none 0 0), (.slice none 0 0), (.int .i64 0)] [(2, 1, (.t 159))]) (some (158, true)),
    .op (some 161) (.load true 3 (.t 3)) (some (158, true)),
    .op (some 162) (.mkF 25 1 3 [(.t 161)]) (some (158, true)),
    .op (some 163) (.call 19 [(.c (.int .i64 0)), (.t 162)]) (some (158, true)),
    .op (some 164) (.call 22 [(.t 160), (.c (.int .i64 0)), (.t 163)]) (some (158, true)),
    .op (some 165) (.pick (.t 158) (.t 164) (.c (.bool false))) none,
    .op (some 0) (.mov (.t 165)) none])
  .ret))))))))))
def A8 : Ann := { n := 166, own := [], frz := [], ord := [] }
theorem facts8 : factsOf Tryd.prog A8 Tryd.f8 = some (c8, 166, [(0, none)], false) := by kernel_rfl

/- 9 leasehold/leaseholdref23.Small -/
def c9 : SCode := (.seq (.reg [.op (some 3) (.box 25 (.t 1)) none,
    .op (some 4) (.mov (.c (.bool false))) none])
  (.seq (.seq (.reg [.op (some 8) (.mov (.t 0)) none,
    .op (some 9) (.len (.t 8)) none,
    .op (some 10) (.bin .gtr (.t 9) (.c (.int .i64 8))) none,
    .op (some 11) (.mov (.t 10)) none,
    .op (some 12) (.load true 3 (.t 3)) (some (11, false)),
    .op (some 13) (.mkF 25 1 3 [(.t 12)]) (some (11, false)),
    .op (some 14) (.call 23 [(.t 13)]) (some (11, false)),
    .op (some 15) (.un .not (.t 14)) (some (11, false)),
    .op (some 16) (.pick (.t 11) (.c (.bool true)) (.t 15)) none])
  (.cond (.t 16)
  (.seq (.reg [.op (some 4) (.mov (.c (.bool false))) none])
    .ret)
  .skip))
  (.seq (.seq (.reg [.op (some 5) (.mov (.c (.int .i64 0))) none])
  (.block 0
  (.loop [17, 18, 19, 20, 23, 24, 25, 26, 27, 28, 29, 4, 6, 30, 31, 32, 33, 34, 35, 36, 37, 40, 41, 42, 43, 44, 45, 46, 47, 48, 7, 49, 50, 51, 52, 53, 54, 55, 56, 4, 38, 39, 6, 21, 22, 5]
    (.seq (.seq (.reg [.op (some 17) (.mov (.t 5)) none,
        .op (some 18) (.mov (.t 0)) none,
        .op (some 19) (.len (.t 18)) none,
        .op (some 20) (.bin .lss (.t 17) (.t 19)) none])
      (.cond (.t 20)
      .skip
      (.exit 0)))
      (.seq (.block 1
      (.seq (.seq (.reg [.op (some 23) (.mov (.t 0)) none,
          .op (some 24) (.mov (.t 5)) none,
          .op (some 25) (.idxA 5 (.t 23) (.t 24)) none,
          .op (some 26) (.fieldA 3 (.t 25)) none,
          .op (some 27) (.load false 1 (.t 26)) none,
          .op (some 28) (.len (.t 27)) none,
          .op (some 29) (.bin .gtr (.t 28) (.c (.int .i64 17))) none])
        (.cond (.t 29)
        (.seq (.reg [.op (some 4) (.mov (.c (.bool false))) none])
          .ret)
        .skip))
        (.seq (.reg [.op (some 6) (.mov (.c (.int .i64 0))) none])
        (.block 2
        (.loop [30, 31, 32, 33, 34, 35, 36, 37, 40, 41, 42, 43, 44, 45, 46, 47, 48, 7, 49, 50, 51, 52, 53, 54, 55, 56, 4, 38, 39, 6]
          (.seq (.seq (.reg [.op (some 30) (.mov (.t 6)) none,
              .op (some 31) (.mov (.t 0)) none,
              .op (some 32) (.mov (.t 5)) none,
              .op (some 33) (.idxA 5 (.t 31) (.t 32)) none,
              .op (some 34) (.fieldA 3 (.t 33)) none,
              .op (some 35) (.load false 1 (.t 34)) none,
              .op (some 36) (.len (.t 35)) none,
              .op (some 37) (.bin .lss (.t 30) (.t 36)) none])
            (.cond (.t 37)
            .skip
            (.exit 2)))
            (.seq (.block 3
            (.seq (.reg [.op (some 40) (.mov (.t 0)) none,
                .op (some 41) (.mov (.t 5)) none,
                .op (some 42) (.idxA 5 (.t 40) (.t 41)) none,
                .op (some 43) (.fieldA 3 (.t 42)) none,
                .op (some 44) (.load false 1 (.t 43)) none,
                .op (some 45) (.mov (.t 6)) none,
                .op (some 46) (.idxA 2 (.t 44) (.t 45)) none,
                .op (some 47) (.fieldA 1 (.t 46)) none,
                .op (some 48) (.load false 1 (.t 47)) none,
                .op (some 7) (.mov (.t 48)) none])
              (.seq (.reg [.op (some 49) (.mov (.t 7)) none,
                .op (some 50) (.len (.t 49)) none,
                .op (some 51) (.bin .gtr (.t 50) (.c (.int .i64 4))) none,
                .op (some 52) (.mov (.t 51)) none,
                .op (some 53) (.mov (.t 7)) (some (52, false)),
                .op (some 54) (.call 23 [(.t 53)]) (some (52, false)),
                .op (some 55) (.un .not (.t 54)) (some (52, false)),
                .op (some 56) (.pick (.t 52) (.c (.bool true)) (.t 55)) none])
              (.cond (.t 56)
              (.seq (.reg [.op (some 4) (.mov (.c (.bool false))) none])
                .ret)
              .skip))))
            (.reg [.op (some 38) (.mov (.t 6)) none,
              .op (some 39) (.bin .add (.t 38) (.c (.int .i64 1))) none,
              .op (some 6) (.mov (.t 39)) none]))))))))
      (.reg [.op (some 21) (.mov (.t 5)) none,
        .op (some 22) (.bin .add (.t 21) (.c (.int .i64 1))) none,
        .op (some 5) (.mov (.t 22)) none]))))))
  (.seq (.reg [.op (some 4) (.mov (.c (.bool true))) none])
  .ret))))
def A9 : Ann := { n := 57, own := [], frz := [], ord := [] }
theorem facts9 : factsOf Tryd.prog A9 Tryd.f9 = some (c9, 57, [(4, none)], false) := by kernel_rfl

/- 10 leasehold/leaseholdref23.Has -/
def c10 : SCode := (.seq (.reg [.op (some 3) (.box 25 (.t 1)) none,
    .op (some 4) (.mov (.c (.bool false))) none])
  (.seq (.regD [.op (some 5) (.mov (.t 0)) none,
    .op (some 6) (.loadD true 3 (.t 3)) none,
    .op (some 7) (.callD 25 []) none,
    .op (some 8) (.callD 24 [(.t 5), (.t 6), (.t 7)]) none,
    .op (some 9) (.bin .geq (.t 8) (.c (.int .i64 0))) none,
    .op (some 4) (.mov (.t 9)) none])
  .ret))
def A10 : Ann := { n := 10, own := [], frz := [], ord := [(1, [0, 1, 2, 3, 4, 5], [[], [], [], [0, 1, 2], [0, 1, 2, 3], [0, 1, 2, 3, 4]])] }
theorem facts10 : factsOf Tryd.prog A10 Tryd.f10 = some (c10, 10, [(4, none)], false) := by kernel_rfl

/- 11 leasehold/leaseholdref23.Make -/
def c11 : SCode := (.seq (.reg [.op (some 4) (.box 25 (.t 1)) none,
    .op (some 6) (.alloc 32 [(.int .i64 0), (.int .i64 0), (.int .i64 0), (.int .i64 0), (.slice none 0 0), (.bool false), (.slice none 0 0), (.slice none 0 0)]) none,
    .op (some 7) (.mov (.c (.slice none 0 0))) none])
  (.seq (.reg [.op (some 8) (.mov (.c (.int .i64 0))) none])
  (.seq (.seq (.reg [.op (some 14) (.mov (.t 2)) none,
    .op (some 15) (.len (.t 14)) none,
    .op (some 16) (.bin .gtr (.t 15) (.c (.int .i64 0))) none])
  (.cond (.t 16)
  (.seq (.reg [.op (some 17) (.mov (.t 2)) none,
      .op (some 18) (.idxA 1 (.t 17) (.c (.int .i64 0))) none,
      .op (some 19) (.load false 1 (.t 18)) none,
      .op (some 20) (.conv .i64 (.t 19)) none,
      .op (some 8) (.mov (.t 20)) none])
    (.reg [.op (some 21) (.mov (.t 2)) none,
      .op (some 22) (.slc 1 (.t 21) (some (.c (.int .i64 1))) none) none,
      .op (some 2) (.mov (.t 22)) none]))
  .skip))
  (.seq (.seq (.reg [.op (some 23) (.fieldA 0 (.t 4)) none,
    .op (some 24) (.load false 1 (.t 23)) none])
  (.block 0
  (.seq (.reg [.op (some 26) (.bin .eql (.t 24) (.c (.int .i64 1))) none,
      .op (some 25) (.mov (.t 26)) none])
    (.cond (.t 25)
    (.seq (.reg [.op (some 27) (.mov (.t 8)) none,
        .op (some 28) (.bin .sub (.t 27) (.c (.int .i64 32768))) none,
        .op (some 29) (.bin .mul (.t 28) (.c (.int .i64 30517))) none,
        .op (some 30) (.build [(.int .i64 0), (.int .i64 0), (.int .i64 0), (.int .i64 0), (.slice none 0 0), (.bool false), (.slice none 0 0), (.slice none 0 0)] [(0, 1, (.c (.int .i64 1))), (3, 1, (.t 29))]) none,
        .op (some 31) (.mov (.t 2)) none,
        .op none (.store 8 (.t 6) (.t 30)) none,
        .op (some 7) (.mov (.t 31)) none])
      .ret)
    (.seq (.reg [.op (some 33) (.bin .eql (.t 24) (.c (.int .i64 3))) none,
        .op (some 32) (.mov (.t 33)) none])
      (.cond (.t 32)
      (.seq (.reg [.op (some 34) (.mov (.t 8)) none,
          .op (some 35) (.bin .rem (.t 34) (.c (.int .i64 32768))) none,
          .op (some 36) (.build [(.int .i64 0), (.int .i64 0), (.int .i64 0), (.int .i64 0), (.slice none 0 0), (.bool false), (.slice none 0 0), (.slice none 0 0)] [(0, 1, (.c (.int .i64 3))), (3, 1, (.t 35))]) none,
          .op (some 37) (.mov (.t 2)) none,
          .op none (.store 8 (.t 6) (.t 36)) none,
          .op (some 7) (.mov (.t 37)) none])
        .ret)
      (.seq (.reg [.op (some 39) (.bin .eql (.t 24) (.c (.int .i64 4))) none,
          .op (some 38) (.mov (.t 39)) none])
        (.cond (.t 38)
        (.seq (.reg [.op (some 40) (.mov (.t 8)) none,
            .op (some 41) (.bin .rem (.t 40) (.c (.int .i64 32768))) none,
            .op (some 42) (.build [(.int .i64 0), (.int .i64 0), (.int .i64 0), (.int .i64 0), (.slice none 0 0), (.bool false), (.slice none 0 0), (.slice none 0 0)] [(0, 1, (.c (.int .i64 4))), (3, 1, (.t 41))]) none,
            .op (some 43) (.mov (.t 2)) none,
            .op none (.store 8 (.t 6) (.t 42)) none,
            .op (some 7) (.mov (.t 43)) none])
          .ret)
        (.seq (.reg [.op (some 45) (.bin .eql (.t 24) (.c (.int .i64 6))) none,
            .op (some 44) (.mov (.t 45)) none])
          (.cond (.t 44)
          (.seq (.reg [.op (some 46) (.mov (.t 8)) none,
              .op (some 47) (.bin .rem (.t 46) (.c (.int .i64 32768))) none,
              .op (some 48) (.build [(.int .i64 0), (.int .i64 0), (.int .i64 0), (.int .i64 0), (.slice none 0 0), (.bool false), (.slice none 0 0), (.slice none 0 0)] [(0, 1, (.c (.int .i64 5))), (3, 1, (.t 47))]) none,
              .op (some 49) (.mov (.t 2)) none,
              .op none (.store 8 (.t 6) (.t 48)) none,
              .op (some 7) (.mov (.t 49)) none])
            .ret)
          .skip))))))))))
  (.seq (.regD [.op (some 50) (.fieldA 1 (.t 4)) none,
    .op (some 51) (.loadD false 1 (.t 50)) none,
    .op (some 52) (.mov (.t 8)) none,
    .op (some 53) (.mov (.t 0)) none,
    .op (some 54) (.fieldA 1 (.t 4)) none,
    .op (some 55) (.loadD false 1 (.t 54)) none,
    .op (some 56) (.idxA 5 (.t 53) (.t 55)) none,
    .op (some 57) (.fieldA 3 (.t 56)) none,
    .op (some 58) (.loadD false 1 (.t 57)) none,
    .op (some 59) (.len (.t 58)) none,
    .op (some 60) (.bin .rem (.t 52) (.t 59)) none,
    .op (some 61) (.build [(.int .i64 0), (.int .i64 0), (.int .i64 0), (.int .i64 0), (.slice none 0 0), (.bool false), (.slice none 0 0), (.slice none 0 0)] [(0, 1, (.c (.int .i64 2))), (1, 1, (.t 51)), (2, 1, (.t 60))]) none,
    .op (some 9) (.allocD 32 [(.int .i64 0), (.int .i64 0), (.int .i64 0), (.int .i64 0), (.slice none 0 0), (.bool false), (.slice none 0 0), (.slice none 0 0)]) none,
    .op none (.storeD 8 (.t 9) (.t 61)) none])
  (.seq (.reg [.op (some 62) (.mov (.t 0)) none,
    .op (some 63) (.load true 3 (.t 4)) none,
    .op (some 64) (.fieldA 2 (.t 9)) none,
    .op (some 65) (.load false 1 (.t 64)) none,
    .op (some 66) (.call 26 [(.t 62), (.t 63), (.t 65)]) none,
    .op (some 10) (.mov (.t 66)) none])
  (.seq (.seq (.reg [.op (some 11) (.mov (.c (.int .i64 0))) none])
  (.block 1
  (.loop [67, 68, 69, 70, 74, 75, 76, 77, 78, 79, 80, 73, 81, 82, 12, 13, 83, 84, 85, 86, 87, 88, 89, 2, 71, 72, 11]
    (.seq (.seq (.reg [.op (some 67) (.mov (.t 11)) none,
        .op (some 68) (.mov (.t 10)) none,
        .op (some 69) (.len (.t 68)) none,
        .op (some 70) (.bin .lss (.t 67) (.t 69)) none])
      (.cond (.t 70)
      .skip
      (.exit 1)))
      (.seq (.block 2
      (.seq (.reg [.op (some 74) (.mov (.t 0)) none,
          .op (some 75) (.mov (.t 10)) none,
          .op (some 76) (.mov (.t 11)) none,
          .op (some 77) (.idxA 3 (.t 75) (.t 76)) none,
          .op (some 78) (.load true 3 (.t 77)) none,
          .op (some 79) (.mov (.t 2)) none,
          .op (some 80) (.call 11 [(.t 74), (.t 78), (.t 79)]) none,
          .op (some 73) (.mov (.t 80)) none,
          .op (some 81) (.extr (.t 73) 0) none,
          .op (some 82) (.extr (.t 73) 1) none,
          .op (some 12) (.alloc 32 [(.int .i64 0), (.int .i64 0), (.int .i64 0), (.int .i64 0), (.slice none 0 0), (.bool false), (.slice none 0 0), (.slice none 0 0)]) none,
          .op none (.store 8 (.t 12) (.t 81)) none,
          .op (some 13) (.mov (.t 82)) none])
        (.seq (.reg [.op (some 83) (.fieldA 4 (.t 9)) none,
          .op (some 84) (.load false 1 (.t 83)) none,
          .op (some 85) (.load true 8 (.t 12)) none,
          .op (some 86) (.mkF 32 1 8 [(.t 85)]) none,
          .op (some 87) (.app 32 8 112 [(.int .i64 0), (.int .i64 0), (.int .i64 0), (.int .i64 0), (.slice none 0 0), (.bool false), (.slice none 0 0), (.slice none 0 0)] (.t 84) (.t 86)) none,
          .op (some 88) (.fieldA 4 (.t 9)) none,
          .op none (.store 1 (.t 88) (.t 87)) none])
        (.reg [.op (some 89) (.mov (.t 13)) none,
          .op (some 2) (.mov (.t 89)) none]))))
      (.reg [.op (some 71) (.mov (.t 11)) none,
        .op (some 72) (.bin .add (.t 71) (.c (.int .i64 1))) none,
        .op (some 11) (.mov (.t 72)) none]))))))
  (.seq (.reg [.op (some 90) (.load true 8 (.t 9)) none,
    .op (some 91) (.mov (.t 2)) none,
    .op none (.store 8 (.t 6) (.t 90)) none,
    .op (some 7) (.mov (.t 91)) none])
  .ret))))))))
def A11 : Ann := { n := 92, own := [], frz := [], ord := [(14, [0, 1, 2, 3, 4, 5, 6, 7, 8, 9, 10, 11, 12, 13], [[], [0], [], [], [], [4], [3, 4, 5], [3, 4, 5, 6], [3, 4, 5, 6, 7], [3, 4, 5, 6, 7, 8], [2, 3, 4, 5, 6, 7, 8, 9], [0, 1, 2, 3, 4, 5, 6, 7, 8, 9, 10], [], [0, 1, 2, 3, 4, 5, 6, 7, 8, 9, 10, 11, 12]])] }
theorem facts11 : factsOf Tryd.prog A11 Tryd.f11 = some (c11, 92, [(6, some (true, 8)), (7, none)], false) := by kernel_rfl

/- 12 leasehold/layout.Encode -/
def c12 : SCode := (.seq (.reg [.op (some 4) (.box 25 (.t 1)) none,
    .op (some 5) (.box 32 (.t 2)) none,
    .op (some 6) (.mov (.c (.slice none 0 0))) none,
    .op (some 7) (.mov (.c (.int .i64 0))) none])
  (.seq (.reg [.op (some 12) (.mov (.t 0)) none,
    .op (some 13) (.load true 3 (.t 4)) none,
    .op (some 14) (.call 27 [(.t 12), (.t 13)]) none,
    .op (some 11) (.mov (.t 14)) none,
    .op (some 15) (.extr (.t 11) 0) none,
    .op (some 16) (.extr (.t 11) 1) none,
    .op (some 8) (.mov (.t 15)) none,
    .op (some 9) (.mov (.t 16)) none])
  (.seq (.seq (.reg [.op (some 17) (.mov (.t 9)) none,
    .op (some 18) (.un .not (.t 17)) none])
  (.cond (.t 18)
  (.seq (.reg [.op (some 6) (.mov (.c (.slice none 0 0))) none,
      .op (some 7) (.mov (.c (.int .i64 8))) none])
    .ret)
  .skip))
  (.seq (.reg [.op (some 20) (.mov (.t 8)) none,
    .op (some 21) (.load true 8 (.t 5)) none,
    .op (some 22) (.callV (.mt "leasehold/layout.put" 20) [(.t 21)]) none,
    .op (some 19) (.mov (.t 22)) none,
    .op (some 23) (.extr (.t 19) 0) none,
    .op (some 24) (.extr (.t 19) 1) none,
    .op (some 10) (.mov (.t 23)) none,
    .op (some 9) (.mov (.t 24)) none])
  (.seq (.seq (.reg [.op (some 25) (.mov (.t 9)) none,
    .op (some 26) (.un .not (.t 25)) none])
  (.cond (.t 26)
  (.seq (.reg [.op (some 6) (.mov (.c (.slice none 0 0))) none,
      .op (some 7) (.mov (.c (.int .i64 1))) none])
    .ret)
  .skip))
  (.seq (.reg [.op (some 27) (.mov (.t 10)) none,
    .op (some 6) (.mov (.t 27)) none,
    .op (some 7) (.mov (.c (.int .i64 0))) none])
  .ret))))))
def A12 : Ann := { n := 28, own := [], frz := [], ord := [] }
theorem facts12 : factsOf Tryd.prog A12 Tryd.f12 = some (c12, 28, [(6, none), (7, none)], false) := by kernel_rfl

/- 13 leasehold/layout.Niches -/
def c13 : SCode := (.seq (.reg [.op (some 3) (.box 25 (.t 1)) none,
    .op (some 4) (.mov (.c (.int .i64 0))) none])
  (.seq (.reg [.op (some 5) (.mov (.t 0)) none,
    .op (some 6) (.load true 3 (.t 3)) none,
    .op (some 7) (.mov (.c (.func (.methodOf 70 "leasehold/layout.niches") #[] #[]))) none,
    .op (some 8) (.call 28 [(.t 5), (.t 6), (.t 7)]) none,
    .op (some 4) (.mov (.t 8)) none])
  .ret))
def A13 : Ann := { n := 9, own := [], frz := [], ord := [] }
theorem facts13 : factsOf Tryd.prog A13 Tryd.f13 = some (c13, 9, [(4, none)], false) := by kernel_rfl

/- 14 leasehold/layout.Words -/
def c14 : SCode := (.seq (.reg [.op (some 3) (.box 25 (.t 1)) none,
    .op (some 4) (.mov (.c (.int .i64 0))) none])
  (.seq (.reg [.op (some 5) (.mov (.t 0)) none,
    .op (some 6) (.load true 3 (.t 3)) none,
    .op (some 7) (.mov (.c (.func (.methodOf 70 "leasehold/layout.words") #[] #[]))) none,
    .op (some 8) (.call 28 [(.t 5), (.t 6), (.t 7)]) none,
    .op (some 4) (.mov (.t 8)) none])
  .ret))
def A14 : Ann := { n := 9, own := [], frz := [], ord := [] }
theorem facts14 : factsOf Tryd.prog A14 Tryd.f14 = some (c14, 9, [(4, none)], false) := by kernel_rfl

/- 15 leasehold/layout.Decode -/
def c15 : SCode := (.seq (.reg [.op (some 4) (.box 25 (.t 1)) none,
    .op (some 6) (.alloc 32 [(.int .i64 0), (.int .i64 0), (.int .i64 0), (.int .i64 0), (.slice none 0 0), (.bool false), (.slice none 0 0), (.slice none 0 0)]) none,
    .op (some 7) (.mov (.c (.int .i64 0))) none])
  (.seq (.reg [.op (some 12) (.mov (.t 0)) none,
    .op (some 13) (.load true 3 (.t 4)) none,
    .op (some 14) (.call 27 [(.t 12), (.t 13)]) none,
    .op (some 11) (.mov (.t 14)) none,
    .op (some 15) (.extr (.t 11) 0) none,
    .op (some 16) (.extr (.t 11) 1) none,
    .op (some 8) (.mov (.t 15)) none,
    .op (some 9) (.mov (.t 16)) none])
  (.seq (.seq (.reg [.op (some 17) (.mov (.t 9)) none,
    .op (some 18) (.un .not (.t 17)) none])
  (.cond (.t 18)
  (.seq (.reg [.op (some 19) (.build [(.int .i64 0), (.int .i64 0), (.int .i64 0), (.int .i64 0), (.slice none 0 0), (.bool false), (.slice none 0 0), (.slice none 0 0)] []) none,
      .op none (.store 8 (.t 6) (.t 19)) none,
      .op (some 7) (.mov (.c (.int .i64 8))) none])
    .ret)
  .skip))
  (.seq (.seq (.reg [.op (some 20) (.mov (.t 2)) none,
    .op (some 21) (.len (.t 20)) none,
    .op (some 22) (.mov (.t 8)) none,
    .op (some 23) (.callV (.mt "leasehold/layout.words" 22) []) none,
    .op (some 24) (.bin .neq (.t 21) (.t 23)) none])
  (.cond (.t 24)
  (.seq (.reg [.op (some 25) (.build [(.int .i64 0), (.int .i64 0), (.int .i64 0), (.int .i64 0), (.slice none 0 0), (.bool false), (.slice none 0 0), (.slice none 0 0)] []) none,
      .op none (.store 8 (.t 6) (.t 25)) none,
      .op (some 7) (.mov (.c (.int .i64 16))) none])
    .ret)
  .skip))
  (.seq (.reg [.op (some 27) (.mov (.t 8)) none,
    .op (some 28) (.mov (.t 2)) none,
    .op (some 29) (.callV (.mt "leasehold/layout.get" 27) [(.t 28)]) none,
    .op (some 26) (.mov (.t 29)) none,
    .op (some 30) (.extr (.t 26) 0) none,
    .op (some 31) (.extr (.t 26) 1) none,
    .op (some 10) (.alloc 32 [(.int .i64 0), (.int .i64 0), (.int .i64 0), (.int .i64 0), (.slice none 0 0), (.bool false), (.slice none 0 0), (.slice none 0 0)]) none,
    .op none (.store 8 (.t 10) (.t 30)) none,
    .op (some 9) (.mov (.t 31)) none])
  (.seq (.seq (.reg [.op (some 32) (.mov (.t 9)) none,
    .op (some 33) (.un .not (.t 32)) none])
  (.cond (.t 33)
  (.seq (.reg [.op (some 34) (.build [(.int .i64 0), (.int .i64 0), (.int .i64 0), (.int .i64 0), (.slice none 0 0), (.bool false), (.slice none 0 0), (.slice none 0 0)] []) none,
      .op none (.store 8 (.t 6) (.t 34)) none,
      .op (some 7) (.mov (.c (.int .i64 16))) none])
    .ret)
  .skip))
  (.seq (.reg [.op (some 35) (.load true 8 (.t 10)) none,
    .op none (.store 8 (.t 6) (.t 35)) none,
    .op (some 7) (.mov (.c (.int .i64 0))) none])
  .ret)))))))
def A15 : Ann := { n := 36, own := [], frz := [], ord := [] }
theorem facts15 : factsOf Tryd.prog A15 Tryd.f15 = some (c15, 36, [(6, some (true, 8)), (7, none)], false) := by kernel_rfl

/- 16 leasehold/leaseholdref23.Same -/
def c16 : SCode := (.seq (.reg [.op (some 2) (.box 32 (.t 0)) none,
    .op (some 3) (.box 32 (.t 1)) none,
    .op (some 4) (.mov (.c (.bool false))) none])
  (.seq (.seq (.reg [.op (some 6) (.fieldA 0 (.t 2)) none,
    .op (some 7) (.load false 1 (.t 6)) none,
    .op (some 8) (.fieldA 0 (.t 3)) none,
    .op (some 9) (.load false 1 (.t 8)) none,
    .op (some 10) (.bin .neq (.t 7) (.t 9)) none,
    .op (some 11) (.mov (.t 10)) none,
    .op (some 12) (.fieldA 0 (.t 2)) (some (11, false)),
    .op (some 13) (.load false 1 (.t 12)) (some (11, false)),
    .op (some 14) (.bin .neq (.t 13) (.c (.int .i64 2))) (some (11, false)),
    .op (some 15) (.mov (.t 14)) (some (11, false)),
    .op (some 16) (.fieldA 3 (.t 2)) (some (15, true)),
    .op (some 17) (.load false 1 (.t 16)) (some (15, true)),
    .op (some 18) (.fieldA 3 (.t 3)) (some (15, true)),
    .op (some 19) (.load false 1 (.t 18)) (some (15, true)),
    .op (some 20) (.bin .neq (.t 17) (.t 19)) (some (15, true)),
    .op (some 21) (.pick (.t 15) (.t 20) (.c (.bool false))) (some (11, false)),
    .op (some 22) (.pick (.t 11) (.c (.bool true)) (.t 21)) none,
    .op (some 23) (.mov (.t 22)) none,
    .op (some 24) (.fieldA 0 (.t 2)) (some (23, false)),
    .op (some 25) (.load false 1 (.t 24)) (some (23, false)),
    .op (some 26) (.bin .eql (.t 25) (.c (.int .i64 2))) (some (23, false)),
    .op (some 27) (.mov (.t 26)) (some (23, false)),
    .op (some 28) (.fieldA 1 (.t 2)) (some (27, true)),
    .op (some 29) (.load false 1 (.t 28)) (some (27, true)),
    .op (some 30) (.fieldA 1 (.t 3)) (some (27, true)),
    .op (some 31) (.load false 1 (.t 30)) (some (27, true)),
    .op (some 32) (.bin .neq (.t 29) (.t 31)) (some (27, true)),
    .op (some 33) (.mov (.t 32)) (some (27, true)),
    .op (some 34) (.fieldA 2 (.t 2)) (some (33, false)),
    .op (some 35) (.load false 1 (.t 34)) (some (33, false)),
    .op (some 36) (.fieldA 2 (.t 3)) (some (33, false)),
    .op (some 37) (.load false 1 (.t 36)) (some (33, false)),
    .op (some 38) (.bin .neq (.t 35) (.t 37)) (some (33, false)),
    .op (some 39) (.pick (.t 33) (.c (.bool true)) (.t 38)) (some (27, true)),
    .op (some 40) (.pick (.t 27) (.t 39) (.c (.bool false))) (some (23, false)),
    .op (some 41) (.pick (.t 23) (.c (.bool true)) (.t 40)) none,
    .op (some 42) (.mov (.t 41)) none,
    .op (some 43) (.fieldA 4 (.t 2)) (some (42, false)),
    .op (some 44) (.load false 1 (.t 43)) (some (42, false)),
    .op (some 45) (.len (.t 44)) (some (42, false)),
    .op (some 46) (.fieldA 4 (.t 3)) (some (42, false)),
    .op (some 47) (.load false 1 (.t 46)) (some (42, false)),
    .op (some 48) (.len (.t 47)) (some (42, false)),
    .op (some 49) (.bin .neq (.t 45) (.t 48)) (some (42, false)),
    .op (some 50) (.mov (.t 49)) (some (42, false)),
    .op (some 51) (.fieldA 0 (.t 2)) (some (50, true)),
    .op (some 52) (.load false 1 (.t 51)) (some (50, true)),
    .op (some 53) (.bin .eql (.t 52) (.c (.int .i64 2))) (some (50, true)),
    .op (some 54) (.pick (.t 50) (.t 53) (.c (.bool false))) (some (42, false)),
    .op (some 55) (.pick (.t 42) (.c (.bool true)) (.t 54)) none])
  (.cond (.t 55)
  (.seq (.reg [.op (some 4) (.mov (.c (.bool false))) none])
    .ret)
  .skip))
  (.seq (.seq (.reg [.op (some 5) (.mov (.c (.int .i64 0))) none])
  (.block 0
  (.loop [56, 57, 58, 59, 60, 61, 62, 63, 64, 65, 68, 69, 70, 71, 72, 73, 74, 75, 76, 77, 78, 79, 4, 66, 67, 5]
    (.seq (.seq (.reg [.op (some 56) (.mov (.t 5)) none,
        .op (some 57) (.fieldA 4 (.t 2)) none,
        .op (some 58) (.load false 1 (.t 57)) none,
        .op (some 59) (.len (.t 58)) none,
        .op (some 60) (.bin .lss (.t 56) (.t 59)) none,
        .op (some 61) (.mov (.t 60)) none,
        .op (some 62) (.fieldA 0 (.t 2)) (some (61, true)),
        .op (some 63) (.load false 1 (.t 62)) (some (61, true)),
        .op (some 64) (.bin .eql (.t 63) (.c (.int .i64 2))) (some (61, true)),
        .op (some 65) (.pick (.t 61) (.t 64) (.c (.bool false))) none])
      (.cond (.t 65)
      .skip
      (.exit 0)))
      (.seq (.block 1
      (.seq (.regD [.op (some 68) (.fieldA 4 (.t 2)) none,
          .op (some 69) (.loadD false 1 (.t 68)) none,
          .op (some 70) (.mov (.t 5)) none,
          .op (some 71) (.idxA 8 (.t 69) (.t 70)) none,
          .op (some 72) (.loadD true 8 (.t 71)) none,
          .op (some 73) (.fieldA 4 (.t 3)) none,
          .op (some 74) (.loadD false 1 (.t 73)) none,
          .op (some 75) (.mov (.t 5)) none,
          .op (some 76) (.idxA 8 (.t 74) (.t 75)) none,
          .op (some 77) (.loadD true 8 (.t 76)) none,
          .op (some 78) (.callD 16 [(.t 72), (.t 77)]) none,
          .op (some 79) (.un .not (.t 78)) none])
        (.cond (.t 79)
        (.seq (.reg [.op (some 4) (.mov (.c (.bool false))) none])
          .ret)
        .skip)))
      (.reg [.op (some 66) (.mov (.t 5)) none,
        .op (some 67) (.bin .add (.t 66) (.c (.int .i64 1))) none,
        .op (some 5) (.mov (.t 67)) none]))))))
  (.seq (.reg [.op (some 4) (.mov (.c (.bool true))) none])
  .ret))))
def A16 : Ann := { n := 80, own := [], frz := [], ord := [(6, [0, 1, 2, 3, 4, 5, 6, 7, 8, 9, 10, 11], [[], [0], [], [0, 1, 2], [0, 1, 2, 3], [], [5], [], [5, 6, 7], [5, 6, 7, 8], [0, 1, 2, 3, 4, 5, 6, 7, 8, 9], [0, 1, 2, 3, 4, 5, 6, 7, 8, 9, 10]])] }
theorem facts16 : factsOf Tryd.prog A16 Tryd.f16 = some (c16, 80, [(4, none)], false) := by kernel_rfl

/- 17 leasehold/leaseholdref11.Ints -/
def c17 : SCode := (.seq (.reg [.op (some 4) (.mov (.c (.bool false))) none])
  (.seq (.seq (.reg [.op (some 6) (.mov (.t 0)) none,
    .op (some 7) (.len (.t 6)) none,
    .op (some 8) (.mov (.t 1)) none,
    .op (some 9) (.len (.t 8)) none,
    .op (some 10) (.bin .neq (.t 7) (.t 9)) none])
  (.cond (.t 10)
  (.seq (.reg [.op (some 4) (.mov (.c (.bool false))) none])
    .ret)
  .skip))
  (.seq (.seq (.reg [.op (some 5) (.mov (.c (.int .i64 0))) none])
  (.block 0
  (.loop [11, 12, 13, 14, 17, 18, 19, 20, 21, 22, 23, 24, 25, 4, 15, 16, 5]
    (.seq (.seq (.reg [.op (some 11) (.mov (.t 5)) none,
        .op (some 12) (.mov (.t 0)) none,
        .op (some 13) (.len (.t 12)) none,
        .op (some 14) (.bin .lss (.t 11) (.t 13)) none])
      (.cond (.t 14)
      .skip
      (.exit 0)))
      (.seq (.block 1
      (.seq (.regD [.op (some 17) (.mov (.t 0)) none,
          .op (some 18) (.mov (.t 5)) none,
          .op (some 19) (.idxA 1 (.t 17) (.t 18)) none,
          .op (some 20) (.loadD false 1 (.t 19)) none,
          .op (some 21) (.mov (.t 1)) none,
          .op (some 22) (.mov (.t 5)) none,
          .op (some 23) (.idxA 1 (.t 21) (.t 22)) none,
          .op (some 24) (.loadD false 1 (.t 23)) none,
          .op (some 25) (.bin .neq (.t 20) (.t 24)) none])
        (.cond (.t 25)
        (.seq (.reg [.op (some 4) (.mov (.c (.bool false))) none])
          .ret)
        .skip)))
      (.reg [.op (some 15) (.mov (.t 5)) none,
        .op (some 16) (.bin .add (.t 15) (.c (.int .i64 1))) none,
        .op (some 5) (.mov (.t 16)) none]))))))
  (.seq (.reg [.op (some 4) (.mov (.c (.bool true))) none])
  .ret))))
def A17 : Ann := { n := 26, own := [], frz := [], ord := [(6, [0, 1, 2, 3, 4, 5, 6, 7, 8], [[], [], [0, 1], [0, 1, 2], [], [], [4, 5], [4, 5, 6], [0, 1, 2, 3, 4, 5, 6, 7]])] }
theorem facts17 : factsOf Tryd.prog A17 Tryd.f17 = some (c17, 26, [(4, none)], false) := by kernel_rfl

/- 18 leasehold/leaseholdref05.Of -/
def c18 : SCode := (.seq (.reg [.op (some 3) (.box 25 (.t 1)) none,
    .op (some 4) (.alloc 25 [(.int .i64 0), (.int .i64 0), (.slice none 0 0)]) none])
  (.seq (.reg [.op (some 5) (.mov (.t 0)) none,
    .op (some 6) (.load true 3 (.t 3)) none,
    .op (some 7) (.mkF 25 1 3 [(.t 6)]) none,
    .op (some 8) (.build [(.int .i64 0), (.int .i64 0), (.slice none 0 0)] [(0, 1, (.t 5)), (2, 1, (.t 7))]) none,
    .op none (.store 3 (.t 4) (.t 8)) none])
  .ret))
def A18 : Ann := { n := 9, own := [], frz := [], ord := [] }
theorem facts18 : factsOf Tryd.prog A18 Tryd.f18 = some (c18, 9, [(4, some (true, 3))], false) := by kernel_rfl

/- 19 leasehold/leaseholdlaw23.data -/
def c19 : SCode := (.seq (.reg [.op (some 4) (.alloc 25 [(.int .i64 0), (.int .i64 0), (.slice none 0 0)]) none])
  (.seq (.reg [.op (some 5) (.mov (.t 0)) none,
    .op (some 6) (.mov (.t 1)) none,
    .op (some 7) (.build [(.int .i64 0), (.int .i64 0), (.slice none 0 0)] [(0, 1, (.c (.int .i64 2))), (1, 1, (.t 5)), (2, 1, (.t 6))]) none,
    .op none (.store 3 (.t 4) (.t 7)) none])
  .ret))
def A19 : Ann := { n := 8, own := [], frz := [], ord := [] }
theorem facts19 : factsOf Tryd.prog A19 Tryd.f19 = some (c19, 8, [(4, some (true, 3))], false) := by kernel_rfl

/- 20 leasehold/leaseholdlaw23.Example -/
def c20 : SCode := (.seq (.reg [.op (some 0) (.mov (.c (.slice none 0 0))) none])
  (.seq (.reg [.op (some 4) (.build [(.int .i64 0), (.int .i64 0), (.slice none 0 0)] [(0, 1, (.c (.int .i64 5)))]) none,
    .op (some 1) (.alloc 25 [(.int .i64 0), (.int .i64 0), (.slice none 0 0)]) none,
    .op none (.store 3 (.t 1) (.t 4)) none])
  (.seq (.reg [.op (some 5) (.build [(.int .i64 0), (.int .i64 0), (.slice none 0 0)] [(0, 1, (.c (.int .i64 5))), (1, 1, (.c (.int .i64 1)))]) none,
    .op (some 2) (.alloc 25 [(.int .i64 0), (.int .i64 0), (.slice none 0 0)]) none,
    .op none (.store 3 (.t 2) (.t 5)) none])
  (.seq (.reg [.op (some 6) (.load true 3 (.t 1)) none,
    .op (some 7) (.mkF 25 1 3 [(.t 6)]) none,
    .op (some 8) (.build [(.int .i64 0), (.int .i64 0), (.slice none 0 0)] [(0, 1, (.c (.int .i64 2))), (1, 1, (.c (.int .i64 2))), (2, 1, (.t 7))]) none,
    .op (some 9) (.call 18 [(.c (.int .i64 3)), (.t 8)]) none,
    .op (some 3) (.alloc 25 [(.int .i64 0), (.int .i64 0), (.slice none 0 0)]) none,
    .op none (.store 3 (.t 3) (.t 9)) none])
  (.seq (.reg [.op (some 10) (.build [(.string ⟨#[]⟩), (.slice none 0 0)] []) none,
    .op (some 11) (.load true 3 (.t 1)) none,
    .op (some 12) (.mkF 25 1 3 [(.t 11)]) none,
    .op (some 13) (.build [(.string ⟨#[]⟩), (.slice none 0 0)] [(1, 1, (.t 12))]) none,
    .op (some 14) (.mkF 50 2 2 [(.t 10), (.t 13)]) none,
    .op (some 15) (.build [(.string ⟨#[]⟩), (.int .i64 0), (.int .i64 0), (.slice none 0 0), (.int .i64 0)] [(2, 1, (.c (.int .i64 1))), (3, 1, (.t 14))]) none,
    .op (some 16) (.load true 3 (.t 1)) none,
    .op (some 17) (.load true 3 (.t 2)) none,
    .op (some 18) (.mkF 25 2 3 [(.t 16), (.t 17)]) none,
    .op (some 19) (.build [(.string ⟨#[]⟩), (.slice none 0 0)] [(1, 1, (.t 18))]) none,
    .op (some 20) (.mkF 50 1 2 [(.t 19)]) none,
    .op (some 21) (.build [(.string ⟨#[]⟩), (.int .i64 0), (.int .i64 0), (.slice none 0 0), (.int .i64 0)] [(2, 1, (.c (.int .i64 2))), (3, 1, (.t 20))]) none,
    .op (some 22) (.build [(.string ⟨#[]⟩), (.slice none 0 0)] []) none,
    .op (some 23) (.load true 3 (.t 1)) none,
    .op (some 24) (.load true 3 (.t 3)) none,
    .op (some 25) (.mkF 25 2 3 [(.t 23), (.t 24)]) none,
    .op (some 26) (.build [(.string ⟨#[]⟩), (.slice none 0 0)] [(1, 1, (.t 25))]) none,
    .op (some 27) (.mkF 50 2 2 [(.t 22), (.t 26)]) none,
    .op (some 28) (.build [(.string ⟨#[]⟩), (.int .i64 0), (.int .i64 0), (.slice none 0 0), (.int .i64 0)] [(2, 1, (.c (.int .i64 1))), (3, 1, (.t 27))]) none,
    .op (some 29) (.mkF 48 3 5 [(.t 15), (.t 21), (.t 28)]) none,
    .op (some 0) (.mov (.t 29)) none])
  .ret)))))
def A20 : Ann := { n := 30, own := [], frz := [], ord := [] }
theorem facts20 : factsOf Tryd.prog A20 Tryd.f20 = some (c20, 30, [(0, none)], false) := by kernel_rfl

/- 21 leasehold/leaseholdref05.Int -/
def c21 : SCode := (.seq (.reg [.op (some 0) (.alloc 25 [(.int .i64 0), (.int .i64 0), (.slice none 0 0)]) none])
  (.seq (.reg [.op (some 1) (.build [(.int .i64 0), (.int .i64 0), (.slice none 0 0)] [(0, 1, (.c (.int .i64 1)))]) none,
    .op none (.store 3 (.t 0) (.t 1)) none])
  .ret))
def A21 : Ann := { n := 2, own := [], frz := [], ord := [] }
theorem facts21 : factsOf Tryd.prog A21 Tryd.f21 = some (c21, 2, [(0, some (true, 3))], false) := by kernel_rfl

/- 22 leasehold/unify.Valid -/
def c22 : SCode := (.seq (.reg [.op (some 3) (.box 63 (.t 0)) none,
    .op (some 4) (.box 3 (.t 1)) none,
    .op (some 5) (.box 25 (.t 2)) none,
    .op (some 6) (.mov (.c (.bool false))) none])
  (.seq (.seq (.reg [.op (some 8) (.load false 1 (.t 4)) none,
    .op (some 9) (.bin .lss (.t 8) (.c (.int .i64 0))) none,
    .op (some 10) (.mov (.t 9)) none,
    .op (some 11) (.load false 1 (.t 4)) (some (10, false)),
    .op (some 12) (.bin .gtr (.t 11) (.c (.int .i64 4))) (some (10, false)),
    .op (some 13) (.pick (.t 10) (.c (.bool true)) (.t 12)) none,
    .op (some 14) (.mov (.t 13)) none,
    .op (some 15) (.load true 3 (.t 5)) (some (14, false)),
    .op (some 16) (.call 29 [(.t 15)]) (some (14, false)),
    .op (some 17) (.bin .gtr (.t 16) (.c (.int .i64 8))) (some (14, false)),
    .op (some 18) (.pick (.t 14) (.c (.bool true)) (.t 17)) none])
  (.cond (.t 18)
  (.seq (.reg [.op (some 6) (.mov (.c (.bool false))) none])
    .ret)
  .skip))
  (.seq (.reg [.op (some 7) (.alloc 80 [.nilFunc]) none])
  (.seq (.reg [.op (some 19) (.mkfn 30 [] [(.t 4), (.t 3), (.t 7)]) none,
    .op none (.store 1 (.t 7) (.t 19)) none])
  (.seq (.reg [.op (some 20) (.load false 1 (.t 7)) none,
    .op (some 21) (.load true 3 (.t 5)) none,
    .op (some 22) (.callV (.t 20) [(.t 21)]) none,
    .op (some 6) (.mov (.t 22)) none])
  .ret)))))
def A22 : Ann := { n := 23, own := [], frz := [], ord := [] }
theorem facts22 : factsOf Tryd.prog A22 Tryd.f22 = some (c22, 23, [(6, none)], false) := by kernel_rfl

/- 23 leasehold/leaseholdref05.Small -/
def c23 : SCode := (.seq (.reg [.op (some 2) (.mov (.c (.bool false))) none])
  (.seq (.seq (.reg [.op (some 3) (.mov (.c (.int .i64 0))) none])
  (.block 0
  (.loop [4, 5, 6, 7, 10, 11, 12, 13, 14, 15, 2, 8, 9, 3]
    (.seq (.seq (.reg [.op (some 4) (.mov (.t 3)) none,
        .op (some 5) (.mov (.t 0)) none,
        .op (some 6) (.len (.t 5)) none,
        .op (some 7) (.bin .lss (.t 4) (.t 6)) none])
      (.cond (.t 7)
      .skip
      (.exit 0)))
      (.seq (.block 1
      (.seq (.reg [.op (some 10) (.mov (.t 0)) none,
          .op (some 11) (.mov (.t 3)) none,
          .op (some 12) (.idxA 3 (.t 10) (.t 11)) none,
          .op (some 13) (.load true 3 (.t 12)) none,
          .op (some 14) (.call 34 [(.t 13), (.c (.int .i64 30))]) none,
          .op (some 15) (.bin .gtr (.t 14) (.c (.int .i64 30))) none])
        (.cond (.t 15)
        (.seq (.reg [.op (some 2) (.mov (.c (.bool false))) none])
          .ret)
        .skip)))
      (.reg [.op (some 8) (.mov (.t 3)) none,
        .op (some 9) (.bin .add (.t 8) (.c (.int .i64 1))) none,
        .op (some 3) (.mov (.t 9)) none]))))))
  (.seq (.reg [.op (some 16) (.mov (.t 0)) none,
    .op (some 17) (.len (.t 16)) none,
    .op (some 18) (.bin .leq (.t 17) (.c (.int .i64 8))) none,
    .op (some 2) (.mov (.t 18)) none])
  .ret)))
def A23 : Ann := { n := 19, own := [], frz := [], ord := [] }
theorem facts23 : factsOf Tryd.prog A23 Tryd.f23 = some (c23, 19, [(2, none)], false) := by kernel_rfl

/- 24 leasehold/leaseholdref23.left -/
def c24 : SCode := (.seq (.reg [.op (some 4) (.box 25 (.t 1)) none,
    .op (some 6) (.mov (.c (.int .i64 0))) none])
  (.seq (.reg [.op (some 10) (.mov (.t 2)) none,
    .op (some 11) (.bin .sub (.t 10) (.c (.int .i64 1))) none,
    .op (some 2) (.mov (.t 11)) none])
  (.seq (.seq (.reg [.op (some 12) (.mov (.t 2)) none,
    .op (some 13) (.bin .lss (.t 12) (.c (.int .i64 0))) none,
    .op (some 14) (.mov (.t 13)) none,
    .op (some 15) (.load true 3 (.t 4)) (some (14, false)),
    .op (some 16) (.call 35 [(.t 15)]) (some (14, false)),
    .op (some 17) (.pick (.t 14) (.c (.bool true)) (.t 16)) none])
  (.cond (.t 17)
  (.seq (.reg [.op (some 18) (.mov (.t 2)) none,
      .op (some 6) (.mov (.t 18)) none])
    .ret)
  .skip))
  (.seq (.seq (.regD [.op (some 19) (.fieldA 0 (.t 4)) none,
    .op (some 20) (.loadD false 1 (.t 19)) none,
    .op (some 21) (.bin .neq (.t 20) (.c (.int .i64 2))) none,
    .op (some 22) (.mov (.t 21)) none,
    .op (some 23) (.fieldA 1 (.t 4)) (some (22, false)),
    .op (some 24) (.loadD false 1 (.t 23)) (some (22, false)),
    .op (some 25) (.bin .lss (.t 24) (.c (.int .i64 0))) (some (22, false)),
    .op (some 26) (.pick (.t 22) (.c (.bool true)) (.t 25)) none,
    .op (some 27) (.mov (.t 26)) none,
    .op (some 28) (.fieldA 1 (.t 4)) (some (27, false)),
    .op (some 29) (.loadD false 1 (.t 28)) (some (27, false)),
    .op (some 30) (.mov (.t 0)) (some (27, false)),
    .op (some 31) (.len (.t 30)) (some (27, false)),
    .op (some 32) (.bin .geq (.t 29) (.t 31)) (some (27, false)),
    .op (some 33) (.pick (.t 27) (.c (.bool true)) (.t 32)) none,
    .op (some 34) (.mov (.t 33)) none,
    .op (some 35) (.fieldA 2 (.t 4)) (some (34, false)),
    .op (some 36) (.loadD false 1 (.t 35)) (some (34, false)),
    .op (some 37) (.len (.t 36)) (some (34, false)),
    .op (some 38) (.mov (.t 0)) (some (34, false)),
    .op (some 39) (.fieldA 1 (.t 4)) (some (34, false)),
    .op (some 40) (.loadD false 1 (.t 39)) (some (34, false)),
    .op (some 41) (.idxA 5 (.t 38) (.t 40)) (some (34, false)),
    .op (some 42) (.fieldA 2 (.t 41)) (some (34, false)),
    .op (some 43) (.loadD false 1 (.t 42)) (some (34, false)),
    .op (some 44) (.bin .neq (.t 37) (.t 43)) (some (34, false)),
    .op (some 45) (.pick (.t 34) (.c (.bool true)) (.t 44)) none,
    .op (some 46) (.mov (.t 45)) none,
    .op (some 47) (.mov (.t 0)) (some (46, false)),
    .op (some 48) (.fieldA 1 (.t 4)) (some (46, false)),
    .op (some 49) (.loadD false 1 (.t 48)) (some (46, false)),
    .op (some 50) (.idxA 5 (.t 47) (.t 49)) (some (46, false)),
    .op (some 51) (.fieldA 3 (.t 50)) (some (46, false)),
    .op (some 52) (.loadD false 1 (.t 51)) (some (46, false)),
    .op (some 53) (.len (.t 52)) (some (46, false)),
    .op (some 54) (.bin .lss (.t 53) (.c (.int .i64 1))) (some (46, false)),
    .op (some 55) (.pick (.t 46) (.c (.bool true)) (.t 54)) none,
    .op (some 56) (.mov (.t 55)) none,
    .op (some 57) (.mov (.t 0)) (some (56, false)),
    .op (some 58) (.fieldA 1 (.t 4)) (some (56, false)),
    .op (some 59) (.loadD false 1 (.t 58)) (some (56, false)),
    .op (some 60) (.idxA 5 (.t 57) (.t 59)) (some (56, false)),
    .op (some 61) (.fieldA 3 (.t 60)) (some (56, false)),
    .op (some 62) (.loadD false 1 (.t 61)) (some (56, false)),
    .op (some 63) (.len (.t 62)) (some (56, false)),
    .op (some 64) (.bin .gtr (.t 63) (.c (.int .i64 16))) (some (56, false)),
    .op (some 65) (.pick (.t 56) (.c (.bool true)) (.t 64)) none])
  (.cond (.t 65)
  (.seq (.reg [.op (some 6) (.mov (.c (.int .i64 (-1)))) none])
    .ret)
  .skip))
  (.seq (.seq (.reg [.op (some 7) (.mov (.c (.int .i64 0))) none])
  (.block 0
  (.loop [66, 67, 68, 69, 70, 71, 72, 73, 74, 77, 78, 79, 80, 8, 9, 81, 82, 83, 84, 85, 86, 87, 88, 91, 92, 93, 94, 95, 96, 97, 2, 89, 90, 9, 75, 76, 7]
    (.seq (.seq (.reg [.op (some 66) (.mov (.t 7)) none,
        .op (some 67) (.mov (.t 0)) none,
        .op (some 68) (.fieldA 1 (.t 4)) none,
        .op (some 69) (.load false 1 (.t 68)) none,
        .op (some 70) (.idxA 5 (.t 67) (.t 69)) none,
        .op (some 71) (.fieldA 3 (.t 70)) none,
        .op (some 72) (.load false 1 (.t 71)) none,
        .op (some 73) (.len (.t 72)) none,
        .op (some 74) (.bin .lss (.t 66) (.t 73)) none])
      (.cond (.t 74)
      .skip
      (.exit 0)))
      (.seq (.block 1
      (.seq (.reg [.op (some 77) (.mov (.t 0)) none,
          .op (some 78) (.load true 3 (.t 4)) none,
          .op (some 79) (.mov (.t 7)) none,
          .op (some 80) (.call 26 [(.t 77), (.t 78), (.t 79)]) none,
          .op (some 8) (.mov (.t 80)) none])
        (.seq (.reg [.op (some 9) (.mov (.c (.int .i64 0))) none])
        (.block 2
        (.loop [81, 82, 83, 84, 85, 86, 87, 88, 91, 92, 93, 94, 95, 96, 97, 2, 89, 90, 9]
          (.seq (.seq (.reg [.op (some 81) (.mov (.t 9)) none,
              .op (some 82) (.mov (.t 8)) none,
              .op (some 83) (.len (.t 82)) none,
              .op (some 84) (.bin .lss (.t 81) (.t 83)) none,
              .op (some 85) (.mov (.t 84)) none,
              .op (some 86) (.mov (.t 2)) (some (85, true)),
              .op (some 87) (.bin .geq (.t 86) (.c (.int .i64 0))) (some (85, true)),
              .op (some 88) (.pick (.t 85) (.t 87) (.c (.bool false))) none])
            (.cond (.t 88)
            .skip
            (.exit 2)))
            (.seq (.block 3
            (.reg [.op (some 91) (.mov (.t 0)) none,
                .op (some 92) (.mov (.t 8)) none,
                .op (some 93) (.mov (.t 9)) none,
                .op (some 94) (.idxA 3 (.t 92) (.t 93)) none,
                .op (some 95) (.load true 3 (.t 94)) none,
                .op (some 96) (.mov (.t 2)) none,
                .op (some 97) (.call 24 [(.t 91), (.t 95), (.t 96)]) none,
                .op (some 2) (.mov (.t 97)) none]))
            (.reg [.op (some 89) (.mov (.t 9)) none,
              .op (some 90) (.bin .add (.t 89) (.c (.int .i64 1))) none,
              .op (some 9) (.mov (.t 90)) none]))))))))
      (.reg [.op (some 75) (.mov (.t 7)) none,
        .op (some 76) (.bin .add (.t 75) (.c (.int .i64 1))) none,
        .op (some 7) (.mov (.t 76)) none]))))))
  (.seq (.reg [.op (some 98) (.mov (.t 2)) none,
    .op (some 6) (.mov (.t 98)) none])
  .ret))))))
def A24 : Ann := { n := 99, own := [], frz := [], ord := [(4, [0, 1, 2, 3, 4, 5, 6, 7, 8, 9, 10, 11, 12, 13, 14, 15, 16, 17, 18, 19, 20, 21, 22, 23, 24, 25, 26, 27, 28, 29, 30, 31, 32, 33, 34, 35, 36, 37, 38, 39, 40, 41, 42, 43, 44, 45, 46], [[], [0], [0, 1], [0, 1, 2], [0, 1, 2, 3], [0, 1, 2, 3, 4], [0, 1, 2, 3, 4, 5], [0, 1, 2, 3, 4, 5, 6], [0, 1, 2, 3, 4, 5, 6, 7], [0, 1, 2, 3, 4, 5, 6, 7, 8], [0, 1, 2, 3, 4, 5, 6, 7, 8, 9], [0, 1, 2, 3, 4, 5, 6, 7, 8], [0, 1, 2, 3, 4, 5, 6, 7, 8, 11], [0, 1, 2, 3, 4, 5, 6, 7, 8, 9, 10, 11, 12], [0, 1, 2, 3, 4, 5, 6, 7, 8, 9, 10, 11, 12, 13], [0, 1, 2, 3, 4, 5, 6, 7, 8, 9, 10, 11, 12, 13, 14], [0, 1, 2, 3, 4, 5, 6, 7, 8, 9, 10, 11, 12, 13, 14, 15], [0, 1, 2, 3, 4, 5, 6, 7, 8, 9, 10, 11, 12, 13, 14, 15, 16], [0, 1, 2, 3, 4, 5, 6, 7, 8, 9, 10, 11, 12, 13, 14, 15, 16, 17], [0, 1, 2, 3, 4, 5, 6, 7, 8, 9, 10, 11, 12, 13, 14, 15], [0, 1, 2, 3, 4, 5, 6, 7, 8, 9, 10, 11, 12, 13, 14, 15], [0, 1, 2, 3, 4, 5, 6, 7, 8, 9, 10, 11, 12, 13, 14, 15, 20], [0, 1, 2, 3, 4, 5, 6, 7, 8, 9, 10, 11, 12, 13, 14, 15, 19, 20, 21], [0, 1, 2, 3, 4, 5, 6, 7, 8, 9, 10, 11, 12, 13, 14, 15, 19, 20, 21, 22], [0, 1, 2, 3, 4, 5, 6, 7, 8, 9, 10, 11, 12, 13, 14, 15, 19, 20, 21, 22, 23], [0, 1, 2, 3, 4, 5, 6, 7, 8, 9, 10, 11, 12, 13, 14, 15, 16, 17, 18, 19, 20, 21, 22, 23, 24], [0, 1, 2, 3, 4, 5, 6, 7, 8, 9, 10, 11, 12, 13, 14, 15, 16, 17, 18, 19, 20, 21, 22, 23, 24, 25], [0, 1, 2, 3, 4, 5, 6, 7, 8, 9, 10, 11, 12, 13, 14, 15, 16, 17, 18, 19, 20, 21, 22, 23, 24, 25, 26], [0, 1, 2, 3, 4, 5, 6, 7, 8, 9, 10, 11, 12, 13, 14, 15, 16, 17, 18, 19, 20, 21, 22, 23, 24, 25, 26, 27], [0, 1, 2, 3, 4, 5, 6, 7, 8, 9, 10, 11, 12, 13, 14, 15, 16, 17, 18, 19, 20, 21, 22, 23, 24, 25, 26, 27], [0, 1, 2, 3, 4, 5, 6, 7, 8, 9, 10, 11, 12, 13, 14, 15, 16, 17, 18, 19, 20, 21, 22, 23, 24, 25, 26, 27, 29], [0, 1, 2, 3, 4, 5, 6, 7, 8, 9, 10, 11, 12, 13, 14, 15, 16, 17, 18, 19, 20, 21, 22, 23, 24, 25, 26, 27, 28, 29, 30], [0, 1, 2, 3, 4, 5, 6, 7, 8, 9, 10, 11, 12, 13, 14, 15, 16, 17, 18, 19, 20, 21, 22, 23, 24, 25, 26, 27, 28, 29, 30, 31], [0, 1, 2, 3, 4, 5, 6, 7, 8, 9, 10, 11, 12, 13, 14, 15, 16, 17, 18, 19, 20, 21, 22, 23, 24, 25, 26, 27, 28, 29, 30, 31, 32], [0, 1, 2, 3, 4, 5, 6, 7, 8, 9, 10, 11, 12, 13, 14, 15, 16, 17, 18, 19, 20, 21, 22, 23, 24, 25, 26, 27, 28, 29, 30, 31, 32, 33], [0, 1, 2, 3, 4, 5, 6, 7, 8, 9, 10, 11, 12, 13, 14, 15, 16, 17, 18, 19, 20, 21, 22, 23, 24, 25, 26, 27, 28, 29, 30, 31, 32, 33, 34], [0, 1, 2, 3, 4, 5, 6, 7, 8, 9, 10, 11, 12, 13, 14, 15, 16, 17, 18, 19, 20, 21, 22, 23, 24, 25, 26, 27, 28, 29, 30, 31, 32, 33, 34, 35], [0, 1, 2, 3, 4, 5, 6, 7, 8, 9, 10, 11, 12, 13, 14, 15, 16, 17, 18, 19, 20, 21, 22, 23, 24, 25, 26, 27, 28, 29, 30, 31, 32, 33, 34, 35, 36], [0, 1, 2, 3, 4, 5, 6, 7, 8, 9, 10, 11, 12, 13, 14, 15, 16, 17, 18, 19, 20, 21, 22, 23, 24, 25, 26, 27, 28, 29, 30, 31, 32, 33, 34, 35, 36, 37], [0, 1, 2, 3, 4, 5, 6, 7, 8, 9, 10, 11, 12, 13, 14, 15, 16, 17, 18, 19, 20, 21, 22, 23, 24, 25, 26, 27, 28, 29, 30, 31, 32, 33, 34, 35, 36, 37], [0, 1, 2, 3, 4, 5, 6, 7, 8, 9, 10, 11, 12, 13, 14, 15, 16, 17, 18, 19, 20, 21, 22, 23, 24, 25, 26, 27, 28, 29, 30, 31, 32, 33, 34, 35, 36, 37, 39], [0, 1, 2, 3, 4, 5, 6, 7, 8, 9, 10, 11, 12, 13, 14, 15, 16, 17, 18, 19, 20, 21, 22, 23, 24, 25, 26, 27, 28, 29, 30, 31, 32, 33, 34, 35, 36, 37, 38, 39, 40], [0, 1, 2, 3, 4, 5, 6, 7, 8, 9, 10, 11, 12, 13, 14, 15, 16, 17, 18, 19, 20, 21, 22, 23, 24, 25, 26, 27, 28, 29, 30, 31, 32, 33, 34, 35, 36, 37, 38, 39, 40, 41], [0, 1, 2, 3, 4, 5, 6, 7, 8, 9, 10, 11, 12, 13, 14, 15, 16, 17, 18, 19, 20, 21, 22, 23, 24, 25, 26, 27, 28, 29, 30, 31, 32, 33, 34, 35, 36, 37, 38, 39, 40, 41, 42], [0, 1, 2, 3, 4, 5, 6, 7, 8, 9, 10, 11, 12, 13, 14, 15, 16, 17, 18, 19, 20, 21, 22, 23, 24, 25, 26, 27, 28, 29, 30, 31, 32, 33, 34, 35, 36, 37, 38, 39, 40, 41, 42, 43], [0, 1, 2, 3, 4, 5, 6, 7, 8, 9, 10, 11, 12, 13, 14, 15, 16, 17, 18, 19, 20, 21, 22, 23, 24, 25, 26, 27, 28, 29, 30, 31, 32, 33, 34, 35, 36, 37, 38, 39, 40, 41, 42, 43, 44], [0, 1, 2, 3, 4, 5, 6, 7, 8, 9, 10, 11, 12, 13, 14, 15, 16, 17, 18, 19, 20, 21, 22, 23, 24, 25, 26, 27, 28, 29, 30, 31, 32, 33, 34, 35, 36, 37, 38, 39, 40, 41, 42, 43, 44, 45]])] }
theorem facts24 : factsOf Tryd.prog A24 Tryd.f24 = some (c24, 99, [(6, none)], false) := by kernel_rfl

/- 25 leasehold/leaseholdref23.most -/
def c25 : SCode := (.seq (.reg [.op (some 0) (.mov (.c (.int .i64 0))) none])
  (.seq (.reg [.op (some 0) (.mov (.c (.int .i64 200))) none])
  .ret))
def A25 : Ann := { n := 1, own := [], frz := [], ord := [] }
theorem facts25 : factsOf Tryd.prog A25 Tryd.f25 = some (c25, 1, [(0, none)], false) := by kernel_rfl

/- 26 leasehold/leaseholdref23.fields -/
def c26 : SCode := (.seq (.reg [.op (some 4) (.box 25 (.t 1)) none,
    .op (some 6) (.mov (.c (.slice none 0 0))) none])
  (.seq (.reg [.op (some 7) (.mov (.c (.slice none 0 0))) none])
  (.seq (.reg [.op (some 10) (.mov (.t 0)) none,
    .op (some 11) (.fieldA 1 (.t 4)) none,
    .op (some 12) (.load false 1 (.t 11)) none,
    .op (some 13) (.idxA 5 (.t 10) (.t 12)) none,
    .op (some 14) (.fieldA 3 (.t 13)) none,
    .op (some 15) (.load false 1 (.t 14)) none,
    .op (some 16) (.mov (.t 2)) none,
    .op (some 17) (.idxA 2 (.t 15) (.t 16)) none,
    .op (some 18) (.fieldA 1 (.t 17)) none,
    .op (some 19) (.load false 1 (.t 18)) none,
    .op (some 8) (.mov (.t 19)) none])
  (.seq (.seq (.reg [.op (some 9) (.mov (.c (.int .i64 0))) none])
  (.block 0
  (.loop [20, 21, 22, 23, 26, 27, 28, 29, 30, 31, 32, 33, 34, 35, 7, 24, 25, 9]
    (.seq (.seq (.reg [.op (some 20) (.mov (.t 9)) none,
        .op (some 21) (.mov (.t 8)) none,
        .op (some 22) (.len (.t 21)) none,
        .op (some 23) (.bin .lss (.t 20) (.t 22)) none])
      (.cond (.t 23)
      .skip
      (.exit 0)))
      (.seq (.block 1
      (.regD [.op (some 26) (.mov (.t 7)) none,
          .op (some 27) (.fieldA 2 (.t 4)) none,
          .op (some 28) (.loadD false 1 (.t 27)) none,
          .op (some 29) (.mov (.t 8)) none,
          .op (some 30) (.mov (.t 9)) none,
          .op (some 31) (.idxA 3 (.t 29) (.t 30)) none,
          .op (some 32) (.loadD true 3 (.t 31)) none,
          .op (some 33) (.callD 36 [(.t 28), (.t 32)]) none,
          .op (some 34) (.mkFD 25 1 3 [(.t 33)]) none,
          .op (some 35) (.appD 25 3 40 [(.int .i64 0), (.int .i64 0), (.slice none 0 0)] (.t 26) (.t 34)) none,
          .op (some 7) (.mov (.t 35)) none]))
      (.reg [.op (some 24) (.mov (.t 9)) none,
        .op (some 25) (.bin .add (.t 24) (.c (.int .i64 1))) none,
        .op (some 9) (.mov (.t 25)) none]))))))
  (.seq (.reg [.op (some 36) (.mov (.t 7)) none,
    .op (some 6) (.mov (.t 36)) none])
  .ret)))))
def A26 : Ann := { n := 37, own := [], frz := [], ord := [(6, [0, 1, 2, 3, 4, 5, 6, 7, 8, 9, 10], [[], [], [1], [], [], [3, 4], [3, 4, 5], [1, 2, 3, 4, 5, 6], [1, 2, 3, 4, 5, 6, 7], [0, 1, 2, 3, 4, 5, 6, 7, 8], [0, 1, 2, 3, 4, 5, 6, 7, 8, 9]])] }
theorem facts26 : factsOf Tryd.prog A26 Tryd.f26 = some (c26, 37, [(6, none)], false) := by kernel_rfl

/- 27 leasehold/layout.of -/
def c27 : SCode := (.seq (.reg [.op (some 3) (.box 25 (.t 1)) none,
    .op (some 4) (.mov (.c .nilIface)) none,
    .op (some 5) (.mov (.c (.bool false))) none])
  (.seq (.reg [.op (some 7) (.mov (.t 0)) none,
    .op (some 8) (.build [(.slice none 0 0), (.int .i64 0)] [(0, 1, (.t 7)), (1, 1, (.c (.int .i64 200)))]) none,
    .op (some 9) (.box 86 (.t 8)) none,
    .op (some 6) (.mov (.t 9)) none])
  (.seq (.reg [.op (some 10) (.mov (.t 6)) none,
    .op (some 11) (.load true 3 (.t 3)) none,
    .op (some 12) (.call 37 [(.t 10), (.t 11)]) none,
    .op (some 13) (.extr (.t 12) 0) none,
    .op (some 14) (.extr (.t 12) 1) none,
    .op (some 4) (.mov (.t 13)) none,
    .op (some 5) (.mov (.t 14)) none])
  .ret)))
def A27 : Ann := { n := 15, own := [], frz := [], ord := [] }
theorem facts27 : factsOf Tryd.prog A27 Tryd.f27 = some (c27, 15, [(4, none), (5, none)], false) := by kernel_rfl

/- 28 leasehold/layout.measure -/
def c28 : SCode := (.seq (.reg [.op (some 4) (.box 25 (.t 1)) none,
    .op (some 6) (.mov (.c (.int .i64 0))) none])
  (.seq (.reg [.op (some 10) (.mov (.t 0)) none,
    .op (some 11) (.load true 3 (.t 4)) none,
    .op (some 12) (.call 27 [(.t 10), (.t 11)]) none,
    .op (some 9) (.mov (.t 12)) none,
    .op (some 13) (.extr (.t 9) 0) none,
    .op (some 14) (.extr (.t 9) 1) none,
    .op (some 7) (.mov (.t 13)) none,
    .op (some 8) (.mov (.t 14)) none])
  (.seq (.seq (.reg [.op (some 15) (.mov (.t 8)) none,
    .op (some 16) (.un .not (.t 15)) none])
  (.cond (.t 16)
  (.seq (.reg [.op (some 6) (.mov (.c (.int .i64 0))) none])
    .ret)
  .skip))
  (.seq (.reg [.op (some 17) (.mov (.t 2)) none,
    .op (some 18) (.mov (.t 7)) none,
    .op (some 19) (.callV (.t 17) [(.t 18)]) none,
    .op (some 6) (.mov (.t 19)) none])
  .ret))))
def A28 : Ann := { n := 20, own := [], frz := [], ord := [] }
theorem facts28 : factsOf Tryd.prog A28 Tryd.f28 = some (c28, 20, [(6, none)], false) := by kernel_rfl

/- 29 leasehold/unify.depth -/
def c29 : SCode := (.seq (.reg [.op (some 1) (.box 25 (.t 0)) none,
    .op (some 2) (.mov (.c (.int .i64 0))) none])
  (.seq (.reg [.op (some 3) (.mov (.c (.int .i64 0))) none])
  (.seq (.seq (.reg [.op (some 6) (.fieldA 2 (.t 1)) none,
    .op (some 7) (.load false 1 (.t 6)) none,
    .op (some 8) (.len (.t 7)) none,
    .op (some 9) (.mov (.c (.int .i64 0))) none])
  (.block 0
  (.loop [10, 11, 12, 5, 13, 14, 15, 16, 3, 17, 9]
    (.seq (.reg [.op (some 10) (.bin .lss (.t 9) (.t 8)) none])
      (.seq (.cond (.t 10)
      .skip
      (.exit 0))
      (.seq (.block 1
      (.seq (.reg [.op (some 11) (.idxA 3 (.t 7) (.t 9)) none,
          .op (some 12) (.load true 3 (.t 11)) none,
          .op (some 5) (.alloc 25 [(.int .i64 0), (.int .i64 0), (.slice none 0 0)]) none,
          .op none (.store 3 (.t 5) (.t 12)) none])
        (.reg [.op (some 13) (.mov (.t 3)) none,
          .op (some 14) (.load true 3 (.t 5)) none,
          .op (some 15) (.call 29 [(.t 14)]) none,
          .op (some 16) (.mm true [(.t 13), (.t 15)]) none,
          .op (some 3) (.mov (.t 16)) none])))
      (.reg [.op (some 17) (.bin .add (.t 9) (.c (.int .i64 1))) none,
        .op (some 9) (.mov (.t 17)) none])))))))
  (.seq (.reg [.op (some 18) (.mov (.t 3)) none,
    .op (some 19) (.bin .add (.t 18) (.c (.int .i64 1))) none,
    .op (some 2) (.mov (.t 19)) none])
  .ret))))
def A29 : Ann := { n := 20, own := [], frz := [], ord := [] }
theorem facts29 : factsOf Tryd.prog A29 Tryd.f29 = some (c29, 20, [(2, none)], false) := by kernel_rfl

/- 30 leasehold/unify.Valid$1 -/
def c30 : SCode := (.seq (.reg [.op (some 4) (.box 25 (.t 0)) none,
    .op (some 5) (.mov (.c (.bool false))) none])
  (.seq (.reg [.op (some 6) (.mov (.c (.int .i64 0))) none])
  (.seq (.seq (.reg [.op (some 7) (.fieldA 0 (.t 4)) none,
    .op (some 8) (.load false 1 (.t 7)) none])
  (.block 0
  (.seq (.seq (.reg [.op (some 10) (.bin .eql (.t 8) (.c (.int .i64 1))) none,
      .op (some 9) (.mov (.t 10)) none])
    (.cond (.t 9)
    .skip
    (.reg [.op (some 11) (.bin .eql (.t 8) (.c (.int .i64 6))) none,
        .op (some 9) (.mov (.t 11)) none])))
    (.cond (.t 9)
    .skip
    (.seq (.reg [.op (some 13) (.bin .eql (.t 8) (.c (.int .i64 5))) none,
        .op (some 12) (.mov (.t 13)) none])
      (.cond (.t 12)
      (.seq (.reg [.op (some 14) (.fieldA 1 (.t 4)) none,
          .op (some 15) (.load false 1 (.t 14)) none,
          .op (some 16) (.bin .geq (.t 15) (.c (.int .i64 0))) none,
          .op (some 17) (.mov (.t 16)) none,
          .op (some 18) (.fieldA 1 (.t 4)) (some (17, true)),
          .op (some 19) (.load false 1 (.t 18)) (some (17, true)),
          .op (some 20) (.load false 1 (.t 1)) (some (17, true)),
          .op (some 21) (.bin .lss (.t 19) (.t 20)) (some (17, true)),
          .op (some 22) (.pick (.t 17) (.t 21) (.c (.bool false))) none,
          .op (some 23) (.mov (.t 22)) none,
          .op (some 24) (.fieldA 2 (.t 4)) (some (23, true)),
          .op (some 25) (.load false 1 (.t 24)) (some (23, true)),
          .op (some 26) (.len (.t 25)) (some (23, true)),
          .op (some 27) (.bin .eql (.t 26) (.c (.int .i64 0))) (some (23, true)),
          .op (some 28) (.pick (.t 23) (.t 27) (.c (.bool false))) none,
          .op (some 5) (.mov (.t 28)) none])
        .ret)
      (.seq (.reg [.op (some 30) (.bin .eql (.t 8) (.c (.int .i64 2))) none,
          .op (some 29) (.mov (.t 30)) none])
        (.cond (.t 29)
        (.seq (.seq (.reg [.op (some 31) (.fieldA 1 (.t 4)) none,
            .op (some 32) (.load false 1 (.t 31)) none,
            .op (some 33) (.bin .lss (.t 32) (.c (.int .i64 0))) none,
            .op (some 34) (.mov (.t 33)) none,
            .op (some 35) (.fieldA 1 (.t 4)) (some (34, false)),
            .op (some 36) (.load false 1 (.t 35)) (some (34, false)),
            .op (some 37) (.fieldA 2 (.t 2)) (some (34, false)),
            .op (some 38) (.load false 1 (.t 37)) (some (34, false)),
            .op (some 39) (.len (.t 38)) (some (34, false)),
            .op (some 40) (.bin .geq (.t 36) (.t 39)) (some (34, false)),
            .op (some 41) (.pick (.t 34) (.c (.bool true)) (.t 40)) none])
          (.cond (.t 41)
          (.seq (.reg [.op (some 5) (.mov (.c (.bool false))) none])
            .ret)
          .skip))
          (.reg [.op (some 42) (.fieldA 2 (.t 2)) none,
            .op (some 43) (.load false 1 (.t 42)) none,
            .op (some 44) (.fieldA 1 (.t 4)) none,
            .op (some 45) (.load false 1 (.t 44)) none,
            .op (some 46) (.idxA 5 (.t 43) (.t 45)) none,
            .op (some 47) (.fieldA 2 (.t 46)) none,
            .op (some 48) (.load false 1 (.t 47)) none,
            .op (some 6) (.mov (.t 48)) none]))
        (.seq (.seq (.reg [.op (some 50) (.bin .eql (.t 8) (.c (.int .i64 3))) none,
            .op (some 49) (.mov (.t 50)) none])
          (.cond (.t 49)
          .skip
          (.seq (.reg [.op (some 51) (.bin .eql (.t 8) (.c (.int .i64 4))) none,
              .op (some 49) (.mov (.t 51)) none])
            (.cond (.t 49)
            .skip
            (.seq (.reg [.op (some 52) (.bin .eql (.t 8) (.c (.int .i64 8))) none,
                .op (some 49) (.mov (.t 52)) none])
              (.cond (.t 49)
              .skip
              (.reg [.op (some 53) (.bin .eql (.t 8) (.c (.int .i64 7))) none,
                  .op (some 49) (.mov (.t 53)) none])))))))
          (.cond (.t 49)
          (.reg [.op (some 6) (.mov (.c (.int .i64 1))) none])
          (.seq (.reg [.op (some 5) (.mov (.c (.bool false))) none])
            .ret)))))))))))
  (.seq (.seq (.reg [.op (some 54) (.fieldA 0 (.t 4)) none,
    .op (some 55) (.load false 1 (.t 54)) none,
    .op (some 56) (.bin .neq (.t 55) (.c (.int .i64 2))) none,
    .op (some 57) (.mov (.t 56)) none,
    .op (some 58) (.fieldA 1 (.t 4)) (some (57, true)),
    .op (some 59) (.load false 1 (.t 58)) (some (57, true)),
    .op (some 60) (.bin .neq (.t 59) (.c (.int .i64 0))) (some (57, true)),
    .op (some 61) (.pick (.t 57) (.t 60) (.c (.bool false))) none,
    .op (some 62) (.mov (.t 61)) none,
    .op (some 63) (.fieldA 2 (.t 4)) (some (62, false)),
    .op (some 64) (.load false 1 (.t 63)) (some (62, false)),
    .op (some 65) (.len (.t 64)) (some (62, false)),
    .op (some 66) (.mov (.t 6)) (some (62, false)),
    .op (some 67) (.bin .neq (.t 65) (.t 66)) (some (62, false)),
    .op (some 68) (.pick (.t 62) (.c (.bool true)) (.t 67)) none])
  (.cond (.t 68)
  (.seq (.reg [.op (some 5) (.mov (.c (.bool false))) none])
    .ret)
  .skip))
  (.seq (.reg [.op (some 69) (.fieldA 2 (.t 4)) none,
    .op (some 70) (.load false 1 (.t 69)) none,
    .op (some 71) (.mkfn 32 [] [(.t 4), (.t 3)]) none,
    .op (some 72) (.call 31 [(.t 70), (.t 71)]) none,
    .op (some 73) (.un .not (.t 72)) none,
    .op (some 5) (.mov (.t 73)) none])
  .ret)))))
def A30 : Ann := { n := 74, own := [], frz := [], ord := [] }
theorem facts30 : factsOf Tryd.prog A30 Tryd.f30 = some (c30, 74, [(5, none)], false) := by kernel_rfl

/- 31 slices.ContainsFunc[[]leasehold/api.Type,leasehold/api.Type] -/
def c31 : SCode := (.seq (.reg [.op (some 4) (.mov (.c (.bool false))) none])
  (.seq (.reg [.op (some 5) (.mov (.t 0)) none,
    .op (some 6) (.mov (.t 1)) none,
    .op (some 7) (.call 38 [(.t 5), (.t 6)]) none,
    .op (some 8) (.bin .geq (.t 7) (.c (.int .i64 0))) none,
    .op (some 4) (.mov (.t 8)) none])
  .ret))
def A31 : Ann := { n := 9, own := [], frz := [], ord := [] }
theorem facts31 : factsOf Tryd.prog A31 Tryd.f31 = some (c31, 9, [(4, none)], false) := by kernel_rfl

/- 32 leasehold/unify.Valid$1$1 -/
def c32 : SCode := (.seq (.reg [.op (some 3) (.box 25 (.t 0)) none,
    .op (some 4) (.mov (.c (.bool false))) none])
  (.seq (.reg [.op (some 6) (.fieldA 0 (.t 1)) none,
    .op (some 7) (.load false 1 (.t 6)) none,
    .op (some 8) (.bin .eql (.t 7) (.c (.int .i64 7))) none,
    .op (some 9) (.mov (.t 8)) none,
    .op (some 10) (.fieldA 0 (.t 3)) (some (9, true)),
    .op (some 11) (.load false 1 (.t 10)) (some (9, true)),
    .op (some 12) (.bin .eql (.t 11) (.c (.int .i64 6))) (some (9, true)),
    .op (some 13) (.pick (.t 9) (.t 12) (.c (.bool false))) none,
    .op (some 5) (.mov (.t 13)) none])
  (.seq (.reg [.op (some 14) (.load true 3 (.t 3)) none,
    .op (some 15) (.call 33 [(.t 14)]) none,
    .op (some 16) (.un .not (.t 15)) none,
    .op (some 17) (.mov (.t 16)) none,
    .op (some 18) (.mov (.t 5)) (some (17, true)),
    .op (some 19) (.un .not (.t 18)) (some (17, true)),
    .op (some 20) (.pick (.t 17) (.t 19) (.c (.bool false))) none,
    .op (some 21) (.mov (.t 20)) none,
    .op (some 22) (.load false 1 (.t 2)) (some (21, false)),
    .op (some 23) (.load true 3 (.t 3)) (some (21, false)),
    .op (some 24) (.callV (.t 22) [(.t 23)]) (some (21, false)),
    .op (some 25) (.un .not (.t 24)) (some (21, false)),
    .op (some 26) (.pick (.t 21) (.c (.bool true)) (.t 25)) none,
    .op (some 4) (.mov (.t 26)) none])
  .ret)))
def A32 : Ann := { n := 27, own := [], frz := [], ord := [] }
theorem facts32 : factsOf Tryd.prog A32 Tryd.f32 = some (c32, 27, [(4, none)], false) := by kernel_rfl

/- 33 leasehold/unify.stored -/
def c33 : SCode := (.seq (.reg [.op (some 1) (.box 25 (.t 0)) none,
    .op (some 2) (.mov (.c (.bool false))) none])
  (.seq (.reg [.op (some 3) (.fieldA 0 (.t 1)) none,
    .op (some 4) (.load false 1 (.t 3)) none,
    .op (some 5) (.bin .geq (.t 4) (.c (.int .i64 1))) none,
    .op (some 6) (.mov (.t 5)) none,
    .op (some 7) (.fieldA 0 (.t 1)) (some (6, true)),
    .op (some 8) (.load false 1 (.t 7)) (some (6, true)),
    .op (some 9) (.bin .leq (.t 8) (.c (.int .i64 5))) (some (6, true)),
    .op (some 10) (.pick (.t 6) (.t 9) (.c (.bool false))) none,
    .op (some 2) (.mov (.t 10)) none])
  .ret))
def A33 : Ann := { n := 11, own := [], frz := [], ord := [] }
theorem facts33 : factsOf Tryd.prog A33 Tryd.f33 = some (c33, 11, [(2, none)], false) := by kernel_rfl

/- 34 leasehold/leaseholdref05.Few -/
def c34 : SCode := (.seq (.reg [.op (some 2) (.box 25 (.t 0)) none,
    .op (some 4) (.mov (.c (.int .i64 0))) none])
  (.seq (.reg [.op (some 5) (.mov (.c (.int .i64 1))) none])
  (.seq (.seq (.reg [.op (some 6) (.mov (.c (.int .i64 0))) none])
  (.block 0
  (.loop [7, 8, 9, 10, 11, 12, 13, 14, 15, 16, 19, 20, 21, 22, 23, 24, 25, 26, 27, 28, 29, 5, 17, 18, 6]
    (.seq (.seq (.reg [.op (some 7) (.mov (.t 6)) none,
        .op (some 8) (.fieldA 2 (.t 2)) none,
        .op (some 9) (.load false 1 (.t 8)) none,
        .op (some 10) (.len (.t 9)) none,
        .op (some 11) (.bin .lss (.t 7) (.t 10)) none,
        .op (some 12) (.mov (.t 11)) none,
        .op (some 13) (.mov (.t 5)) (some (12, true)),
        .op (some 14) (.mov (.t 1)) (some (12, true)),
        .op (some 15) (.bin .leq (.t 13) (.t 14)) (some (12, true)),
        .op (some 16) (.pick (.t 12) (.t 15) (.c (.bool false))) none])
      (.cond (.t 16)
      .skip
      (.exit 0)))
      (.seq (.block 1
      (.reg [.op (some 19) (.mov (.t 5)) none,
          .op (some 20) (.fieldA 2 (.t 2)) none,
          .op (some 21) (.load false 1 (.t 20)) none,
          .op (some 22) (.mov (.t 6)) none,
          .op (some 23) (.idxA 3 (.t 21) (.t 22)) none,
          .op (some 24) (.load true 3 (.t 23)) none,
          .op (some 25) (.mov (.t 1)) none,
          .op (some 26) (.mov (.t 5)) none,
          .op (some 27) (.bin .sub (.t 25) (.t 26)) none,
          .op (some 28) (.call 34 [(.t 24), (.t 27)]) none,
          .op (some 29) (.bin .add (.t 19) (.t 28)) none,
          .op (some 5) (.mov (.t 29)) none]))
      (.reg [.op (some 17) (.mov (.t 6)) none,
        .op (some 18) (.bin .add (.t 17) (.c (.int .i64 1))) none,
        .op (some 6) (.mov (.t 18)) none]))))))
  (.seq (.reg [.op (some 30) (.mov (.t 5)) none,
    .op (some 4) (.mov (.t 30)) none])
  .ret))))
def A34 : Ann := { n := 31, own := [], frz := [], ord := [] }
theorem facts34 : factsOf Tryd.prog A34 Tryd.f34 = some (c34, 31, [(4, none)], false) := by kernel_rfl

/- 35 leasehold/leaseholdref23.simple -/
def c35 : SCode := (.seq (.reg [.op (some 1) (.box 25 (.t 0)) none,
    .op (some 2) (.mov (.c (.bool false))) none])
  (.seq (.reg [.op (some 3) (.fieldA 0 (.t 1)) none,
    .op (some 4) (.load false 1 (.t 3)) none,
    .op (some 5) (.bin .eql (.t 4) (.c (.int .i64 1))) none,
    .op (some 6) (.mov (.t 5)) none,
    .op (some 7) (.fieldA 0 (.t 1)) (some (6, false)),
    .op (some 8) (.load false 1 (.t 7)) (some (6, false)),
    .op (some 9) (.bin .eql (.t 8) (.c (.int .i64 3))) (some (6, false)),
    .op (some 10) (.pick (.t 6) (.c (.bool true)) (.t 9)) none,
    .op (some 11) (.mov (.t 10)) none,
    .op (some 12) (.fieldA 0 (.t 1)) (some (11, false)),
    .op (some 13) (.load false 1 (.t 12)) (some (11, false)),
    .op (some 14) (.bin .eql (.t 13) (.c (.int .i64 4))) (some (11, false)),
    .op (some 15) (.pick (.t 11) (.c (.bool true)) (.t 14)) none,
    .op (some 16) (.mov (.t 15)) none,
    .op (some 17) (.fieldA 0 (.t 1)) (some (16, false)),
    .op (some 18) (.load false 1 (.t 17)) (some (16, false)),
    .op (some 19) (.bin .eql (.t 18) (.c (.int .i64 6))) (some (16, false)),
    .op (some 20) (.pick (.t 16) (.c (.bool true)) (.t 19)) none,
    .op (some 2) (.mov (.t 20)) none])
  .ret))
def A35 : Ann := { n := 21, own := [], frz := [], ord := [] }
theorem facts35 : factsOf Tryd.prog A35 Tryd.f35 = some (c35, 21, [(2, none)], false) := by kernel_rfl

/- 36 leasehold/leaseholdref05.Subst -/
def c36 : SCode := (.seq (.reg [.op (some 3) (.box 25 (.t 1)) none,
    .op (some 4) (.alloc 25 [(.int .i64 0), (.int .i64 0), (.slice none 0 0)]) none])
  (.seq (.seq (.reg [.op (some 7) (.fieldA 0 (.t 3)) none,
    .op (some 8) (.load false 1 (.t 7)) none,
    .op (some 9) (.bin .eql (.t 8) (.c (.int .i64 5))) none,
    .op (some 10) (.mov (.t 9)) none,
    .op (some 11) (.fieldA 1 (.t 3)) (some (10, true)),
    .op (some 12) (.load false 1 (.t 11)) (some (10, true)),
    .op (some 13) (.bin .geq (.t 12) (.c (.int .i64 0))) (some (10, true)),
    .op (some 14) (.pick (.t 10) (.t 13) (.c (.bool false))) none,
    .op (some 15) (.mov (.t 14)) none,
    .op (some 16) (.fieldA 1 (.t 3)) (some (15, true)),
    .op (some 17) (.load false 1 (.t 16)) (some (15, true)),
    .op (some 18) (.mov (.t 0)) (some (15, true)),
    .op (some 19) (.len (.t 18)) (some (15, true)),
    .op (some 20) (.bin .lss (.t 17) (.t 19)) (some (15, true)),
    .op (some 21) (.pick (.t 15) (.t 20) (.c (.bool false))) none])
  (.cond (.t 21)
  (.seq (.reg [.op (some 22) (.mov (.t 0)) none,
      .op (some 23) (.fieldA 1 (.t 3)) none,
      .op (some 24) (.load false 1 (.t 23)) none,
      .op (some 25) (.idxA 3 (.t 22) (.t 24)) none,
      .op (some 26) (.load true 3 (.t 25)) none,
      .op none (.store 3 (.t 4) (.t 26)) none])
    .ret)
  .skip))
  (.seq (.reg [.op (some 27) (.fieldA 0 (.t 3)) none,
    .op (some 28) (.load false 1 (.t 27)) none,
    .op (some 29) (.fieldA 1 (.t 3)) none,
    .op (some 30) (.load false 1 (.t 29)) none,
    .op (some 31) (.build [(.int .i64 0), (.int .i64 0), (.slice none 0 0)] [(0, 1, (.t 28)), (1, 1, (.t 30))]) none,
    .op (some 5) (.alloc 25 [(.int .i64 0), (.int .i64 0), (.slice none 0 0)]) none,
    .op none (.store 3 (.t 5) (.t 31)) none])
  (.seq (.seq (.reg [.op (some 6) (.mov (.c (.int .i64 0))) none])
  (.block 0
  (.loop [32, 33, 34, 35, 36, 39, 40, 41, 42, 43, 44, 45, 46, 47, 48, 49, 50, 37, 38, 6]
    (.seq (.seq (.reg [.op (some 32) (.mov (.t 6)) none,
        .op (some 33) (.fieldA 2 (.t 3)) none,
        .op (some 34) (.load false 1 (.t 33)) none,
        .op (some 35) (.len (.t 34)) none,
        .op (some 36) (.bin .lss (.t 32) (.t 35)) none])
      (.cond (.t 36)
      .skip
      (.exit 0)))
      (.seq (.block 1
      (.regD [.op (some 39) (.fieldA 2 (.t 5)) none,
          .op (some 40) (.loadD false 1 (.t 39)) none,
          .op (some 41) (.mov (.t 0)) none,
          .op (some 42) (.fieldA 2 (.t 3)) none,
          .op (some 43) (.loadD false 1 (.t 42)) none,
          .op (some 44) (.mov (.t 6)) none,
          .op (some 45) (.idxA 3 (.t 43) (.t 44)) none,
          .op (some 46) (.loadD true 3 (.t 45)) none,
          .op (some 47) (.callD 36 [(.t 41), (.t 46)]) none,
          .op (some 48) (.mkFD 25 1 3 [(.t 47)]) none,
          .op (some 49) (.appD 25 3 40 [(.int .i64 0), (.int .i64 0), (.slice none 0 0)] (.t 40) (.t 48)) none,
          .op (some 50) (.fieldA 2 (.t 5)) none,
          .op none (.storeD 1 (.t 50) (.t 49)) none]))
      (.reg [.op (some 37) (.mov (.t 6)) none,
        .op (some 38) (.bin .add (.t 37) (.c (.int .i64 1))) none,
        .op (some 6) (.mov (.t 38)) none]))))))
  (.seq (.reg [.op (some 51) (.load true 3 (.t 5)) none,
    .op none (.store 3 (.t 4) (.t 51)) none])
  .ret)))))
def A36 : Ann := { n := 52, own := [], frz := [], ord := [(7, [0, 1, 2, 3, 4, 5, 6, 7, 8, 9, 10, 11, 12], [[], [0], [], [], [3], [], [3, 4, 5], [3, 4, 5, 6], [2, 3, 4, 5, 6, 7], [2, 3, 4, 5, 6, 7, 8], [0, 1, 2, 3, 4, 5, 6, 7, 8, 9], [0, 1, 2, 3, 4, 5, 6, 7, 8, 9, 10], [0, 1, 2, 3, 4, 5, 6, 7, 8, 9, 10, 11]])] }
theorem facts36 : factsOf Tryd.prog A36 Tryd.f36 = some (c36, 52, [(4, some (true, 3))], false) := by kernel_rfl

/- 37 (*leasehold/layout.planner).plan -/
def c37 : SCode := (.seq (.reg [.op (some 3) (.box 25 (.t 1)) none,
    .op (some 4) (.mov (.c .nilIface)) none,
    .op (some 5) (.mov (.c (.bool false))) none])
  (.seq (.seq (.reg [.op (some 17) (.mov (.t 0)) none,
    .op (some 18) (.nilck (.t 17)) none,
    .op (some 19) (.fieldA 1 (.t 18)) none,
    .op (some 20) (.load false 1 (.t 19)) none,
    .op (some 21) (.bin .sub (.t 20) (.c (.int .i64 1))) none,
    .op (some 22) (.nilck (.t 17)) none,
    .op (some 23) (.fieldA 1 (.t 22)) none,
    .op none (.store 1 (.t 23) (.t 21)) none])
  (.seq (.reg [.op (some 24) (.mov (.t 0)) none,
    .op (some 25) (.nilck (.t 24)) none,
    .op (some 26) (.fieldA 1 (.t 25)) none,
    .op (some 27) (.load false 1 (.t 26)) none,
    .op (some 28) (.bin .lss (.t 27) (.c (.int .i64 0))) none])
  (.cond (.t 28)
  (.seq (.reg [.op (some 4) (.mov (.c .nilIface)) none,
      .op (some 5) (.mov (.c (.bool false))) none])
    .ret)
  .skip)))
  (.seq (.seq (.reg [.op (some 30) (.gload 1) none,
    .op (some 31) (.fieldA 0 (.t 3)) none,
    .op (some 32) (.load false 1 (.t 31)) none,
    .op (some 33) (.look (.t 30) (.t 32)) none,
    .op (some 29) (.mov (.t 33)) none,
    .op (some 34) (.extr (.t 29) 0) none,
    .op (some 35) (.extr (.t 29) 1) none,
    .op (some 6) (.mov (.t 34)) none,
    .op (some 7) (.mov (.t 35)) none])
  (.seq (.reg [.op (some 36) (.mov (.t 7)) none])
  (.cond (.t 36)
  (.seq (.reg [.op (some 37) (.mov (.t 6)) none,
      .op (some 38) (.mkif 89 (.t 37)) none,
      .op (some 4) (.mov (.t 38)) none,
      .op (some 5) (.mov (.c (.bool true))) none])
    .ret)
  .skip)))
  (.seq (.seq (.reg [.op (some 39) (.fieldA 0 (.t 3)) none,
    .op (some 40) (.load false 1 (.t 39)) none,
    .op (some 41) (.bin .eql (.t 40) (.c (.int .i64 1))) none])
  (.cond (.t 41)
  (.seq (.reg [.op (some 42) (.build [] []) none,
      .op (some 43) (.mkif 93 (.t 42)) none,
      .op (some 4) (.mov (.t 43)) none,
      .op (some 5) (.mov (.c (.bool true))) none])
    .ret)
  .skip))
  (.seq (.seq (.regD [.op (some 44) (.fieldA 0 (.t 3)) none,
    .op (some 45) (.loadD false 1 (.t 44)) none,
    .op (some 46) (.bin .neq (.t 45) (.c (.int .i64 2))) none,
    .op (some 47) (.mov (.t 46)) none,
    .op (some 48) (.fieldA 1 (.t 3)) (some (47, false)),
    .op (some 49) (.loadD false 1 (.t 48)) (some (47, false)),
    .op (some 50) (.bin .lss (.t 49) (.c (.int .i64 0))) (some (47, false)),
    .op (some 51) (.pick (.t 47) (.c (.bool true)) (.t 50)) none,
    .op (some 52) (.mov (.t 51)) none,
    .op (some 53) (.fieldA 1 (.t 3)) (some (52, false)),
    .op (some 54) (.loadD false 1 (.t 53)) (some (52, false)),
    .op (some 55) (.mov (.t 0)) (some (52, false)),
    .op (some 56) (.nilck (.t 55)) (some (52, false)),
    .op (some 57) (.fieldA 0 (.t 56)) (some (52, false)),
    .op (some 58) (.loadD false 1 (.t 57)) (some (52, false)),
    .op (some 59) (.len (.t 58)) (some (52, false)),
    .op (some 60) (.bin .geq (.t 54) (.t 59)) (some (52, false)),
    .op (some 61) (.pick (.t 52) (.c (.bool true)) (.t 60)) none])
  (.cond (.t 61)
  (.seq (.reg [.op (some 4) (.mov (.c .nilIface)) none,
      .op (some 5) (.mov (.c (.bool false))) none])
    .ret)
  .skip))
  (.seq (.regD [.op (some 62) (.mov (.t 0)) none,
    .op (some 63) (.nilck (.t 62)) none,
    .op (some 64) (.fieldA 0 (.t 63)) none,
    .op (some 65) (.loadD false 1 (.t 64)) none,
    .op (some 66) (.fieldA 1 (.t 3)) none,
    .op (some 67) (.loadD false 1 (.t 66)) none,
    .op (some 68) (.idxA 5 (.t 65) (.t 67)) none,
    .op (some 69) (.loadD true 5 (.t 68)) none,
    .op (some 8) (.allocD 48 [(.string ⟨#[]⟩), (.int .i64 0), (.int .i64 0), (.slice none 0 0), (.int .i64 0)]) none,
    .op none (.storeD 5 (.t 8) (.t 69)) none])
  (.seq (.seq (.reg [.op (some 70) (.fieldA 2 (.t 3)) none,
    .op (some 71) (.load false 1 (.t 70)) none,
    .op (some 72) (.len (.t 71)) none,
    .op (some 73) (.fieldA 2 (.t 8)) none,
    .op (some 74) (.load false 1 (.t 73)) none,
    .op (some 75) (.bin .neq (.t 72) (.t 74)) none,
    .op (some 76) (.mov (.t 75)) none,
    .op (some 77) (.fieldA 3 (.t 8)) (some (76, false)),
    .op (some 78) (.load false 1 (.t 77)) (some (76, false)),
    .op (some 79) (.len (.t 78)) (some (76, false)),
    .op (some 80) (.bin .eql (.t 79) (.c (.int .i64 0))) (some (76, false)),
    .op (some 81) (.pick (.t 76) (.c (.bool true)) (.t 80)) none,
    .op (some 82) (.mov (.t 81)) none,
    .op (some 83) (.fieldA 3 (.t 8)) (some (82, false)),
    .op (some 84) (.load false 1 (.t 83)) (some (82, false)),
    .op (some 85) (.len (.t 84)) (some (82, false)),
    .op (some 86) (.bin .gtr (.t 85) (.c (.int .i64 16))) (some (82, false)),
    .op (some 87) (.pick (.t 82) (.c (.bool true)) (.t 86)) none])
  (.cond (.t 87)
  (.seq (.reg [.op (some 4) (.mov (.c .nilIface)) none,
      .op (some 5) (.mov (.c (.bool false))) none])
    .ret)
  .skip))
  (.seq (.reg [.op (some 9) (.mov (.c (.slice none 0 0))) none])
  (.seq (.seq (.reg [.op (some 88) (.fieldA 3 (.t 8)) none,
    .op (some 89) (.load false 1 (.t 88)) none,
    .op (some 90) (.len (.t 89)) none,
    .op (some 91) (.mov (.c (.int .i64 0))) none])
  (.block 0
  (.loop [92, 93, 94, 11, 12, 95, 96, 97, 98, 99, 100, 101, 14, 103, 104, 105, 106, 107, 108, 102, 109, 110, 15, 16, 111, 112, 4, 5, 113, 114, 115, 116, 12, 117, 98, 118, 119, 120, 121, 9, 122, 91]
    (.seq (.reg [.op (some 92) (.bin .lss (.t 91) (.t 90)) none])
      (.seq (.cond (.t 92)
      .skip
      (.exit 0))
      (.seq (.block 1
      (.seq (.reg [.op (some 93) (.idxA 2 (.t 89) (.t 91)) none,
          .op (some 94) (.load true 2 (.t 93)) none,
          .op (some 11) (.alloc 50 [(.string ⟨#[]⟩), (.slice none 0 0)]) none,
          .op none (.store 2 (.t 11) (.t 94)) none])
        (.seq (.reg [.op (some 12) (.mov (.c (.slice none 0 0))) none])
        (.seq (.seq (.reg [.op (some 95) (.fieldA 1 (.t 11)) none,
          .op (some 96) (.load false 1 (.t 95)) none,
          .op (some 97) (.len (.t 96)) none,
          .op (some 98) (.mov (.c (.int .i64 0))) none])
        (.block 2
        (.loop [99, 100, 101, 14, 103, 104, 105, 106, 107, 108, 102, 109, 110, 15, 16, 111, 112, 4, 5, 113, 114, 115, 116, 12, 117, 98]
          (.seq (.reg [.op (some 99) (.bin .lss (.t 98) (.t 97)) none])
            (.seq (.cond (.t 99)
            .skip
            (.exit 2))
            (.seq (.block 3
            (.seq (.reg [.op (some 100) (.idxA 3 (.t 96) (.t 98)) none,
                .op (some 101) (.load true 3 (.t 100)) none,
                .op (some 14) (.alloc 25 [(.int .i64 0), (.int .i64 0), (.slice none 0 0)]) none,
                .op none (.store 3 (.t 14) (.t 101)) none])
              (.seq (.reg [.op (some 103) (.mov (.t 0)) none,
                .op (some 104) (.fieldA 2 (.t 3)) none,
                .op (some 105) (.load false 1 (.t 104)) none,
                .op (some 106) (.load true 3 (.t 14)) none,
                .op (some 107) (.call 39 [(.t 105), (.t 106)]) none,
                .op (some 108) (.call 37 [(.t 103), (.t 107)]) none,
                .op (some 102) (.mov (.t 108)) none,
                .op (some 109) (.extr (.t 102) 0) none,
                .op (some 110) (.extr (.t 102) 1) none,
                .op (some 15) (.mov (.t 109)) none,
                .op (some 16) (.mov (.t 110)) none])
              (.seq (.seq (.reg [.op (some 111) (.mov (.t 16)) none,
                .op (some 112) (.un .not (.t 111)) none])
              (.cond (.t 112)
              (.seq (.reg [.op (some 4) (.mov (.c .nilIface)) none,
                  .op (some 5) (.mov (.c (.bool false))) none])
                .ret)
              .skip))
              (.reg [.op (some 113) (.mov (.t 12)) none,
                .op (some 114) (.mov (.t 15)) none,
                .op (some 115) (.mkF 70 1 1 [(.t 114)]) none,
                .op (some 116) (.app 70 1 16 [.nilIface] (.t 113) (.t 115)) none,
                .op (some 12) (.mov (.t 116)) none])))))
            (.reg [.op (some 117) (.bin .add (.t 98) (.c (.int .i64 1))) none,
              .op (some 98) (.mov (.t 117)) none])))))))
        (.reg [.frz 116,
          .op (some 118) (.mov (.t 9)) none,
          .op (some 119) (.mov (.t 12)) none,
          .op (some 120) (.mkF 95 1 1 [(.t 119)]) none,
          .op (some 121) (.app 95 1 24 [(.slice none 0 0)] (.t 118) (.t 120)) none,
          .op (some 9) (.mov (.t 121)) none])))))
      (.reg [.op (some 122) (.bin .add (.t 91) (.c (.int .i64 1))) none,
        .op (some 91) (.mov (.t 122)) none])))))))
  (.seq (.reg [.op (some 123) (.fieldA 1 (.t 3)) none,
    .op (some 124) (.load false 1 (.t 123)) none,
    .op (some 125) (.mov (.t 9)) none,
    .op (some 126) (.call 40 [(.t 124), (.t 125)]) none,
    .op (some 127) (.mkif 96 (.t 126)) none,
    .op (some 4) (.mov (.t 127)) none,
    .op (some 5) (.mov (.c (.bool true))) none])
  .ret))))))))))
def A37 : Ann := { n := 128, own := [], frz := [(27, 0, [116])], ord := [(9, [0, 1, 2, 3, 4, 5, 6, 7, 8, 9, 10, 11, 12, 13, 14, 15, 16, 17], [[], [0], [0, 1], [0, 1, 2], [0, 1, 2, 3], [0, 1, 2, 3, 4], [0, 1, 2, 3, 4, 5], [0, 1, 2, 3, 4, 5, 6], [0, 1, 2, 3, 4, 5, 6, 7], [0, 1, 2, 3, 4, 5, 6, 7, 8], [0, 1, 2, 3, 4, 5, 6, 7, 8, 9], [0, 1, 2, 3, 4, 5, 6, 7, 8], [0, 1, 2, 3, 4, 5, 6, 7, 8, 11], [0, 1, 2, 3, 4, 5, 6, 7, 8, 11, 12], [0, 1, 2, 3, 4, 5, 6, 7, 8, 11, 12, 13], [0, 1, 2, 3, 4, 5, 6, 7, 8, 11, 12, 13, 14], [0, 1, 2, 3, 4, 5, 6, 7, 8, 9, 10, 11, 12, 13, 14, 15], [0, 1, 2, 3, 4, 5, 6, 7, 8, 9, 10, 11, 12, 13, 14, 15, 16]]), (11, [0, 1, 2, 3, 4, 5, 6, 7, 8, 9], [[], [0], [0, 1], [0, 1, 2], [], [4], [0, 1, 2, 3, 4, 5], [0, 1, 2, 3, 4, 5, 6], [], [0, 1, 2, 3, 4, 5, 6, 7, 8]])] }
theorem facts37 : factsOf Tryd.prog A37 Tryd.f37 = some (c37, 128, [(4, none), (5, none)], false) := by kernel_rfl

/- 38 slices.IndexFunc[[]leasehold/api.Type,leasehold/api.Type] -/
def c38 : SCode := (.seq (.reg [.op (some 4) (.mov (.c (.int .i64 0))) none])
  (.seq (.seq (.reg [.op (some 6) (.mov (.t 0)) none,
    .op (some 7) (.len (.t 6)) none,
    .op (some 8) (.mov (.c (.int .i64 0))) none])
  (.block 0
  (.loop [9, 10, 5, 11, 12, 13, 14, 15, 16, 17, 4, 18, 8]
    (.seq (.reg [.op (some 9) (.bin .lss (.t 8) (.t 7)) none])
      (.seq (.cond (.t 9)
      .skip
      (.exit 0))
      (.seq (.block 1
      (.seq (.reg [.op (some 10) (.mov (.t 8)) none,
          .op (some 5) (.mov (.t 10)) none])
        (.seq (.reg [.op (some 11) (.mov (.t 1)) none,
          .op (some 12) (.mov (.t 0)) none,
          .op (some 13) (.mov (.t 5)) none,
          .op (some 14) (.idxA 3 (.t 12) (.t 13)) none,
          .op (some 15) (.load true 3 (.t 14)) none,
          .op (some 16) (.callV (.t 11) [(.t 15)]) none])
        (.cond (.t 16)
        (.seq (.reg [.op (some 17) (.mov (.t 5)) none,
            .op (some 4) (.mov (.t 17)) none])
          .ret)
        .skip))))
      (.reg [.op (some 18) (.bin .add (.t 8) (.c (.int .i64 1))) none,
        .op (some 8) (.mov (.t 18)) none])))))))
  (.seq (.reg [.op (some 4) (.mov (.c (.int .i64 (-1)))) none])
  .ret)))
def A38 : Ann := { n := 19, own := [], frz := [], ord := [] }
theorem facts38 : factsOf Tryd.prog A38 Tryd.f38 = some (c38, 19, [(4, none)], false) := by kernel_rfl

/- 39 leasehold/unify.Subst -/
def c39 : SCode := (.seq (.reg [.op (some 2) (.boxF 23 (.t 0)) none,
    .op (some 3) (.box 25 (.t 1)) none,
    .op (some 4) (.alloc 25 [(.int .i64 0), (.int .i64 0), (.slice none 0 0)]) none])
  (.seq (.reg [.op (some 5) (.load true 3 (.t 3)) none,
    .op (some 6) (.mkfn 42 [] [(.t 2)]) none,
    .op (some 7) (.call 41 [(.t 5), (.t 6)]) none,
    .op none (.store 3 (.t 4) (.t 7)) none])
  .ret))
def A39 : Ann := { n := 8, own := [2], frz := [], ord := [] }
theorem facts39 : factsOf Tryd.prog A39 Tryd.f39 = some (c39, 8, [(4, some (true, 3))], false) := by kernel_rfl

/- 40 leasehold/layout.newSum -/
def c40 : SCode := (.seq (.reg [.op (some 4) (.mov (.c (.pointer none))) none])
  (.seq (.reg [.op (some 11) (.mov (.t 0)) none,
    .op (some 12) (.mov (.t 1)) none,
    .op (some 13) (.build [(.int .i64 0), (.slice none 0 0), (.int .i64 0), (.int .i64 0), (.int .i64 0), (.int .i64 0)] [(0, 1, (.t 11)), (1, 1, (.t 12)), (4, 1, (.c (.int .i64 (-1))))]) none,
    .op (some 14) (.box 101 (.t 13)) none,
    .op (some 5) (.mov (.t 14)) none])
  (.seq (.reg [.op (some 6) (.mov (.c (.int .i64 0))) none])
  (.seq (.seq (.reg [.op (some 15) (.mov (.t 1)) none,
    .op (some 16) (.len (.t 15)) none,
    .op (some 17) (.mov (.c (.int .i64 0))) none])
  (.block 0
  (.loop [18, 19, 20, 21, 7, 8, 22, 23, 24, 25, 26, 27, 28, 29, 30, 31, 32, 33, 34, 35, 36, 37, 38, 39, 40, 6, 41, 17]
    (.seq (.reg [.op (some 18) (.bin .lss (.t 17) (.t 16)) none])
      (.seq (.cond (.t 18)
      .skip
      (.exit 0))
      (.seq (.block 1
      (.seq (.reg [.op (some 19) (.mov (.t 17)) none,
          .op (some 20) (.idxA 1 (.t 15) (.t 17)) none,
          .op (some 21) (.load false 1 (.t 20)) none,
          .op (some 7) (.mov (.t 19)) none,
          .op (some 8) (.mov (.t 21)) none])
        (.seq (.regD [.op (some 22) (.mov (.t 5)) none,
          .op (some 23) (.mov (.t 5)) none,
          .op (some 24) (.nilck (.t 23)) none,
          .op (some 25) (.fieldA 2 (.t 24)) none,
          .op (some 26) (.loadD false 1 (.t 25)) none,
          .op (some 27) (.mov (.t 8)) none,
          .op (some 28) (.callD 43 [(.t 27)]) none,
          .op (some 29) (.mm true [(.t 26), (.t 28)]) none,
          .op (some 30) (.nilck (.t 22)) none,
          .op (some 31) (.fieldA 2 (.t 30)) none,
          .op none (.storeD 1 (.t 31) (.t 29)) none])
        (.seq (.reg [.op (some 32) (.mov (.t 8)) none,
          .op (some 33) (.len (.t 32)) none,
          .op (some 34) (.bin .gtr (.t 33) (.c (.int .i64 0))) none])
        (.cond (.t 34)
        (.seq (.reg [.op (some 35) (.mov (.t 5)) none,
            .op (some 36) (.mov (.t 7)) none,
            .op (some 37) (.nilck (.t 35)) none,
            .op (some 38) (.fieldA 4 (.t 37)) none,
            .op none (.store 1 (.t 38) (.t 36)) none])
          (.reg [.op (some 39) (.mov (.t 6)) none,
            .op (some 40) (.bin .add (.t 39) (.c (.int .i64 1))) none,
            .op (some 6) (.mov (.t 40)) none]))
        .skip)))))
      (.reg [.op (some 41) (.bin .add (.t 17) (.c (.int .i64 1))) none,
        .op (some 17) (.mov (.t 41)) none])))))))
  (.seq (.reg [.op (some 42) (.mov (.t 1)) none,
    .op (some 43) (.len (.t 42)) none,
    .op (some 44) (.bin .sub (.t 43) (.c (.int .i64 1))) none,
    .op (some 9) (.mov (.t 44)) none])
  (.seq (.reg [.op (some 10) (.mov (.c (.int .i64 0))) none])
  (.seq (.seq (.reg [.op (some 45) (.mov (.t 5)) none,
    .op (some 46) (.nilck (.t 45)) none,
    .op (some 47) (.fieldA 4 (.t 46)) none,
    .op (some 48) (.load false 1 (.t 47)) none,
    .op (some 49) (.bin .geq (.t 48) (.c (.int .i64 0))) none])
  (.cond (.t 49)
  (.reg [.op (some 50) (.mov (.t 1)) none,
      .op (some 51) (.mov (.t 5)) none,
      .op (some 52) (.nilck (.t 51)) none,
      .op (some 53) (.fieldA 4 (.t 52)) none,
      .op (some 54) (.load false 1 (.t 53)) none,
      .op (some 55) (.idxA 1 (.t 50) (.t 54)) none,
      .op (some 56) (.load false 1 (.t 55)) none,
      .op (some 57) (.idxA 1 (.t 56) (.c (.int .i64 0))) none,
      .op (some 58) (.load false 1 (.t 57)) none,
      .op (some 59) (.callV (.mt "leasehold/layout.niches" 58) []) none,
      .op (some 10) (.mov (.t 59)) none])
  .skip))
  (.seq (.block 2
  (.seq (.reg [.op (some 78) (.mov (.t 9)) none,
      .op (some 79) (.bin .eql (.t 78) (.c (.int .i64 0))) none,
      .op (some 77) (.mov (.t 79)) none])
    (.cond (.t 77)
    (.reg [.op (some 80) (.mov (.t 5)) none,
        .op (some 81) (.mov (.t 5)) none,
        .op (some 82) (.mov (.t 10)) none,
        .op (some 83) (.nilck (.t 80)) none,
        .op (some 84) (.fieldA 4 (.t 83)) none,
        .op none (.store 1 (.t 84) (.c (.int .i64 0))) none,
        .op (some 85) (.nilck (.t 81)) none,
        .op (some 86) (.fieldA 3 (.t 85)) none,
        .op none (.store 1 (.t 86) (.t 82)) none])
    (.seq (.reg [.op (some 88) (.mov (.t 6)) none,
        .op (some 89) (.bin .eql (.t 88) (.c (.int .i64 1))) none,
        .op (some 90) (.mov (.t 89)) none,
        .op (some 91) (.mov (.t 10)) (some (90, true)),
        .op (some 92) (.mov (.t 9)) (some (90, true)),
        .op (some 93) (.bin .geq (.t 91) (.t 92)) (some (90, true)),
        .op (some 94) (.pick (.t 90) (.t 93) (.c (.bool false))) none,
        .op (some 87) (.mov (.t 94)) none])
      (.cond (.t 87)
      (.reg [.op (some 95) (.mov (.t 5)) none,
          .op (some 96) (.mov (.t 5)) none,
          .op (some 97) (.mov (.t 10)) none,
          .op (some 98) (.mov (.t 9)) none,
          .op (some 99) (.bin .sub (.t 97) (.t 98)) none,
          .op (some 100) (.mov (.t 10)) none,
          .op (some 101) (.bin .sub (.c (.int .i64 65536)) (.t 100)) none,
          .op (some 102) (.nilck (.t 95)) none,
          .op (some 103) (.fieldA 3 (.t 102)) none,
          .op none (.store 1 (.t 103) (.t 99)) none,
          .op (some 104) (.nilck (.t 96)) none,
          .op (some 105) (.fieldA 5 (.t 104)) none,
          .op none (.store 1 (.t 105) (.t 101)) none])
      (.reg [.op (some 60) (.mov (.t 5)) none,
          .op (some 61) (.mov (.t 5)) none,
          .op (some 62) (.mov (.t 5)) none,
          .op (some 63) (.mov (.t 5)) none,
          .op (some 64) (.nilck (.t 63)) none,
          .op (some 65) (.fieldA 2 (.t 64)) none,
          .op (some 66) (.load false 1 (.t 65)) none,
          .op (some 67) (.bin .add (.t 66) (.c (.int .i64 1))) none,
          .op (some 68) (.mov (.t 1)) none,
          .op (some 69) (.len (.t 68)) none,
          .op (some 70) (.bin .sub (.c (.int .i64 65536)) (.t 69)) none,
          .op (some 71) (.nilck (.t 60)) none,
          .op (some 72) (.fieldA 4 (.t 71)) none,
          .op none (.store 1 (.t 72) (.c (.int .i64 (-1)))) none,
          .op (some 73) (.nilck (.t 61)) none,
          .op (some 74) (.fieldA 2 (.t 73)) none,
          .op none (.store 1 (.t 74) (.t 67)) none,
          .op (some 75) (.nilck (.t 62)) none,
          .op (some 76) (.fieldA 3 (.t 75)) none,
          .op none (.store 1 (.t 76) (.t 70)) none]))))))
  (.seq (.reg [.op (some 106) (.mov (.t 5)) none,
    .op (some 4) (.mov (.t 106)) none])
  .ret)))))))))
def A40 : Ann := { n := 107, own := [], frz := [], ord := [(6, [0, 1, 2, 3, 4, 5, 6, 7, 8, 9, 10], [[], [], [1], [1, 2], [1, 2, 3], [], [5], [1, 2, 3, 4, 5, 6], [0, 1, 2, 3, 4, 5, 6, 7], [0, 1, 2, 3, 4, 5, 6, 7, 8], [0, 1, 2, 3, 4, 5, 6, 7, 8, 9]])] }
theorem facts40 : factsOf Tryd.prog A40 Tryd.f40 = some (c40, 107, [(4, none)], false) := by kernel_rfl

/- 41 leasehold/unify.mapped -/
def c41 : SCode := (.seq (.reg [.op (some 2) (.box 25 (.t 0)) none,
    .op (some 4) (.alloc 25 [(.int .i64 0), (.int .i64 0), (.slice none 0 0)]) none])
  (.seq (.seq (.reg [.op (some 11) (.mov (.t 1)) none,
    .op (some 12) (.load true 3 (.t 2)) none,
    .op (some 13) (.callV (.t 11) [(.t 12)]) none,
    .op (some 10) (.mov (.t 13)) none,
    .op (some 14) (.extr (.t 10) 0) none,
    .op (some 15) (.extr (.t 10) 1) none,
    .op (some 5) (.alloc 25 [(.int .i64 0), (.int .i64 0), (.slice none 0 0)]) none,
    .op none (.store 3 (.t 5) (.t 14)) none,
    .op (some 6) (.mov (.t 15)) none])
  (.seq (.reg [.op (some 16) (.mov (.t 6)) none])
  (.cond (.t 16)
  (.seq (.reg [.op (some 17) (.load true 3 (.t 5)) none,
      .op none (.store 3 (.t 4) (.t 17)) none])
    .ret)
  .skip)))
  (.seq (.reg [.op (some 18) (.fieldA 0 (.t 2)) none,
    .op (some 19) (.load false 1 (.t 18)) none,
    .op (some 20) (.fieldA 1 (.t 2)) none,
    .op (some 21) (.load false 1 (.t 20)) none,
    .op (some 22) (.build [(.int .i64 0), (.int .i64 0), (.slice none 0 0)] [(0, 1, (.t 19)), (1, 1, (.t 21))]) none,
    .op (some 7) (.alloc 25 [(.int .i64 0), (.int .i64 0), (.slice none 0 0)]) none,
    .op none (.store 3 (.t 7) (.t 22)) none])
  (.seq (.seq (.reg [.op (some 23) (.fieldA 2 (.t 2)) none,
    .op (some 24) (.load false 1 (.t 23)) none,
    .op (some 25) (.len (.t 24)) none,
    .op (some 26) (.mov (.c (.int .i64 0))) none])
  (.block 0
  (.loop [27, 28, 29, 9, 30, 31, 32, 33, 34, 35, 36, 37, 38, 26]
    (.seq (.reg [.op (some 27) (.bin .lss (.t 26) (.t 25)) none])
      (.seq (.cond (.t 27)
      .skip
      (.exit 0))
      (.seq (.block 1
      (.seq (.reg [.op (some 28) (.idxA 3 (.t 24) (.t 26)) none,
          .op (some 29) (.load true 3 (.t 28)) none,
          .op (some 9) (.alloc 25 [(.int .i64 0), (.int .i64 0), (.slice none 0 0)]) none,
          .op none (.store 3 (.t 9) (.t 29)) none])
        (.regD [.op (some 30) (.fieldA 2 (.t 7)) none,
          .op (some 31) (.loadD false 1 (.t 30)) none,
          .op (some 32) (.loadD true 3 (.t 9)) none,
          .op (some 33) (.mov (.t 1)) none,
          .op (some 34) (.callD 41 [(.t 32), (.t 33)]) none,
          .op (some 35) (.mkFD 25 1 3 [(.t 34)]) none,
          .op (some 36) (.appD 25 3 40 [(.int .i64 0), (.int .i64 0), (.slice none 0 0)] (.t 31) (.t 35)) none,
          .op (some 37) (.fieldA 2 (.t 7)) none,
          .op none (.storeD 1 (.t 37) (.t 36)) none])))
      (.reg [.op (some 38) (.bin .add (.t 26) (.c (.int .i64 1))) none,
        .op (some 26) (.mov (.t 38)) none])))))))
  (.seq (.reg [.op (some 39) (.load true 3 (.t 7)) none,
    .op none (.store 3 (.t 4) (.t 39)) none])
  .ret)))))
def A41 : Ann := { n := 40, own := [], frz := [], ord := [(8, [0, 1, 2, 3, 4, 5, 6, 7, 8], [[], [0], [], [], [2, 3], [2, 3, 4], [0, 1, 2, 3, 4, 5], [0, 1, 2, 3, 4, 5, 6], [0, 1, 2, 3, 4, 5, 6, 7]])] }
theorem facts41 : factsOf Tryd.prog A41 Tryd.f41 = some (c41, 40, [(4, some (true, 3))], false) := by kernel_rfl

/- 42 leasehold/unify.Subst$1 -/
def c42 : SCode := (.seq (.reg [.op (some 2) (.box 25 (.t 0)) none,
    .op (some 3) (.alloc 25 [(.int .i64 0), (.int .i64 0), (.slice none 0 0)]) none,
    .op (some 4) (.mov (.c (.bool false))) none])
  (.seq (.seq (.reg [.op (some 5) (.fieldA 0 (.t 2)) none,
    .op (some 6) (.load false 1 (.t 5)) none,
    .op (some 7) (.bin .eql (.t 6) (.c (.int .i64 5))) none,
    .op (some 8) (.mov (.t 7)) none,
    .op (some 9) (.fieldA 1 (.t 2)) (some (8, true)),
    .op (some 10) (.load false 1 (.t 9)) (some (8, true)),
    .op (some 11) (.bin .geq (.t 10) (.c (.int .i64 0))) (some (8, true)),
    .op (some 12) (.pick (.t 8) (.t 11) (.c (.bool false))) none,
    .op (some 13) (.mov (.t 12)) none,
    .op (some 14) (.fieldA 1 (.t 2)) (some (13, true)),
    .op (some 15) (.load false 1 (.t 14)) (some (13, true)),
    .op (some 16) (.load false 1 (.t 1)) (some (13, true)),
    .op (some 17) (.len (.t 16)) (some (13, true)),
    .op (some 18) (.bin .lss (.t 15) (.t 17)) (some (13, true)),
    .op (some 19) (.pick (.t 13) (.t 18) (.c (.bool false))) none])
  (.cond (.t 19)
  (.seq (.reg [.op (some 20) (.load false 1 (.t 1)) none,
      .op (some 21) (.fieldA 1 (.t 2)) none,
      .op (some 22) (.load false 1 (.t 21)) none,
      .op (some 23) (.idxA 3 (.t 20) (.t 22)) none,
      .op (some 24) (.load true 3 (.t 23)) none,
      .op none (.store 3 (.t 3) (.t 24)) none,
      .op (some 4) (.mov (.c (.bool true))) none])
    .ret)
  .skip))
  (.seq (.reg [.op (some 25) (.load true 3 (.t 2)) none,
    .op none (.store 3 (.t 3) (.t 25)) none,
    .op (some 4) (.mov (.c (.bool false))) none])
  .ret)))
def A42 : Ann := { n := 26, own := [], frz := [], ord := [] }
theorem facts42 : factsOf Tryd.prog A42 Tryd.f42 = some (c42, 26, [(3, some (true, 3)), (4, none)], false) := by kernel_rfl

/- 43 leasehold/layout.total -/
def c43 : SCode := (.seq (.reg [.op (some 2) (.mov (.c (.int .i64 0))) none])
  (.seq (.reg [.op (some 3) (.mov (.c (.int .i64 0))) none])
  (.seq (.seq (.reg [.op (some 6) (.mov (.t 0)) none,
    .op (some 7) (.len (.t 6)) none,
    .op (some 8) (.mov (.c (.int .i64 0))) none])
  (.block 0
  (.loop [9, 10, 11, 5, 12, 13, 14, 15, 3, 16, 8]
    (.seq (.reg [.op (some 9) (.bin .lss (.t 8) (.t 7)) none])
      (.seq (.cond (.t 9)
      .skip
      (.exit 0))
      (.seq (.block 1
      (.seq (.reg [.op (some 10) (.idxA 1 (.t 6) (.t 8)) none,
          .op (some 11) (.load false 1 (.t 10)) none,
          .op (some 5) (.mov (.t 11)) none])
        (.reg [.op (some 12) (.mov (.t 3)) none,
          .op (some 13) (.mov (.t 5)) none,
          .op (some 14) (.callV (.mt "leasehold/layout.words" 13) []) none,
          .op (some 15) (.bin .add (.t 12) (.t 14)) none,
          .op (some 3) (.mov (.t 15)) none])))
      (.reg [.op (some 16) (.bin .add (.t 8) (.c (.int .i64 1))) none,
        .op (some 8) (.mov (.t 16)) none])))))))
  (.seq (.reg [.op (some 17) (.mov (.t 3)) none,
    .op (some 2) (.mov (.t 17)) none])
  .ret))))
def A43 : Ann := { n := 18, own := [], frz := [], ord := [] }
theorem facts43 : factsOf Tryd.prog A43 Tryd.f43 = some (c43, 18, [(2, none)], false) := by kernel_rfl

/- 59 (leasehold/layout.handle).get -/
def c59 : SCode := (.seq (.reg [.op (some 4) (.alloc 32 [(.int .i64 0), (.int .i64 0), (.int .i64 0), (.int .i64 0), (.slice none 0 0), (.bool false), (.slice none 0 0), (.slice none 0 0)]) none,
    .op (some 5) (.mov (.c (.bool false))) none])
  (.seq (.reg [.op (some 9) (.mov (.t 0)) none,
    .op (some 10) (.mov (.t 1)) none,
    .op (some 11) (.idxA 1 (.t 10) (.c (.int .i64 0))) none,
    .op (some 12) (.load false 1 (.t 11)) none,
    .op (some 13) (.build [(.int .i64 0), (.int .i64 0), (.int .i64 0), (.int .i64 0), (.slice none 0 0), (.bool false), (.slice none 0 0), (.slice none 0 0)] [(0, 1, (.t 9)), (3, 1, (.t 12))]) none,
    .op (some 6) (.alloc 32 [(.int .i64 0), (.int .i64 0), (.int .i64 0), (.int .i64 0), (.slice none 0 0), (.bool false), (.slice none 0 0), (.slice none 0 0)]) none,
    .op none (.store 8 (.t 6) (.t 13)) none])
  (.seq (.reg [.op (some 15) (.mov (.t 0)) none,
    .op (some 16) (.load true 8 (.t 6)) none,
    .op (some 17) (.call 61 [(.t 15), (.t 16)]) none,
    .op (some 14) (.mov (.t 17)) none,
    .op (some 18) (.extr (.t 14) 0) none,
    .op (some 19) (.extr (.t 14) 1) none,
    .op (some 7) (.mov (.t 18)) none,
    .op (some 8) (.mov (.t 19)) none])
  (.seq (.reg [.op (some 20) (.load true 8 (.t 6)) none,
    .op (some 21) (.mov (.t 8)) none,
    .op none (.store 8 (.t 4) (.t 20)) none,
    .op (some 5) (.mov (.t 21)) none])
  .ret))))
def A59 : Ann := { n := 22, own := [], frz := [], ord := [] }
theorem facts59 : factsOf Tryd.prog A59 Tryd.f59 = some (c59, 22, [(4, some (true, 8)), (5, none)], false) := by kernel_rfl

/- 60 (leasehold/layout.handle).niches -/
def c60 : SCode := (.seq (.reg [.op (some 2) (.mov (.c (.int .i64 0))) none])
  (.seq (.reg [.op (some 2) (.mov (.c (.int .i64 32768))) none])
  .ret))
def A60 : Ann := { n := 3, own := [], frz := [], ord := [] }
theorem facts60 : factsOf Tryd.prog A60 Tryd.f60 = some (c60, 3, [(2, none)], false) := by kernel_rfl

/- 61 (leasehold/layout.handle).put -/
def c61 : SCode := (.seq (.reg [.op (some 3) (.box 32 (.t 1)) none,
    .op (some 4) (.mov (.c (.slice none 0 0))) none,
    .op (some 5) (.mov (.c (.bool false))) none])
  (.seq (.regD [.op (some 6) (.fieldA 3 (.t 3)) none,
    .op (some 7) (.loadD false 1 (.t 6)) none,
    .op (some 9) (.fieldA 0 (.t 3)) none,
    .op (some 10) (.loadD false 1 (.t 9)) none,
    .op (some 11) (.mov (.t 0)) none,
    .op (some 12) (.bin .eql (.t 10) (.t 11)) none,
    .op (some 13) (.mov (.t 12)) none,
    .op (some 14) (.fieldA 3 (.t 3)) (some (13, true)),
    .op (some 15) (.loadD false 1 (.t 14)) (some (13, true)),
    .op (some 16) (.bin .geq (.t 15) (.c (.int .i64 0))) (some (13, true)),
    .op (some 17) (.pick (.t 13) (.t 16) (.c (.bool false))) none,
    .op (some 18) (.mov (.t 17)) none,
    .op (some 19) (.fieldA 3 (.t 3)) (some (18, true)),
    .op (some 20) (.loadD false 1 (.t 19)) (some (18, true)),
    .op (some 21) (.bin .leq (.t 20) (.c (.int .i64 32767))) (some (18, true)),
    .op (some 22) (.pick (.t 18) (.t 21) (.c (.bool false))) none,
    .op (some 8) (.mkFD 3 1 1 [(.t 7)]) none,
    .op (some 4) (.mov (.t 8)) none,
    .op (some 5) (.mov (.t 22)) none])
  .ret))
def A61 : Ann := { n := 23, own := [], frz := [], ord := [(1, [0, 1, 3, 4, 5, 6, 7, 8, 9, 10, 11, 12, 13, 14, 15, 16, 2, 17, 18], [[], [0], [0, 1], [], [3], [], [3, 4, 5], [3, 4, 5, 6], [3, 4, 5, 6, 7], [3, 4, 5, 6, 7, 8], [3, 4, 5, 6, 7, 8, 9], [3, 4, 5, 6, 7, 8, 9, 10], [3, 4, 5, 6, 7, 8, 9, 10, 11], [3, 4, 5, 6, 7, 8, 9, 10, 11, 12], [3, 4, 5, 6, 7, 8, 9, 10, 11, 12, 13], [3, 4, 5, 6, 7, 8, 9, 10, 11, 12, 13, 14], [3, 4, 5, 6, 7, 8, 9, 10, 11, 12, 13, 14, 15], [0, 1, 2, 3, 4, 5, 6, 7, 8, 9, 10, 11, 12], [0, 1, 2, 3, 4, 5, 6, 7, 8, 9, 10, 11, 12, 13, 14, 15, 16, 17]])] }
theorem facts61 : factsOf Tryd.prog A61 Tryd.f61 = some (c61, 23, [(4, none), (5, none)], false) := by kernel_rfl

/- 62 (leasehold/layout.handle).words -/
def c62 : SCode := (.seq (.reg [.op (some 2) (.mov (.c (.int .i64 0))) none])
  (.seq (.reg [.op (some 2) (.mov (.c (.int .i64 1))) none])
  .ret))
def A62 : Ann := { n := 3, own := [], frz := [], ord := [] }
theorem facts62 : factsOf Tryd.prog A62 Tryd.f62 = some (c62, 3, [(2, none)], false) := by kernel_rfl

/- 63 (leasehold/layout.number).get -/
def c63 : SCode := (.seq (.reg [.op (some 2) (.box 93 (.t 0)) none,
    .op (some 4) (.alloc 32 [(.int .i64 0), (.int .i64 0), (.int .i64 0), (.int .i64 0), (.slice none 0 0), (.bool false), (.slice none 0 0), (.slice none 0 0)]) none,
    .op (some 5) (.mov (.c (.bool false))) none])
  (.seq (.reg [.op (some 9) (.mov (.t 1)) none,
    .op (some 10) (.idxA 1 (.t 9) (.c (.int .i64 0))) none,
    .op (some 11) (.load false 1 (.t 10)) none,
    .op (some 12) (.build [(.int .i64 0), (.int .i64 0), (.int .i64 0), (.int .i64 0), (.slice none 0 0), (.bool false), (.slice none 0 0), (.slice none 0 0)] [(0, 1, (.c (.int .i64 1))), (3, 1, (.t 11))]) none,
    .op (some 6) (.alloc 32 [(.int .i64 0), (.int .i64 0), (.int .i64 0), (.int .i64 0), (.slice none 0 0), (.bool false), (.slice none 0 0), (.slice none 0 0)]) none,
    .op none (.store 8 (.t 6) (.t 12)) none])
  (.seq (.reg [.op (some 14) (.load true 0 (.t 2)) none,
    .op (some 15) (.load true 8 (.t 6)) none,
    .op (some 16) (.call 65 [(.t 14), (.t 15)]) none,
    .op (some 13) (.mov (.t 16)) none,
    .op (some 17) (.extr (.t 13) 0) none,
    .op (some 18) (.extr (.t 13) 1) none,
    .op (some 7) (.mov (.t 17)) none,
    .op (some 8) (.mov (.t 18)) none])
  (.seq (.reg [.op (some 19) (.load true 8 (.t 6)) none,
    .op (some 20) (.mov (.t 8)) none,
    .op none (.store 8 (.t 4) (.t 19)) none,
    .op (some 5) (.mov (.t 20)) none])
  .ret))))
def A63 : Ann := { n := 21, own := [], frz := [], ord := [] }
theorem facts63 : factsOf Tryd.prog A63 Tryd.f63 = some (c63, 21, [(4, some (true, 8)), (5, none)], false) := by kernel_rfl

/- 64 (leasehold/layout.number).niches -/
def c64 : SCode := (.seq (.reg [.op (some 1) (.box 93 (.t 0)) none,
    .op (some 2) (.mov (.c (.int .i64 0))) none])
  (.seq (.reg [.op (some 2) (.mov (.c (.int .i64 0))) none])
  .ret))
def A64 : Ann := { n := 3, own := [], frz := [], ord := [] }
theorem facts64 : factsOf Tryd.prog A64 Tryd.f64 = some (c64, 3, [(2, none)], false) := by kernel_rfl

/- 65 (leasehold/layout.number).put -/
def c65 : SCode := (.seq (.reg [.op (some 2) (.box 93 (.t 0)) none,
    .op (some 3) (.box 32 (.t 1)) none,
    .op (some 4) (.mov (.c (.slice none 0 0))) none,
    .op (some 5) (.mov (.c (.bool false))) none])
  (.seq (.regD [.op (some 6) (.fieldA 3 (.t 3)) none,
    .op (some 7) (.loadD false 1 (.t 6)) none,
    .op (some 9) (.fieldA 0 (.t 3)) none,
    .op (some 10) (.loadD false 1 (.t 9)) none,
    .op (some 11) (.bin .eql (.t 10) (.c (.int .i64 1))) none,
    .op (some 12) (.mov (.t 11)) none,
    .op (some 13) (.fieldA 3 (.t 3)) (some (12, true)),
    .op (some 14) (.loadD false 1 (.t 13)) (some (12, true)),
    .op (some 15) (.bin .geq (.t 14) (.c (.int .i64 (-1000000000)))) (some (12, true)),
    .op (some 16) (.pick (.t 12) (.t 15) (.c (.bool false))) none,
    .op (some 17) (.mov (.t 16)) none,
    .op (some 18) (.fieldA 3 (.t 3)) (some (17, true)),
    .op (some 19) (.loadD false 1 (.t 18)) (some (17, true)),
    .op (some 20) (.bin .leq (.t 19) (.c (.int .i64 1000000000))) (some (17, true)),
    .op (some 21) (.pick (.t 17) (.t 20) (.c (.bool false))) none,
    .op (some 8) (.mkFD 3 1 1 [(.t 7)]) none,
    .op (some 4) (.mov (.t 8)) none,
    .op (some 5) (.mov (.t 21)) none])
  .ret))
def A65 : Ann := { n := 22, own := [], frz := [], ord := [(1, [0, 1, 3, 4, 5, 6, 7, 8, 9, 10, 11, 12, 13, 14, 15, 2, 16, 17], [[], [0], [0, 1], [], [3], [3, 4], [3, 4, 5], [3, 4, 5, 6], [3, 4, 5, 6, 7], [3, 4, 5, 6, 7, 8], [3, 4, 5, 6, 7, 8, 9], [3, 4, 5, 6, 7, 8, 9, 10], [3, 4, 5, 6, 7, 8, 9, 10, 11], [3, 4, 5, 6, 7, 8, 9, 10, 11, 12], [3, 4, 5, 6, 7, 8, 9, 10, 11, 12, 13], [3, 4, 5, 6, 7, 8, 9, 10, 11, 12, 13, 14], [0, 1, 2, 3, 4, 5, 6, 7, 8, 9, 10, 11], [0, 1, 2, 3, 4, 5, 6, 7, 8, 9, 10, 11, 12, 13, 14, 15, 16]])] }
theorem facts65 : factsOf Tryd.prog A65 Tryd.f65 = some (c65, 22, [(4, none), (5, none)], false) := by kernel_rfl

/- 66 (leasehold/layout.number).words -/
def c66 : SCode := (.seq (.reg [.op (some 1) (.box 93 (.t 0)) none,
    .op (some 2) (.mov (.c (.int .i64 0))) none])
  (.seq (.reg [.op (some 2) (.mov (.c (.int .i64 1))) none])
  .ret))
def A66 : Ann := { n := 3, own := [], frz := [], ord := [] }
theorem facts66 : factsOf Tryd.prog A66 Tryd.f66 = some (c66, 3, [(2, none)], false) := by kernel_rfl

/- 67 (*leasehold/layout.sum).get -/
def c67 : SCode := (.seq (.reg [.op (some 4) (.alloc 32 [(.int .i64 0), (.int .i64 0), (.int .i64 0), (.int .i64 0), (.slice none 0 0), (.bool false), (.slice none 0 0), (.slice none 0 0)]) none,
    .op (some 5) (.mov (.c (.bool false))) none])
  (.seq .skip
  (.seq (.seq (.reg [.op (some 16) (.mov (.t 0)) none,
    .op (some 17) (.nilck (.t 16)) none,
    .op (some 18) (.fieldA 1 (.t 17)) none,
    .op (some 19) (.load false 1 (.t 18)) none,
    .op (some 20) (.len (.t 19)) none,
    .op (some 21) (.mov (.c (.int .i64 0))) none])
  (.block 0
  (.loop [22, 23, 24, 25, 6, 7, 26, 8, 28, 29, 30, 27, 31, 32, 9, 10, 33, 34, 35, 36, 37, 38, 39, 40, 8, 41, 42, 43, 44, 45, 46, 11, 47, 48, 49, 50, 51, 52, 13, 54, 55, 56, 57, 58, 59, 60, 61, 62, 53, 63, 64, 14, 15, 65, 66, 67, 68, 69, 70, 71, 72, 73, 74, 75, 76, 8, 77, 49, 78, 79, 80, 81, 5, 82, 21]
    (.seq (.reg [.op (some 22) (.bin .lss (.t 21) (.t 20)) none])
      (.seq (.cond (.t 22)
      .skip
      (.exit 0))
      (.seq (.block 1
      (.seq (.reg [.op (some 23) (.mov (.t 21)) none,
          .op (some 24) (.idxA 1 (.t 19) (.t 21)) none,
          .op (some 25) (.load false 1 (.t 24)) none,
          .op (some 6) (.mov (.t 23)) none,
          .op (some 7) (.mov (.t 25)) none])
        (.seq (.reg [.op (some 26) (.mov (.t 1)) none,
          .op (some 8) (.mov (.t 26)) none])
        (.seq (.seq (.reg [.op (some 28) (.mov (.t 0)) none,
          .op (some 29) (.mov (.t 6)) none,
          .op (some 30) (.call 71 [(.t 28), (.t 29)]) none,
          .op (some 27) (.mov (.t 30)) none,
          .op (some 31) (.extr (.t 27) 0) none,
          .op (some 32) (.extr (.t 27) 1) none,
          .op (some 9) (.mov (.t 31)) none,
          .op (some 10) (.mov (.t 32)) none])
        (.seq (.reg [.op (some 33) (.mov (.t 10)) none])
        (.cond (.t 33)
        (.seq (.seq (.reg [.op (some 34) (.mov (.t 1)) none,
            .op (some 35) (.idxA 1 (.t 34) (.c (.int .i64 0))) none,
            .op (some 36) (.load false 1 (.t 35)) none,
            .op (some 37) (.mov (.t 9)) none,
            .op (some 38) (.bin .neq (.t 36) (.t 37)) none])
          (.cond (.t 38)
          (.exit 1)
          .skip))
          (.reg [.op (some 39) (.mov (.t 1)) none,
            .op (some 40) (.slc 1 (.t 39) (some (.c (.int .i64 1))) none) none,
            .op (some 8) (.mov (.t 40)) none]))
        .skip)))
        (.seq (.reg [.op (some 41) (.mov (.t 0)) none,
          .op (some 42) (.nilck (.t 41)) none,
          .op (some 43) (.fieldA 0 (.t 42)) none,
          .op (some 44) (.load false 1 (.t 43)) none,
          .op (some 45) (.mov (.t 6)) none,
          .op (some 46) (.build [(.int .i64 0), (.int .i64 0), (.int .i64 0), (.int .i64 0), (.slice none 0 0), (.bool false), (.slice none 0 0), (.slice none 0 0)] [(0, 1, (.c (.int .i64 2))), (1, 1, (.t 44)), (2, 1, (.t 45))]) none,
          .op (some 11) (.alloc 32 [(.int .i64 0), (.int .i64 0), (.int .i64 0), (.int .i64 0), (.slice none 0 0), (.bool false), (.slice none 0 0), (.slice none 0 0)]) none,
          .op none (.store 8 (.t 11) (.t 46)) none])
        (.seq (.seq (.reg [.op (some 47) (.mov (.t 7)) none,
          .op (some 48) (.len (.t 47)) none,
          .op (some 49) (.mov (.c (.int .i64 0))) none])
        (.block 2
        (.loop [50, 51, 52, 13, 54, 55, 56, 57, 58, 59, 60, 61, 62, 53, 63, 64, 14, 15, 65, 66, 67, 68, 69, 70, 71, 72, 73, 74, 75, 76, 8, 77, 49]
          (.seq (.reg [.op (some 50) (.bin .lss (.t 49) (.t 48)) none])
            (.seq (.cond (.t 50)
            .skip
            (.exit 2))
            (.seq (.block 3
            (.seq (.reg [.op (some 51) (.idxA 1 (.t 47) (.t 49)) none,
                .op (some 52) (.load false 1 (.t 51)) none,
                .op (some 13) (.mov (.t 52)) none])
              (.seq (.regD [.op (some 54) (.mov (.t 13)) none,
                .op (some 55) (.mov (.t 8)) none,
                .op (some 56) (.mov (.t 13)) none,
                .op (some 59) (.mkmv "leasehold/layout.get" (.t 54)) none,
                .op (some 60) (.nilck (.t 59)) none,
                .op (some 61) (.mov (.t 54)) none,
                .op (some 57) (.callVD (.mt "leasehold/layout.words" 56) []) none,
                .op (some 58) (.slc 1 (.t 55) none (some (.t 57))) none,
                .op (some 62) (.callVD (.mt "leasehold/layout.get" 61) [(.t 58)]) none,
                .op (some 53) (.mov (.t 62)) none,
                .op (some 63) (.extr (.t 53) 0) none,
                .op (some 64) (.extr (.t 53) 1) none,
                .op (some 14) (.allocD 32 [(.int .i64 0), (.int .i64 0), (.int .i64 0), (.int .i64 0), (.slice none 0 0), (.bool false), (.slice none 0 0), (.slice none 0 0)]) none,
                .op none (.storeD 8 (.t 14) (.t 63)) none,
                .op (some 15) (.mov (.t 64)) none])
              (.seq (.seq (.reg [.op (some 65) (.mov (.t 15)) none,
                .op (some 66) (.un .not (.t 65)) none])
              (.cond (.t 66)
              (.exit 1)
              .skip))
              (.seq (.reg [.op (some 67) (.fieldA 4 (.t 11)) none,
                .op (some 68) (.load false 1 (.t 67)) none,
                .op (some 69) (.load true 8 (.t 14)) none,
                .op (some 70) (.mkF 32 1 8 [(.t 69)]) none,
                .op (some 71) (.app 32 8 112 [(.int .i64 0), (.int .i64 0), (.int .i64 0), (.int .i64 0), (.slice none 0 0), (.bool false), (.slice none 0 0), (.slice none 0 0)] (.t 68) (.t 70)) none,
                .op (some 72) (.fieldA 4 (.t 11)) none,
                .op none (.store 1 (.t 72) (.t 71)) none])
              (.reg [.op (some 73) (.mov (.t 8)) none,
                .op (some 74) (.mov (.t 13)) none,
                .op (some 75) (.callV (.mt "leasehold/layout.words" 74) []) none,
                .op (some 76) (.slc 1 (.t 73) (some (.t 75)) none) none,
                .op (some 8) (.mov (.t 76)) none]))))))
            (.reg [.op (some 77) (.bin .add (.t 49) (.c (.int .i64 1))) none,
              .op (some 49) (.mov (.t 77)) none])))))))
        (.seq (.reg [.op (some 78) (.mov (.t 8)) none,
          .op (some 79) (.call 72 [(.t 78), (.fn 73)]) none,
          .op (some 80) (.un .not (.t 79)) none])
        (.cond (.t 80)
        (.seq (.reg [.op (some 81) (.load true 8 (.t 11)) none,
            .op none (.store 8 (.t 4) (.t 81)) none,
            .op (some 5) (.mov (.c (.bool true))) none])
          .ret)
        .skip))))))))
      (.reg [.op (some 82) (.bin .add (.t 21) (.c (.int .i64 1))) none,
        .op (some 21) (.mov (.t 82)) none])))))))
  (.seq (.reg [.op (some 83) (.build [(.int .i64 0), (.int .i64 0), (.int .i64 0), (.int .i64 0), (.slice none 0 0), (.bool false), (.slice none 0 0), (.slice none 0 0)] []) none,
    .op none (.store 8 (.t 4) (.t 83)) none,
    .op (some 5) (.mov (.c (.bool false))) none])
  .ret))))
def A67 : Ann := { n := 84, own := [], frz := [], ord := [(13, [0, 1, 2, 5, 6, 7, 3, 4, 8, 9, 10, 11, 12, 13, 14], [[], [], [], [2], [1, 2, 3], [0], [0, 5], [0, 5, 6], [0, 1, 2, 3, 4, 5, 6, 7], [0, 1, 2, 3, 4, 5, 6, 7, 8], [0, 1, 2, 3, 4, 5, 6, 7, 8, 9], [0, 1, 2, 3, 4, 5, 6, 7, 8, 9], [], [0, 1, 2, 3, 4, 5, 6, 7, 8, 9, 10, 12], [0, 1, 2, 3, 4, 5, 6, 7, 8, 9, 10, 11, 12, 13]])] }
theorem facts67 : factsOf Tryd.prog A67 Tryd.f67 = some (c67, 84, [(4, some (true, 8)), (5, none)], false) := by kernel_rfl

/- 68 (*leasehold/layout.sum).niches -/
def c68 : SCode := (.seq (.reg [.op (some 2) (.mov (.c (.int .i64 0))) none])
  (.seq (.reg [.op (some 3) (.mov (.t 0)) none,
    .op (some 4) (.nilck (.t 3)) none,
    .op (some 5) (.fieldA 3 (.t 4)) none,
    .op (some 6) (.load false 1 (.t 5)) none,
    .op (some 2) (.mov (.t 6)) none])
  .ret))
def A68 : Ann := { n := 7, own := [], frz := [], ord := [] }
theorem facts68 : factsOf Tryd.prog A68 Tryd.f68 = some (c68, 7, [(2, none)], false) := by kernel_rfl

/- 69 (*leasehold/layout.sum).put -/
def c69 : SCode := (.seq (.reg [.op (some 3) (.box 32 (.t 1)) none,
    .op (some 4) (.mov (.c (.slice none 0 0))) none,
    .op (some 5) (.mov (.c (.bool false))) none])
  (.seq (.seq (.regD [.op (some 13) (.fieldA 0 (.t 3)) none,
    .op (some 14) (.loadD false 1 (.t 13)) none,
    .op (some 15) (.bin .neq (.t 14) (.c (.int .i64 2))) none,
    .op (some 16) (.mov (.t 15)) none,
    .op (some 17) (.fieldA 1 (.t 3)) (some (16, false)),
    .op (some 18) (.loadD false 1 (.t 17)) (some (16, false)),
    .op (some 19) (.mov (.t 0)) (some (16, false)),
    .op (some 20) (.nilck (.t 19)) (some (16, false)),
    .op (some 21) (.fieldA 0 (.t 20)) (some (16, false)),
    .op (some 22) (.loadD false 1 (.t 21)) (some (16, false)),
    .op (some 23) (.bin .neq (.t 18) (.t 22)) (some (16, false)),
    .op (some 24) (.pick (.t 16) (.c (.bool true)) (.t 23)) none,
    .op (some 25) (.mov (.t 24)) none,
    .op (some 26) (.fieldA 2 (.t 3)) (some (25, false)),
    .op (some 27) (.loadD false 1 (.t 26)) (some (25, false)),
    .op (some 28) (.bin .lss (.t 27) (.c (.int .i64 0))) (some (25, false)),
    .op (some 29) (.pick (.t 25) (.c (.bool true)) (.t 28)) none,
    .op (some 30) (.mov (.t 29)) none,
    .op (some 31) (.fieldA 2 (.t 3)) (some (30, false)),
    .op (some 32) (.loadD false 1 (.t 31)) (some (30, false)),
    .op (some 33) (.mov (.t 0)) (some (30, false)),
    .op (some 34) (.nilck (.t 33)) (some (30, false)),
    .op (some 35) (.fieldA 1 (.t 34)) (some (30, false)),
    .op (some 36) (.loadD false 1 (.t 35)) (some (30, false)),
    .op (some 37) (.len (.t 36)) (some (30, false)),
    .op (some 38) (.bin .geq (.t 32) (.t 37)) (some (30, false)),
    .op (some 39) (.pick (.t 30) (.c (.bool true)) (.t 38)) none,
    .op (some 40) (.mov (.t 39)) none,
    .op (some 41) (.fieldA 4 (.t 3)) (some (40, false)),
    .op (some 42) (.loadD false 1 (.t 41)) (some (40, false)),
    .op (some 43) (.len (.t 42)) (some (40, false)),
    .op (some 44) (.mov (.t 0)) (some (40, false)),
    .op (some 45) (.nilck (.t 44)) (some (40, false)),
    .op (some 46) (.fieldA 1 (.t 45)) (some (40, false)),
    .op (some 47) (.loadD false 1 (.t 46)) (some (40, false)),
    .op (some 48) (.fieldA 2 (.t 3)) (some (40, false)),
    .op (some 49) (.loadD false 1 (.t 48)) (some (40, false)),
    .op (some 50) (.idxA 1 (.t 47) (.t 49)) (some (40, false)),
    .op (some 51) (.loadD false 1 (.t 50)) (some (40, false)),
    .op (some 52) (.len (.t 51)) (some (40, false)),
    .op (some 53) (.bin .neq (.t 43) (.t 52)) (some (40, false)),
    .op (some 54) (.pick (.t 40) (.c (.bool true)) (.t 53)) none])
  (.cond (.t 54)
  (.seq (.reg [.op (some 4) (.mov (.c (.slice none 0 0))) none,
      .op (some 5) (.mov (.c (.bool false))) none])
    .ret)
  .skip))
  (.seq (.reg [.op (some 6) (.mov (.c (.slice none 0 0))) none])
  (.seq (.seq (.reg [.op (some 56) (.mov (.t 0)) none,
    .op (some 57) (.fieldA 2 (.t 3)) none,
    .op (some 58) (.load false 1 (.t 57)) none,
    .op (some 59) (.call 71 [(.t 56), (.t 58)]) none,
    .op (some 55) (.mov (.t 59)) none,
    .op (some 60) (.extr (.t 55) 0) none,
    .op (some 61) (.extr (.t 55) 1) none,
    .op (some 7) (.mov (.t 60)) none,
    .op (some 8) (.mov (.t 61)) none])
  (.seq (.reg [.op (some 62) (.mov (.t 8)) none])
  (.cond (.t 62)
  (.reg [.op (some 63) (.mov (.t 6)) none,
      .op (some 64) (.mov (.t 7)) none,
      .op (some 65) (.mkF 3 1 1 [(.t 64)]) none,
      .op (some 66) (.app 3 1 8 [(.int .i64 0)] (.t 63) (.t 65)) none,
      .op (some 6) (.mov (.t 66)) none])
  .skip)))
  (.seq (.seq (.regD [.op (some 67) (.mov (.t 0)) none,
    .op (some 68) (.nilck (.t 67)) none,
    .op (some 69) (.fieldA 1 (.t 68)) none,
    .op (some 70) (.loadD false 1 (.t 69)) none,
    .op (some 71) (.fieldA 2 (.t 3)) none,
    .op (some 72) (.loadD false 1 (.t 71)) none,
    .op (some 73) (.idxA 1 (.t 70) (.t 72)) none,
    .op (some 74) (.loadD false 1 (.t 73)) none,
    .op (some 75) (.len (.t 74)) none,
    .op (some 76) (.mov (.c (.int .i64 0))) none])
  (.block 0
  (.loop [77, 78, 79, 80, 9, 10, 82, 83, 84, 85, 86, 87, 88, 89, 90, 91, 81, 92, 93, 11, 12, 94, 95, 4, 5, 96, 97, 98, 6, 99, 76]
    (.seq (.reg [.op (some 77) (.bin .lss (.t 76) (.t 75)) none])
      (.seq (.cond (.t 77)
      .skip
      (.exit 0))
      (.seq (.block 1
      (.seq (.reg [.op (some 78) (.mov (.t 76)) none,
          .op (some 79) (.idxA 1 (.t 74) (.t 76)) none,
          .op (some 80) (.load false 1 (.t 79)) none,
          .op (some 9) (.mov (.t 78)) none,
          .op (some 10) (.mov (.t 80)) none])
        (.seq (.regD [.op (some 82) (.mov (.t 10)) none,
          .op (some 83) (.fieldA 4 (.t 3)) none,
          .op (some 84) (.loadD false 1 (.t 83)) none,
          .op (some 85) (.mov (.t 9)) none,
          .op (some 86) (.idxA 8 (.t 84) (.t 85)) none,
          .op (some 87) (.loadD true 8 (.t 86)) none,
          .op (some 88) (.mkmv "leasehold/layout.put" (.t 82)) none,
          .op (some 89) (.nilck (.t 88)) none,
          .op (some 90) (.mov (.t 82)) none,
          .op (some 91) (.callVD (.mt "leasehold/layout.put" 90) [(.t 87)]) none,
          .op (some 81) (.mov (.t 91)) none,
          .op (some 92) (.extr (.t 81) 0) none,
          .op (some 93) (.extr (.t 81) 1) none,
          .op (some 11) (.mov (.t 92)) none,
          .op (some 12) (.mov (.t 93)) none])
        (.seq (.seq (.reg [.op (some 94) (.mov (.t 12)) none,
          .op (some 95) (.un .not (.t 94)) none])
        (.cond (.t 95)
        (.seq (.reg [.op (some 4) (.mov (.c (.slice none 0 0))) none,
            .op (some 5) (.mov (.c (.bool false))) none])
          .ret)
        .skip))
        (.reg [.op (some 96) (.mov (.t 6)) none,
          .op (some 97) (.mov (.t 11)) none,
          .op (some 98) (.app 3 1 8 [(.int .i64 0)] (.t 96) (.t 97)) none,
          .op (some 6) (.mov (.t 98)) none])))))
      (.reg [.op (some 99) (.bin .add (.t 76) (.c (.int .i64 1))) none,
        .op (some 76) (.mov (.t 99)) none])))))))
  (.seq (.reg [.op (some 100) (.mov (.t 6)) none,
    .op (some 101) (.mov (.t 0)) none,
    .op (some 102) (.nilck (.t 101)) none,
    .op (some 103) (.fieldA 2 (.t 102)) none,
    .op (some 104) (.load false 1 (.t 103)) none,
    .op (some 105) (.mov (.t 6)) none,
    .op (some 106) (.len (.t 105)) none,
    .op (some 107) (.bin .sub (.t 104) (.t 106)) none,
    .op (some 108) (.appZ 3 8 .i64 (.t 100) (.t 107)) none,
    .op (some 4) (.mov (.t 108)) none,
    .op (some 5) (.mov (.c (.bool true))) none])
  .ret))))))
def A69 : Ann := { n := 109, own := [], frz := [], ord := [(1, [0, 1, 2, 3, 4, 5, 6, 7, 8, 9, 10, 11, 12, 13, 14, 15, 16, 17, 18, 19, 20, 21, 22, 23, 24, 25, 26, 27, 28, 29, 30, 31, 32, 33, 34, 35, 36, 37, 38, 39, 40, 41], [[], [0], [0, 1], [0, 1, 2], [0, 1, 2, 3], [0, 1, 2, 3, 4], [0, 1, 2, 3], [0, 1, 2, 3, 6], [0, 1, 2, 3, 6, 7], [0, 1, 2, 3, 6, 7, 8], [0, 1, 2, 3, 4, 5, 6, 7, 8, 9], [0, 1, 2, 3, 4, 5, 6, 7, 8, 9, 10], [0, 1, 2, 3, 4, 5, 6, 7, 8, 9, 10, 11], [0, 1, 2, 3, 4, 5, 6, 7, 8, 9, 10, 11, 12], [0, 1, 2, 3, 4, 5, 6, 7, 8, 9, 10, 11, 12, 13], [0, 1, 2, 3, 4, 5, 6, 7, 8, 9, 10, 11, 12, 13, 14], [0, 1, 2, 3, 4, 5, 6, 7, 8, 9, 10, 11, 12, 13, 14, 15], [0, 1, 2, 3, 4, 5, 6, 7, 8, 9, 10, 11, 12, 13, 14, 15, 16], [0, 1, 2, 3, 4, 5, 6, 7, 8, 9, 10, 11, 12, 13, 14, 15, 16, 17], [0, 1, 2, 3, 4, 5, 6, 7, 8, 9, 10, 11, 12, 13, 14, 15, 16, 17, 18], [0, 1, 2, 3, 4, 5, 6, 7, 8, 9, 10, 11, 12, 13, 14, 15, 16, 17], [0, 1, 2, 3, 4, 5, 6, 7, 8, 9, 10, 11, 12, 13, 14, 15, 16, 17, 20], [0, 1, 2, 3, 4, 5, 6, 7, 8, 9, 10, 11, 12, 13, 14, 15, 16, 17, 20, 21], [0, 1, 2, 3, 4, 5, 6, 7, 8, 9, 10, 11, 12, 13, 14, 15, 16, 17, 20, 21, 22], [0, 1, 2, 3, 4, 5, 6, 7, 8, 9, 10, 11, 12, 13, 14, 15, 16, 17, 20, 21, 22, 23], [0, 1, 2, 3, 4, 5, 6, 7, 8, 9, 10, 11, 12, 13, 14, 15, 16, 17, 18, 19, 20, 21, 22, 23, 24], [0, 1, 2, 3, 4, 5, 6, 7, 8, 9, 10, 11, 12, 13, 14, 15, 16, 17, 18, 19, 20, 21, 22, 23, 24, 25], [0, 1, 2, 3, 4, 5, 6, 7, 8, 9, 10, 11, 12, 13, 14, 15, 16, 17, 18, 19, 20, 21, 22, 23, 24, 25, 26], [0, 1, 2, 3, 4, 5, 6, 7, 8, 9, 10, 11, 12, 13, 14, 15, 16, 17, 18, 19, 20, 21, 22, 23, 24, 25, 26, 27], [0, 1, 2, 3, 4, 5, 6, 7, 8, 9, 10, 11, 12, 13, 14, 15, 16, 17, 18, 19, 20, 21, 22, 23, 24, 25, 26, 27, 28], [0, 1, 2, 3, 4, 5, 6, 7, 8, 9, 10, 11, 12, 13, 14, 15, 16, 17, 18, 19, 20, 21, 22, 23, 24, 25, 26, 27, 28, 29], [0, 1, 2, 3, 4, 5, 6, 7, 8, 9, 10, 11, 12, 13, 14, 15, 16, 17, 18, 19, 20, 21, 22, 23, 24, 25, 26, 27], [0, 1, 2, 3, 4, 5, 6, 7, 8, 9, 10, 11, 12, 13, 14, 15, 16, 17, 18, 19, 20, 21, 22, 23, 24, 25, 26, 27, 31], [0, 1, 2, 3, 4, 5, 6, 7, 8, 9, 10, 11, 12, 13, 14, 15, 16, 17, 18, 19, 20, 21, 22, 23, 24, 25, 26, 27, 31, 32], [0, 1, 2, 3, 4, 5, 6, 7, 8, 9, 10, 11, 12, 13, 14, 15, 16, 17, 18, 19, 20, 21, 22, 23, 24, 25, 26, 27, 31, 32, 33], [0, 1, 2, 3, 4, 5, 6, 7, 8, 9, 10, 11, 12, 13, 14, 15, 16, 17, 18, 19, 20, 21, 22, 23, 24, 25, 26, 27], [0, 1, 2, 3, 4, 5, 6, 7, 8, 9, 10, 11, 12, 13, 14, 15, 16, 17, 18, 19, 20, 21, 22, 23, 24, 25, 26, 27, 35], [0, 1, 2, 3, 4, 5, 6, 7, 8, 9, 10, 11, 12, 13, 14, 15, 16, 17, 18, 19, 20, 21, 22, 23, 24, 25, 26, 27, 31, 32, 33, 34, 35, 36], [0, 1, 2, 3, 4, 5, 6, 7, 8, 9, 10, 11, 12, 13, 14, 15, 16, 17, 18, 19, 20, 21, 22, 23, 24, 25, 26, 27, 31, 32, 33, 34, 35, 36, 37], [0, 1, 2, 3, 4, 5, 6, 7, 8, 9, 10, 11, 12, 13, 14, 15, 16, 17, 18, 19, 20, 21, 22, 23, 24, 25, 26, 27, 31, 32, 33, 34, 35, 36, 37, 38], [0, 1, 2, 3, 4, 5, 6, 7, 8, 9, 10, 11, 12, 13, 14, 15, 16, 17, 18, 19, 20, 21, 22, 23, 24, 25, 26, 27, 28, 29, 30, 31, 32, 33, 34, 35, 36, 37, 38, 39], [0, 1, 2, 3, 4, 5, 6, 7, 8, 9, 10, 11, 12, 13, 14, 15, 16, 17, 18, 19, 20, 21, 22, 23, 24, 25, 26, 27, 28, 29, 30, 31, 32, 33, 34, 35, 36, 37, 38, 39, 40]]), (7, [0, 1, 2, 3, 4, 5, 6, 7, 8, 9], [[], [0], [0, 1], [0, 1, 2], [], [4], [0, 1, 2, 3, 4, 5], [0, 1, 2, 3, 4, 5, 6], [0, 1, 2, 3, 4, 5, 6, 7], []]), (10, [0, 1, 2, 3, 4, 5, 6, 7, 8, 9, 10, 11, 12, 13, 14], [[], [], [1], [], [1, 2, 3], [1, 2, 3, 4], [0], [0, 6], [0, 6, 7], [0, 1, 2, 3, 4, 5, 6, 7, 8], [0, 1, 2, 3, 4, 5, 6, 7, 8, 9], [0, 1, 2, 3, 4, 5, 6, 7, 8, 9, 10], [0, 1, 2, 3, 4, 5, 6, 7, 8, 9, 10], [0, 1, 2, 3, 4, 5, 6, 7, 8, 9, 10, 11], [0, 1, 2, 3, 4, 5, 6, 7, 8, 9, 10, 11, 12, 13]])] }
theorem facts69 : factsOf Tryd.prog A69 Tryd.f69 = some (c69, 109, [(4, none), (5, none)], false) := by kernel_rfl

/- 70 (*leasehold/layout.sum).words -/
def c70 : SCode := (.seq (.reg [.op (some 2) (.mov (.c (.int .i64 0))) none])
  (.seq (.reg [.op (some 3) (.mov (.t 0)) none,
    .op (some 4) (.nilck (.t 3)) none,
    .op (some 5) (.fieldA 2 (.t 4)) none,
    .op (some 6) (.load false 1 (.t 5)) none,
    .op (some 2) (.mov (.t 6)) none])
  .ret))
def A70 : Ann := { n := 7, own := [], frz := [], ord := [] }
theorem facts70 : factsOf Tryd.prog A70 Tryd.f70 = some (c70, 7, [(2, none)], false) := by kernel_rfl

/- 71 (*leasehold/layout.sum).mark -/
def c71 : SCode := (.seq (.reg [.op (some 4) (.mov (.c (.int .i64 0))) none,
    .op (some 5) (.mov (.c (.bool false))) none])
  (.seq (.block 0
  (.seq (.reg [.op (some 7) (.mov (.t 0)) none,
      .op (some 8) (.nilck (.t 7)) none,
      .op (some 9) (.fieldA 4 (.t 8)) none,
      .op (some 10) (.load false 1 (.t 9)) none,
      .op (some 11) (.bin .lss (.t 10) (.c (.int .i64 0))) none,
      .op (some 6) (.mov (.t 11)) none])
    (.cond (.t 6)
    (.seq (.reg [.op (some 12) (.mov (.t 1)) none,
        .op (some 4) (.mov (.t 12)) none,
        .op (some 5) (.mov (.c (.bool true))) none])
      .ret)
    (.seq (.reg [.op (some 14) (.mov (.t 1)) none,
        .op (some 15) (.mov (.t 0)) none,
        .op (some 16) (.nilck (.t 15)) none,
        .op (some 17) (.fieldA 4 (.t 16)) none,
        .op (some 18) (.load false 1 (.t 17)) none,
        .op (some 19) (.bin .eql (.t 14) (.t 18)) none,
        .op (some 13) (.mov (.t 19)) none])
      (.cond (.t 13)
      (.seq (.reg [.op (some 4) (.mov (.c (.int .i64 0))) none,
          .op (some 5) (.mov (.c (.bool false))) none])
        .ret)
      (.seq (.reg [.op (some 21) (.mov (.t 1)) none,
          .op (some 22) (.mov (.t 0)) none,
          .op (some 23) (.nilck (.t 22)) none,
          .op (some 24) (.fieldA 4 (.t 23)) none,
          .op (some 25) (.load false 1 (.t 24)) none,
          .op (some 26) (.bin .lss (.t 21) (.t 25)) none,
          .op (some 20) (.mov (.t 26)) none])
        (.cond (.t 20)
        (.seq (.reg [.op (some 27) (.mov (.t 0)) none,
            .op (some 28) (.nilck (.t 27)) none,
            .op (some 29) (.fieldA 5 (.t 28)) none,
            .op (some 30) (.load false 1 (.t 29)) none,
            .op (some 31) (.mov (.t 1)) none,
            .op (some 32) (.bin .add (.t 30) (.t 31)) none,
            .op (some 4) (.mov (.t 32)) none,
            .op (some 5) (.mov (.c (.bool true))) none])
          .ret)
        .skip)))))))
  (.seq (.reg [.op (some 33) (.mov (.t 0)) none,
    .op (some 34) (.nilck (.t 33)) none,
    .op (some 35) (.fieldA 5 (.t 34)) none,
    .op (some 36) (.load false 1 (.t 35)) none,
    .op (some 37) (.mov (.t 1)) none,
    .op (some 38) (.bin .add (.t 36) (.t 37)) none,
    .op (some 39) (.bin .sub (.t 38) (.c (.int .i64 1))) none,
    .op (some 4) (.mov (.t 39)) none,
    .op (some 5) (.mov (.c (.bool true))) none])
  .ret)))
def A71 : Ann := { n := 40, own := [], frz := [], ord := [] }
theorem facts71 : factsOf Tryd.prog A71 Tryd.f71 = some (c71, 40, [(4, none), (5, none)], false) := by kernel_rfl

/- 72 slices.ContainsFunc[[]int,int] -/
def c72 : SCode := (.seq (.reg [.op (some 4) (.mov (.c (.bool false))) none])
  (.seq (.reg [.op (some 5) (.mov (.t 0)) none,
    .op (some 6) (.mov (.t 1)) none,
    .op (some 7) (.call 74 [(.t 5), (.t 6)]) none,
    .op (some 8) (.bin .geq (.t 7) (.c (.int .i64 0))) none,
    .op (some 4) (.mov (.t 8)) none])
  .ret))
def A72 : Ann := { n := 9, own := [], frz := [], ord := [] }
theorem facts72 : factsOf Tryd.prog A72 Tryd.f72 = some (c72, 9, [(4, none)], false) := by kernel_rfl

/- 73 (*leasehold/layout.sum).get$1 -/
def c73 : SCode := (.seq (.reg [.op (some 2) (.mov (.c (.bool false))) none])
  (.seq (.reg [.op (some 3) (.mov (.t 0)) none,
    .op (some 4) (.bin .neq (.t 3) (.c (.int .i64 0))) none,
    .op (some 2) (.mov (.t 4)) none])
  .ret))
def A73 : Ann := { n := 5, own := [], frz := [], ord := [] }
theorem facts73 : factsOf Tryd.prog A73 Tryd.f73 = some (c73, 5, [(2, none)], false) := by kernel_rfl

/- 74 slices.IndexFunc[[]int,int] -/
def c74 : SCode := (.seq (.reg [.op (some 4) (.mov (.c (.int .i64 0))) none])
  (.seq (.seq (.reg [.op (some 6) (.mov (.t 0)) none,
    .op (some 7) (.len (.t 6)) none,
    .op (some 8) (.mov (.c (.int .i64 0))) none])
  (.block 0
  (.loop [9, 10, 5, 11, 12, 13, 14, 15, 16, 17, 4, 18, 8]
    (.seq (.reg [.op (some 9) (.bin .lss (.t 8) (.t 7)) none])
      (.seq (.cond (.t 9)
      .skip
      (.exit 0))
      (.seq (.block 1
      (.seq (.reg [.op (some 10) (.mov (.t 8)) none,
          .op (some 5) (.mov (.t 10)) none])
        (.seq (.reg [.op (some 11) (.mov (.t 1)) none,
          .op (some 12) (.mov (.t 0)) none,
          .op (some 13) (.mov (.t 5)) none,
          .op (some 14) (.idxA 1 (.t 12) (.t 13)) none,
          .op (some 15) (.load false 1 (.t 14)) none,
          .op (some 16) (.callV (.t 11) [(.t 15)]) none])
        (.cond (.t 16)
        (.seq (.reg [.op (some 17) (.mov (.t 5)) none,
            .op (some 4) (.mov (.t 17)) none])
          .ret)
        .skip))))
      (.reg [.op (some 18) (.bin .add (.t 8) (.c (.int .i64 1))) none,
        .op (some 8) (.mov (.t 18)) none])))))))
  (.seq (.reg [.op (some 4) (.mov (.c (.int .i64 (-1)))) none])
  .ret)))
def A74 : Ann := { n := 19, own := [], frz := [], ord := [] }
theorem facts74 : factsOf Tryd.prog A74 Tryd.f74 = some (c74, 19, [(4, none)], false) := by kernel_rfl

end Go.Fr.Tryd
