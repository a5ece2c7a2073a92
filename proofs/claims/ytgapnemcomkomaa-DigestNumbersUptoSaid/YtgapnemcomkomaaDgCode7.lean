/- Part of the proofs of the statements of this seat. -/
import Derived.Test.YtgapnemcomkomaaFW1
import Derived.Test.YtgapnemcomkomaaProg
/- Code with other annotations, printed by mkF.py. -/
set_option linter.unusedVariables false
namespace Go.Fr.Try
open Go Go.RowKit Go.Proofs Go.Fr
def yc7 : SCode := (.seq (.reg [.op (some 3) (.box 37 (.t 0)) none,
    .op (some 5) (.box 58 (.t 2)) none,
    .op (some 6) (.mov (.c (.bool false))) none])
  (.seq (.reg [.op (some 16) (.call 9 []) none,
    .op (some 7) (.mov (.t 16)) none])
  (.seq (.reg [.op (some 17) (.fieldA 2 (.t 3)) none,
    .op (some 18) (.load false 1 (.t 17)) none,
    .op (some 19) (.len (.t 18)) none,
    .op (some 8) (.mov (.t 19)) none])
  (.seq (.seq (.reg [.op (some 20) (.load true 8 (.t 3)) none,
    .op (some 21) (.call 12 [(.t 20)]) none,
    .op (some 22) (.un .not (.t 21)) none,
    .op (some 23) (.mov (.t 22)) none,
    .op (some 24) (.fieldA 0 (.t 3)) (some (23, false)),
    .op (some 25) (.load false 1 (.t 24)) (some (23, false)),
    .op (some 26) (.len (.t 25)) (some (23, false)),
    .op (some 27) (.bin .gtr (.t 26) (.c (.int .i64 10))) (some (23, false)),
    .op (some 28) (.pick (.t 23) (.c (.bool true)) (.t 27)) none,
    .op (some 29) (.mov (.t 28)) none,
    .op (some 30) (.mov (.t 1)) (some (29, false)),
    .op (some 31) (.bin .lss (.t 30) (.c (.int .i64 0))) (some (29, false)),
    .op (some 32) (.pick (.t 29) (.c (.bool true)) (.t 31)) none,
    .op (some 33) (.mov (.t 32)) none,
    .op (some 34) (.mov (.t 1)) (some (33, false)),
    .op (some 35) (.fieldA 0 (.t 3)) (some (33, false)),
    .op (some 36) (.load false 1 (.t 35)) (some (33, false)),
    .op (some 37) (.len (.t 36)) (some (33, false)),
    .op (some 38) (.bin .geq (.t 34) (.t 37)) (some (33, false)),
    .op (some 39) (.pick (.t 33) (.c (.bool true)) (.t 38)) none,
    .op (some 40) (.mov (.t 39)) none,
    .op (some 41) (.fieldA 1 (.t 5)) (some (40, false)),
    .op (some 42) (.load false 1 (.t 41)) (some (40, false)),
    .op (some 43) (.mov (.t 1)) (some (40, false)),
    .op (some 44) (.bin .eql (.t 42) (.t 43)) (some (40, false)),
    .op (some 45) (.pick (.t 40) (.c (.bool true)) (.t 44)) none,
    .op (some 46) (.mov (.t 45)) none,
    .op (some 47) (.fieldA 5 (.t 3)) (some (46, false)),
    .op (some 48) (.load false 1 (.t 47)) (some (46, false)),
    .op (some 49) (.len (.t 48)) (some (46, false)),
    .op (some 50) (.bin .gtr (.t 49) (.c (.int .i64 0))) (some (46, false)),
    .op (some 51) (.pick (.t 46) (.c (.bool true)) (.t 50)) none])
  (.cond (.t 51)
  (.seq (.reg [.op (some 52) (.mov (.t 7)) none,
      .op (some 6) (.mov (.t 52)) none])
    .ret)
  .skip))
  (.seq (.reg [.op (some 53) (.load true 8 (.t 3)) none,
    .op (some 9) (.alloc 37 [(.slice none 0 0), (.slice none 0 0), (.slice none 0 0), (.slice none 0 0), (.slice none 0 0), (.slice none 0 0), (.slice none 0 0), (.int .i64 0)]) none,
    .op none (.store 8 (.t 9) (.t 53)) none])
  (.seq (.reg [.op (some 54) (.fieldA 6 (.t 9)) none,
    .op none (.store 1 (.t 54) (.c (.slice none 0 0))) none])
  (.seq (.reg [.op (some 55) (.load true 5 (.t 5)) none,
    .op (some 56) (.mkR 58 1 5 [(.t 55)]) none,
    .op (some 57) (.fieldA 2 (.t 9)) none,
    .op none (.store 1 (.t 57) (.t 56)) none])
  (.seq (.seq (.reg [.op (some 10) (.mov (.c (.int .i64 0))) none])
  (.block 0
  (.loop [58, 59, 60, 63, 64, 65, 66, 67, 11, 68, 12, 69, 70, 71, 72, 73, 74, 75, 76, 77, 80, 81, 82, 83, 84, 85, 86, 87, 88, 13, 89, 90, 91, 92, 93, 94, 6, 95, 96, 97, 98, 99, 100, 101, 102, 103, 104, 105, 78, 79, 12, 106, 107, 108, 109, 110, 111, 61, 62, 10]
    (.seq (.seq (.reg [.op (some 58) (.mov (.t 10)) none,
        .op (some 59) (.mov (.t 8)) none,
        .op (some 60) (.bin .lss (.t 58) (.t 59)) none])
      (.cond (.t 60)
      .skip
      (.exit 0)))
      (.seq (.block 1
      (.seq (.reg [.op (some 63) (.fieldA 2 (.t 3)) none,
          .op (some 64) (.load false 1 (.t 63)) none,
          .op (some 65) (.mov (.t 10)) none,
          .op (some 66) (.idxA 5 (.t 64) (.t 65)) none,
          .op (some 67) (.load true 5 (.t 66)) none,
          .op (some 11) (.alloc 58 [(.string ⟨#[]⟩), (.int .i64 0), (.int .i64 0), (.slice none 0 0), (.int .i64 0)]) none,
          .op none (.store 5 (.t 11) (.t 67)) none])
        (.seq (.reg [.op (some 68) (.fieldA 3 (.t 11)) none,
          .op none (.store 1 (.t 68) (.c (.slice none 0 0))) none])
        (.seq (.seq (.reg [.op (some 12) (.mov (.c (.int .i64 0))) none])
        (.block 2
        (.loop [69, 70, 71, 72, 73, 74, 75, 76, 77, 80, 81, 82, 83, 84, 85, 86, 87, 88, 13, 89, 90, 91, 92, 93, 94, 6, 95, 96, 97, 98, 99, 100, 101, 102, 103, 104, 105, 78, 79, 12]
          (.seq (.seq (.reg [.op (some 69) (.mov (.t 12)) none,
              .op (some 70) (.fieldA 2 (.t 3)) none,
              .op (some 71) (.load false 1 (.t 70)) none,
              .op (some 72) (.mov (.t 10)) none,
              .op (some 73) (.idxA 5 (.t 71) (.t 72)) none,
              .op (some 74) (.fieldA 3 (.t 73)) none,
              .op (some 75) (.load false 1 (.t 74)) none,
              .op (some 76) (.len (.t 75)) none,
              .op (some 77) (.bin .lss (.t 69) (.t 76)) none])
            (.cond (.t 77)
            .skip
            (.exit 2)))
            (.seq (.block 3
            (.seq (.reg [.op (some 80) (.fieldA 2 (.t 3)) none,
                .op (some 81) (.load false 1 (.t 80)) none,
                .op (some 82) (.mov (.t 10)) none,
                .op (some 83) (.idxA 5 (.t 81) (.t 82)) none,
                .op (some 84) (.fieldA 3 (.t 83)) none,
                .op (some 85) (.load false 1 (.t 84)) none,
                .op (some 86) (.mov (.t 12)) none,
                .op (some 87) (.idxA 2 (.t 85) (.t 86)) none,
                .op (some 88) (.load true 2 (.t 87)) none,
                .op (some 13) (.alloc 60 [(.string ⟨#[]⟩), (.slice none 0 0)]) none,
                .op none (.store 2 (.t 13) (.t 88)) none])
              (.seq (.seq (.reg [.op (some 89) (.fieldA 1 (.t 13)) none,
                .op (some 90) (.load false 1 (.t 89)) none,
                .op (some 91) (.mov (.t 8)) none,
                .op (some 92) (.call 26 [(.t 90), (.t 91)]) none,
                .op (some 93) (.un .not (.t 92)) none])
              (.cond (.t 93)
              (.seq (.reg [.op (some 94) (.mov (.t 7)) none,
                  .op (some 6) (.mov (.t 94)) none])
                .ret)
              .skip))
              (.seq (.reg [.op (some 95) (.fieldA 1 (.t 13)) none,
                .op (some 96) (.load false 1 (.t 95)) none,
                .op (some 97) (.mov (.t 8)) none,
                .op (some 98) (.call 27 [(.t 96), (.t 97)]) none,
                .op (some 99) (.fieldA 1 (.t 13)) none,
                .op none (.store 1 (.t 99) (.t 98)) none])
              (.reg [.op (some 100) (.fieldA 3 (.t 11)) none,
                .op (some 101) (.load false 1 (.t 100)) none,
                .op (some 102) (.load true 2 (.t 13)) none,
                .op (some 103) (.mkF 60 1 2 [(.t 102)]) none,
                .op (some 104) (.app 60 2 40 [(.string ⟨#[]⟩), (.slice none 0 0)] (.t 101) (.t 103)) none,
                .op (some 105) (.fieldA 3 (.t 11)) none,
                .op none (.store 1 (.t 105) (.t 104)) none])))))
            (.reg [.op (some 78) (.mov (.t 12)) none,
              .op (some 79) (.bin .add (.t 78) (.c (.int .i64 1))) none,
              .op (some 12) (.mov (.t 79)) none]))))))
        (.reg [.frz 104,
          .op (some 106) (.fieldA 2 (.t 9)) none,
          .op (some 107) (.load false 1 (.t 106)) none,
          .op (some 108) (.load true 5 (.t 11)) none,
          .op (some 109) (.mkF 58 1 5 [(.t 108)]) none,
          .op (some 110) (.app 58 5 64 [(.string ⟨#[]⟩), (.int .i64 0), (.int .i64 0), (.slice none 0 0), (.int .i64 0)] (.t 107) (.t 109)) none,
          .op (some 111) (.fieldA 2 (.t 9)) none,
          .op none (.store 1 (.t 111) (.t 110)) none])))))
      (.reg [.op (some 61) (.mov (.t 10)) none,
        .op (some 62) (.bin .add (.t 61) (.c (.int .i64 1))) none,
        .op (some 10) (.mov (.t 62)) none]))))))
  (.seq (.seq (.reg [.op (some 14) (.mov (.c (.int .i64 0))) none])
  (.block 4
  (.loop [112, 113, 114, 115, 116, 119, 120, 121, 122, 123, 15, 124, 125, 126, 127, 128, 129, 130, 131, 132, 133, 134, 135, 136, 137, 6, 138, 139, 140, 141, 142, 143, 144, 145, 146, 147, 148, 149, 150, 151, 152, 153, 154, 155, 156, 157, 158, 117, 118, 14]
    (.seq (.seq (.reg [.op (some 112) (.mov (.t 14)) none,
        .op (some 113) (.fieldA 6 (.t 3)) none,
        .op (some 114) (.load false 1 (.t 113)) none,
        .op (some 115) (.len (.t 114)) none,
        .op (some 116) (.bin .lss (.t 112) (.t 115)) none])
      (.cond (.t 116)
      .skip
      (.exit 4)))
      (.seq (.block 5
      (.seq (.reg [.op (some 119) (.fieldA 6 (.t 3)) none,
          .op (some 120) (.load false 1 (.t 119)) none,
          .op (some 121) (.mov (.t 14)) none,
          .op (some 122) (.idxA 11 (.t 120) (.t 121)) none,
          .op (some 123) (.load true 11 (.t 122)) none,
          .op (some 15) (.alloc 30 [(.string ⟨#[]⟩), (.int .i64 0), (.int .i64 0), (.slice none 0 0), (.int .i64 0), (.int .i64 0), (.int .i64 0), (.slice none 0 0), (.slice none 0 0), (.slice none 0 0), (.slice none 0 0)]) none,
          .op none (.store 11 (.t 15) (.t 123)) none])
        (.seq (.seq (.reg [.op (some 124) (.fieldA 8 (.t 15)) none,
          .op (some 125) (.load false 1 (.t 124)) none,
          .op (some 126) (.mov (.t 8)) none,
          .op (some 127) (.call 26 [(.t 125), (.t 126)]) none,
          .op (some 128) (.un .not (.t 127)) none,
          .op (some 129) (.mov (.t 128)) none,
          .op (some 130) (.fieldA 5 (.t 15)) (some (129, false)),
          .op (some 131) (.load true 3 (.t 130)) (some (129, false)),
          .op (some 132) (.mkF 26 1 3 [(.t 131)]) (some (129, false)),
          .op (some 133) (.mov (.t 8)) (some (129, false)),
          .op (some 134) (.call 26 [(.t 132), (.t 133)]) (some (129, false)),
          .op (some 135) (.un .not (.t 134)) (some (129, false)),
          .op (some 136) (.pick (.t 129) (.c (.bool true)) (.t 135)) none])
        (.cond (.t 136)
        (.seq (.reg [.op (some 137) (.mov (.t 7)) none,
            .op (some 6) (.mov (.t 137)) none])
          .ret)
        .skip))
        (.seq (.reg [.op (some 138) (.fieldA 1 (.t 15)) none,
          .op (some 139) (.load false 1 (.t 138)) none,
          .op (some 140) (.mov (.t 1)) none,
          .op (some 141) (.bin .eql (.t 139) (.t 140)) none])
        (.cond (.t 141)
        (.seq (.reg [.op (some 142) (.fieldA 9 (.t 15)) none,
            .op none (.store 1 (.t 142) (.c (.slice none 0 0))) none])
          (.seq (.reg [.op (some 143) (.fieldA 8 (.t 15)) none,
            .op (some 144) (.load false 1 (.t 143)) none,
            .op (some 145) (.mov (.t 8)) none,
            .op (some 146) (.call 27 [(.t 144), (.t 145)]) none,
            .op (some 147) (.fieldA 8 (.t 15)) none,
            .op none (.store 1 (.t 147) (.t 146)) none])
          (.seq (.reg [.op (some 148) (.fieldA 5 (.t 15)) none,
            .op (some 149) (.load true 3 (.t 148)) none,
            .op (some 150) (.mov (.t 8)) none,
            .op (some 151) (.call 28 [(.t 149), (.t 150)]) none,
            .op (some 152) (.fieldA 5 (.t 15)) none,
            .op none (.store 3 (.t 152) (.t 151)) none])
          (.reg [.op (some 153) (.fieldA 6 (.t 9)) none,
            .op (some 154) (.load false 1 (.t 153)) none,
            .op (some 155) (.load true 11 (.t 15)) none,
            .op (some 156) (.mkF 30 1 11 [(.t 155)]) none,
            .op (some 157) (.app 30 11 176 [(.string ⟨#[]⟩), (.int .i64 0), (.int .i64 0), (.slice none 0 0), (.int .i64 0), (.int .i64 0), (.int .i64 0), (.slice none 0 0), (.slice none 0 0), (.slice none 0 0), (.slice none 0 0)] (.t 154) (.t 156)) none,
            .op (some 158) (.fieldA 6 (.t 9)) none,
            .op none (.store 1 (.t 158) (.t 157)) none]))))
        .skip)))))
      (.reg [.op (some 117) (.mov (.t 14)) none,
        .op (some 118) (.bin .add (.t 117) (.c (.int .i64 1))) none,
        .op (some 14) (.mov (.t 118)) none]))))))
  (.seq (.seq (.reg [.frz 56, .frz 157])
  (.regD [.op (some 159) (.mov (.t 7)) none,
    .op (some 160) (.mov (.t 159)) none,
    .op (some 161) (.loadD true 8 (.t 3)) (some (160, true)),
    .op (some 162) (.mov (.t 1)) (some (160, true)),
    .op (some 164) (.loadD true 8 (.t 9)) (some (160, true)),
    .op (some 165) (.mov (.t 1)) (some (160, true)),
    .op (some 163) (.callD 22 [(.t 161), (.t 162)]) (some (160, true)),
    .op (some 166) (.callD 22 [(.t 164), (.t 165)]) (some (160, true)),
    .op (some 167) (.bin .eql (.t 163) (.t 166)) (some (160, true)),
    .op (some 168) (.pick (.t 160) (.t 167) (.c (.bool false))) none,
    .op (some 6) (.mov (.t 168)) none]))
  .ret))))))))))
def yA7 : Ann := { n := 169, own := [56], frz := [(21, 0, [104]), (33, 0, [56, 157])], ord := [(33, [0, 1, 2, 3, 5, 6, 4, 7, 8, 9, 10], [[], [0], [0, 1], [0, 1], [0, 1, 2, 3], [0, 1], [0, 1], [0, 1, 2, 3, 4, 5, 6], [0, 1, 2, 3, 4, 5, 6, 7], [0, 1, 2, 3, 4, 5, 6, 7, 8], [0, 1, 2, 3, 4, 5, 6, 7, 8, 9]])] }
theorem yfacts7 : factsOf Try.prog yA7 Try.f7 = some (yc7, 169, [(6, none)], false) := by kernel_rfl

end Go.Fr.Try
