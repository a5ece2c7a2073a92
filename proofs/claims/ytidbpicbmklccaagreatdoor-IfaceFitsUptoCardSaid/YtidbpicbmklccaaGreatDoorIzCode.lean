/- Part of the proofs of the statements of this seat. -/
import Derived.Test.YtidbpicbmklccaaGreatDoorFW3
import Derived.Test.YtidbpicbmklccaaGreatDoorProg
set_option maxRecDepth 10000
set_option linter.unusedVariables false
set_option linter.unusedSimpArgs false
namespace Go.Fr.Tryz
open Go Go.RowKit Go.Proofs Go.Fr Go.Fr.T
def c3:SCode:=(.seq (.reg [.op (some 4) (.boxF 29 (.t 0)) none,
  .op (some 7) (.boxF 36 (.t 3)) none,
  .op (some 8) (.mov (.c (.bool false))) none])
 (.seq (.reg [.op (some 22) (.call 5 []) none,
  .op (some 9) (.mov (.t 22)) none])
 (.seq (.seq (.reg [.op (some 23) (.load true 8 (.t 4)) none,
  .op (some 24) (.call 6 [(.t 23)]) none,
  .op (some 25) (.un .not (.t 24)) none,
  .op (some 26) (.mov (.t 25)) none,
  .op (some 27) (.mov (.t 2)) (some (26,false)),
  .op (some 28) (.len (.t 27)) (some (26,false)),
  .op (some 29) (.bin .gtr (.t 28) (.c (.int .i64 40))) (some (26,false)),
  .op (some 30) (.pick (.t 26) (.c (.bool true)) (.t 29)) none,
  .op (some 31) (.mov (.t 30)) none,
  .op (some 32) (.load true 11 (.t 7)) (some (31,false)),
  .op (some 33) (.call 7 [(.t 32)]) (some (31,false)),
  .op (some 34) (.un .not (.t 33)) (some (31,false)),
  .op (some 35) (.pick (.t 31) (.c (.bool true)) (.t 34)) none])
 (.cond (.t 35)
 (.seq (.reg [.op (some 36) (.mov (.t 9)) none,
   .op (some 8) (.mov (.t 36)) none])
  .ret)
 .skip))
 (.seq (.reg [.op (some 38) (.load true 8 (.t 4)) none,
  .op (some 39) (.mov (.t 1)) none,
  .op (some 40) (.mov (.t 2)) none,
  .op (some 41) (.call 8 [(.t 38),(.t 39),(.t 40)]) none,
  .op (some 37) (.mov (.t 41)) none,
  .op (some 42) (.extr (.t 37) 0) none,
  .op (some 43) (.extr (.t 37) 1) none,
  .op (some 10) (.alloc 42 [(.string ⟨#[]⟩),(.slice none 0 0),(.slice none 0 0),(.int .i64 0),(.slice none 0 0)]) none,
  .op none (.store 5 (.t 10) (.t 42)) none,
  .op (some 11) (.mov (.t 43)) none])
 (.seq (.seq (.reg [.op (some 44) (.mov (.t 11)) none,
  .op (some 45) (.bin .neq (.t 44) (.c (.int .i64 0))) none])
 (.cond (.t 45)
 (.seq (.reg [.op (some 46) (.mov (.t 9)) none,
   .op (some 47) (.mov (.t 46)) none,
   .op (some 48) (.mov (.t 11)) (some (47,true)),
   .op (some 49) (.bin .eql (.t 48) (.c (.int .i64 1))) (some (47,true)),
   .op (some 50) (.pick (.t 47) (.t 49) (.c (.bool false))) none,
   .op (some 51) (.mov (.t 50)) none,
   .op (some 52) (.load true 5 (.t 10)) (some (51,true)),
   .op (some 53) (.build [(.string ⟨#[]⟩),(.slice none 0 0),(.slice none 0 0),(.int .i64 0),(.slice none 0 0)] []) (some (51,true)),
   .op (some 54) (.call 9 [(.t 52),(.t 53)]) (some (51,true)),
   .op (some 55) (.pick (.t 51) (.t 54) (.c (.bool false))) none,
   .op (some 8) (.mov (.t 55)) none])
  .ret)
 .skip))
 (.seq (.seq (.regD [.op (some 56) (.loadD true 5 (.t 10)) none,
  .op (some 57) (.callD 10 [(.t 56)]) none,
  .op (some 58) (.un .not (.t 57)) none,
  .op (some 59) (.mov (.t 58)) none,
  .op (some 60) (.fieldA 3 (.t 10)) (some (59,false)),
  .op (some 61) (.loadD false 1 (.t 60)) (some (59,false)),
  .op (some 62) (.loadD true 8 (.t 4)) (some (59,false)),
  .op (some 63) (.mov (.t 1)) (some (59,false)),
  .op (some 64) (.callD 11 [(.t 62),(.t 63)]) (some (59,false)),
  .op (some 65) (.bin .neq (.t 61) (.t 64)) (some (59,false)),
  .op (some 66) (.pick (.t 59) (.c (.bool true)) (.t 65)) none,
  .op (some 67) (.mov (.t 66)) none,
  .op (some 68) (.mov (.t 1)) (some (67,false)),
  .op (some 69) (.bin .lss (.t 68) (.c (.int .i64 0))) (some (67,false)),
  .op (some 70) (.pick (.t 67) (.c (.bool true)) (.t 69)) none,
  .op (some 71) (.mov (.t 70)) none,
  .op (some 72) (.mov (.t 1)) (some (71,false)),
  .op (some 73) (.fieldA 0 (.t 4)) (some (71,false)),
  .op (some 74) (.loadD false 1 (.t 73)) (some (71,false)),
  .op (some 75) (.len (.t 74)) (some (71,false)),
  .op (some 76) (.bin .geq (.t 72) (.t 75)) (some (71,false)),
  .op (some 77) (.pick (.t 71) (.c (.bool true)) (.t 76)) none,
  .op (some 78) (.mov (.t 77)) none,
  .op (some 79) (.mov (.t 1)) (some (78,false)),
  .op (some 80) (.fieldA 1 (.t 4)) (some (78,false)),
  .op (some 81) (.loadD false 1 (.t 80)) (some (78,false)),
  .op (some 82) (.len (.t 81)) (some (78,false)),
  .op (some 83) (.bin .geq (.t 79) (.t 82)) (some (78,false)),
  .op (some 84) (.pick (.t 78) (.c (.bool true)) (.t 83)) none,
  .op (some 85) (.mov (.t 84)) none,
  .op (some 86) (.fieldA 0 (.t 10)) (some (85,false)),
  .op (some 87) (.loadD false 1 (.t 86)) (some (85,false)),
  .op (some 88) (.fieldA 0 (.t 4)) (some (85,false)),
  .op (some 89) (.loadD false 1 (.t 88)) (some (85,false)),
  .op (some 90) (.mov (.t 1)) (some (85,false)),
  .op (some 91) (.idxA 1 (.t 89) (.t 90)) (some (85,false)),
  .op (some 92) (.loadD false 1 (.t 91)) (some (85,false)),
  .op (some 93) (.bin .neq (.t 87) (.t 92)) (some (85,false)),
  .op (some 94) (.pick (.t 85) (.c (.bool true)) (.t 93)) none,
  .op (some 95) (.mov (.t 94)) none,
  .op (some 96) (.fieldA 1 (.t 10)) (some (95,false)),
  .op (some 97) (.loadD false 1 (.t 96)) (some (95,false)),
  .op (some 98) (.len (.t 97)) (some (95,false)),
  .op (some 99) (.fieldA 1 (.t 4)) (some (95,false)),
  .op (some 100) (.loadD false 1 (.t 99)) (some (95,false)),
  .op (some 101) (.mov (.t 1)) (some (95,false)),
  .op (some 102) (.idxA 1 (.t 100) (.t 101)) (some (95,false)),
  .op (some 103) (.loadD false 1 (.t 102)) (some (95,false)),
  .op (some 104) (.len (.t 103)) (some (95,false)),
  .op (some 105) (.bin .neq (.t 98) (.t 104)) (some (95,false)),
  .op (some 106) (.pick (.t 95) (.c (.bool true)) (.t 105)) none,
  .op (some 107) (.mov (.t 106)) none,
  .op (some 108) (.fieldA 2 (.t 10)) (some (107,false)),
  .op (some 109) (.loadD false 1 (.t 108)) (some (107,false)),
  .op (some 110) (.len (.t 109)) (some (107,false)),
  .op (some 111) (.mov (.t 2)) (some (107,false)),
  .op (some 112) (.len (.t 111)) (some (107,false)),
  .op (some 113) (.bin .neq (.t 110) (.t 112)) (some (107,false)),
  .op (some 114) (.pick (.t 107) (.c (.bool true)) (.t 113)) none])
 (.cond (.t 114)
 (.seq (.reg [.op (some 8) (.mov (.c (.bool false))) none])
  .ret)
 .skip))
 (.seq (.seq (.reg [.op (some 12) (.mov (.c (.int .i64 0))) none])
 (.block 0
 (.loop [115,116,117,118,119,122,123,124,125,126,127,128,129,13,130,131,132,133,134,135,136,137,138,139,140,141,142,143,144,145,146,147,148,149,150,151,152,153,154,155,156,157,158,159,160,161,162,163,8,120,121,12]
  (.seq (.seq (.reg [.op (some 115) (.mov (.t 12)) none,
    .op (some 116) (.fieldA 1 (.t 10)) none,
    .op (some 117) (.load false 1 (.t 116)) none,
    .op (some 118) (.len (.t 117)) none,
    .op (some 119) (.bin .lss (.t 115) (.t 118)) none])
   (.cond (.t 119)
   .skip
   (.exit 0)))
   (.seq (.block 1
   (.seq (.reg [.op (some 122) (.fieldA 1 (.t 4)) none,
     .op (some 123) (.load false 1 (.t 122)) none,
     .op (some 124) (.mov (.t 1)) none,
     .op (some 125) (.idxA 1 (.t 123) (.t 124)) none,
     .op (some 126) (.load false 1 (.t 125)) none,
     .op (some 127) (.mov (.t 12)) none,
     .op (some 128) (.idxA 1 (.t 126) (.t 127)) none,
     .op (some 129) (.load false 1 (.t 128)) none,
     .op (some 13) (.mov (.t 129)) none])
    (.seq (.regD [.op (some 130) (.mov (.t 13)) none,
     .op (some 131) (.bin .lss (.t 130) (.c (.int .i64 0))) none,
     .op (some 132) (.mov (.t 131)) none,
     .op (some 133) (.mov (.t 13)) (some (132,false)),
     .op (some 134) (.fieldA 0 (.t 4)) (some (132,false)),
     .op (some 135) (.loadD false 1 (.t 134)) (some (132,false)),
     .op (some 136) (.len (.t 135)) (some (132,false)),
     .op (some 137) (.bin .geq (.t 133) (.t 136)) (some (132,false)),
     .op (some 138) (.pick (.t 132) (.c (.bool true)) (.t 137)) none,
     .op (some 139) (.mov (.t 138)) none,
     .op (some 140) (.fieldA 1 (.t 10)) (some (139,false)),
     .op (some 141) (.loadD false 1 (.t 140)) (some (139,false)),
     .op (some 142) (.mov (.t 12)) (some (139,false)),
     .op (some 143) (.idxA 1 (.t 141) (.t 142)) (some (139,false)),
     .op (some 144) (.loadD false 1 (.t 143)) (some (139,false)),
     .op (some 145) (.fieldA 0 (.t 4)) (some (139,false)),
     .op (some 146) (.loadD false 1 (.t 145)) (some (139,false)),
     .op (some 147) (.mov (.t 13)) (some (139,false)),
     .op (some 148) (.idxA 1 (.t 146) (.t 147)) (some (139,false)),
     .op (some 149) (.loadD false 1 (.t 148)) (some (139,false)),
     .op (some 150) (.bin .neq (.t 144) (.t 149)) (some (139,false)),
     .op (some 151) (.pick (.t 139) (.c (.bool true)) (.t 150)) none,
     .op (some 152) (.mov (.t 151)) none,
     .op (some 153) (.fieldA 2 (.t 10)) (some (152,false)),
     .op (some 154) (.loadD false 1 (.t 153)) (some (152,false)),
     .op (some 155) (.mov (.t 12)) (some (152,false)),
     .op (some 156) (.idxA 1 (.t 154) (.t 155)) (some (152,false)),
     .op (some 157) (.loadD false 1 (.t 156)) (some (152,false)),
     .op (some 158) (.mov (.t 2)) (some (152,false)),
     .op (some 159) (.mov (.t 12)) (some (152,false)),
     .op (some 160) (.idxA 1 (.t 158) (.t 159)) (some (152,false)),
     .op (some 161) (.loadD false 1 (.t 160)) (some (152,false)),
     .op (some 162) (.bin .neq (.t 157) (.t 161)) (some (152,false)),
     .op (some 163) (.pick (.t 152) (.c (.bool true)) (.t 162)) none])
    (.cond (.t 163)
    (.seq (.reg [.op (some 8) (.mov (.c (.bool false))) none])
     .ret)
    .skip))))
   (.reg [.op (some 120) (.mov (.t 12)) none,
    .op (some 121) (.bin .add (.t 120) (.c (.int .i64 1))) none,
    .op (some 12) (.mov (.t 121)) none]))))))
 (.seq (.reg [.op (some 164) (.load true 8 (.t 4)) none,
  .op (some 14) (.alloc 29 [(.slice none 0 0),(.slice none 0 0),(.slice none 0 0),(.slice none 0 0),(.slice none 0 0),(.slice none 0 0),(.slice none 0 0),(.int .i64 0)]) none,
  .op none (.store 8 (.t 14) (.t 164)) none])
 (.seq (.reg [.op (some 165) (.fieldA 6 (.t 14)) none,
  .op none (.store 1 (.t 165) (.c (.slice none 0 0))) none])
 (.seq (.seq (.reg [.op (some 15) (.mov (.c (.int .i64 0))) none])
 (.block 2
 (.loop [166,167,168,169,170,173,174,175,176,177,16,178,179,180,181,182,183,184,17,185,186,187,188,189,190,191,192,193,194,195,196,197,198,199,200,201,202,203,204,205,206,207,208,209,210,211,212,213,214,215,216,171,172,15]
  (.seq (.seq (.reg [.op (some 166) (.mov (.t 15)) none,
    .op (some 167) (.fieldA 6 (.t 4)) none,
    .op (some 168) (.load false 1 (.t 167)) none,
    .op (some 169) (.len (.t 168)) none,
    .op (some 170) (.bin .lss (.t 166) (.t 169)) none])
   (.cond (.t 170)
   .skip
   (.exit 2)))
   (.seq (.block 3
   (.seq (.reg [.op (some 173) (.fieldA 6 (.t 4)) none,
     .op (some 174) (.load false 1 (.t 173)) none,
     .op (some 175) (.mov (.t 15)) none,
     .op (some 176) (.idxA 11 (.t 174) (.t 175)) none,
     .op (some 177) (.load true 11 (.t 176)) none,
     .op (some 16) (.alloc 36 [(.string ⟨#[]⟩),(.int .i64 0),(.int .i64 0),(.slice none 0 0),(.int .i64 0),(.int .i64 0),(.int .i64 0),(.slice none 0 0),(.slice none 0 0),(.slice none 0 0),(.slice none 0 0)]) none,
     .op none (.store 11 (.t 16) (.t 177)) none])
    (.seq (.reg [.op (some 178) (.fieldA 4 (.t 16)) none,
     .op (some 179) (.load false 1 (.t 178)) none,
     .op (some 180) (.fieldA 8 (.t 16)) none,
     .op (some 181) (.load false 1 (.t 180)) none,
     .op (some 182) (.len (.t 181)) none,
     .op (some 183) (.mm false [(.t 179),(.t 182)]) none,
     .op (some 184) (.mm true [(.c (.int .i64 0)),(.t 183)]) none,
     .op (some 17) (.mov (.t 184)) none])
    (.seq (.reg [.op (some 185) (.fieldA 9 (.t 7)) none,
     .op (some 186) (.load false 1 (.t 185)) none,
     .op (some 187) (.fieldA 9 (.t 16)) none,
     .op none (.store 1 (.t 187) (.t 186)) none])
    (.seq (.regD [.op (some 189) (.fieldA 8 (.t 16)) none,
     .op (some 190) (.loadD false 1 (.t 189)) none,
     .op (some 191) (.mov (.t 17)) none,
     .op (some 192) (.slc 3 (.t 190) none (some (.t 191))) none,
     .op (some 194) (.fieldA 8 (.t 16)) none,
     .op (some 195) (.loadD false 1 (.t 194)) none,
     .op (some 196) (.mov (.t 17)) none,
     .op (some 197) (.slc 3 (.t 195) (some (.t 196)) none) none,
     .op (some 188) (.makeSD 33 3 0 (List.replicate 3 undef)) none,
     .op (some 193) (.appD 33 3 40 [(.int .i64 0),(.int .i64 0),(.slice none 0 0)] (.t 188) (.t 192)) none,
     .op (some 198) (.appD 33 3 40 [(.int .i64 0),(.int .i64 0),(.slice none 0 0)] (.t 193) (.t 197)) none,
     .op (some 199) (.fieldA 8 (.t 16)) none,
     .op none (.storeD 1 (.t 199) (.t 198)) none])
    (.seq (.seq (.reg [.op (some 200) (.mov (.t 17)) none,
     .op (some 201) (.fieldA 4 (.t 16)) none,
     .op (some 202) (.load false 1 (.t 201)) none,
     .op (some 203) (.bin .eql (.t 200) (.t 202)) none])
    (.cond (.t 203)
    (.reg [.op (some 204) (.fieldA 8 (.t 16)) none,
      .op (some 205) (.load false 1 (.t 204)) none,
      .op (some 206) (.fieldA 5 (.t 7)) none,
      .op (some 207) (.load true 3 (.t 206)) none,
      .op (some 208) (.mkF 33 1 3 [(.t 207)]) none,
      .op (some 209) (.app 33 3 40 [(.int .i64 0),(.int .i64 0),(.slice none 0 0)] (.t 205) (.t 208)) none,
      .op (some 210) (.fieldA 8 (.t 16)) none,
      .op none (.store 1 (.t 210) (.t 209)) none])
    .skip))
    (.reg [.frz 188,
     .op (some 211) (.fieldA 6 (.t 14)) none,
     .op (some 212) (.load false 1 (.t 211)) none,
     .op (some 213) (.load true 11 (.t 16)) none,
     .op (some 214) (.mkF 36 1 11 [(.t 213)]) none,
     .op (some 215) (.app 36 11 176 [(.string ⟨#[]⟩),(.int .i64 0),(.int .i64 0),(.slice none 0 0),(.int .i64 0),(.int .i64 0),(.int .i64 0),(.slice none 0 0),(.slice none 0 0),(.slice none 0 0),(.slice none 0 0)] (.t 212) (.t 214)) none,
     .op (some 216) (.fieldA 6 (.t 14)) none,
     .op none (.store 1 (.t 216) (.t 215)) none])))))))
   (.reg [.op (some 171) (.mov (.t 15)) none,
    .op (some 172) (.bin .add (.t 171) (.c (.int .i64 1))) none,
    .op (some 15) (.mov (.t 172)) none]))))))
 (.seq (.reg [.op (some 217) (.fieldA 1 (.t 7)) none,
  .op (some 218) (.load false 1 (.t 217)) none,
  .op (some 219) (.mov (.t 1)) none,
  .op (some 220) (.bin .neq (.t 218) (.t 219)) none,
  .op (some 18) (.mov (.t 220)) none])
 (.seq (.seq (.reg [.op (some 19) (.mov (.c (.int .i64 0))) none])
 (.block 4
 (.loop [221,222,223,224,225,228,229,230,231,232,233,234,235,236,237,238,239,240,18,226,227,19]
  (.seq (.seq (.reg [.op (some 221) (.mov (.t 19)) none,
    .op (some 222) (.fieldA 5 (.t 4)) none,
    .op (some 223) (.load false 1 (.t 222)) none,
    .op (some 224) (.len (.t 223)) none,
    .op (some 225) (.bin .lss (.t 221) (.t 224)) none])
   (.cond (.t 225)
   .skip
   (.exit 4)))
   (.seq (.block 5
   (.regD [.op (some 228) (.mov (.t 18)) none,
     .op (some 229) (.mov (.t 228)) none,
     .op (some 230) (.fieldA 5 (.t 4)) (some (229,true)),
     .op (some 231) (.loadD false 1 (.t 230)) (some (229,true)),
     .op (some 232) (.mov (.t 19)) (some (229,true)),
     .op (some 233) (.idxA 8 (.t 231) (.t 232)) (some (229,true)),
     .op (some 234) (.fieldA 7 (.t 233)) (some (229,true)),
     .op (some 235) (.loadD false 1 (.t 234)) (some (229,true)),
     .op (some 236) (.fieldA 6 (.t 4)) (some (229,true)),
     .op (some 237) (.loadD false 1 (.t 236)) (some (229,true)),
     .op (some 238) (.len (.t 237)) (some (229,true)),
     .op (some 239) (.bin .lss (.t 235) (.t 238)) (some (229,true)),
     .op (some 240) (.pick (.t 229) (.t 239) (.c (.bool false))) none,
     .op (some 18) (.mov (.t 240)) none]))
   (.reg [.op (some 226) (.mov (.t 19)) none,
    .op (some 227) (.bin .add (.t 226) (.c (.int .i64 1))) none,
    .op (some 19) (.mov (.t 227)) none]))))))
 (.seq (.seq (.reg [.op (some 241) (.mov (.t 18)) none])
 (.cond (.t 241)
 (.reg [.op (some 242) (.fieldA 6 (.t 14)) none,
   .op (some 243) (.load false 1 (.t 242)) none,
   .op (some 244) (.load true 11 (.t 7)) none,
   .op (some 245) (.mkF 36 1 11 [(.t 244)]) none,
   .op (some 246) (.app 36 11 176 [(.string ⟨#[]⟩),(.int .i64 0),(.int .i64 0),(.slice none 0 0),(.int .i64 0),(.int .i64 0),(.int .i64 0),(.slice none 0 0),(.slice none 0 0),(.slice none 0 0),(.slice none 0 0)] (.t 243) (.t 245)) none,
   .op (some 247) (.fieldA 6 (.t 14)) none,
   .op none (.store 1 (.t 247) (.t 246)) none])
 .skip))
 (.seq (.reg [.frz 215,
  .op (some 249) (.load true 8 (.t 14)) none,
  .op (some 250) (.mov (.t 1)) none,
  .op (some 251) (.mov (.t 2)) none,
  .op (some 252) (.call 8 [(.t 249),(.t 250),(.t 251)]) none,
  .op (some 248) (.mov (.t 252)) none,
  .op (some 253) (.extr (.t 248) 0) none,
  .op (some 254) (.extr (.t 248) 1) none,
  .op (some 20) (.alloc 42 [(.string ⟨#[]⟩),(.slice none 0 0),(.slice none 0 0),(.int .i64 0),(.slice none 0 0)]) none,
  .op none (.store 5 (.t 20) (.t 253)) none,
  .op (some 21) (.mov (.t 254)) none])
 (.seq (.reg [.op (some 255) (.mov (.t 9)) none,
  .op (some 256) (.mov (.t 255)) none,
  .op (some 257) (.mov (.t 21)) (some (256,true)),
  .op (some 258) (.bin .eql (.t 257) (.c (.int .i64 0))) (some (256,true)),
  .op (some 259) (.pick (.t 256) (.t 258) (.c (.bool false))) none,
  .op (some 260) (.mov (.t 259)) none,
  .op (some 261) (.load true 5 (.t 10)) (some (260,true)),
  .op (some 262) (.load true 5 (.t 20)) (some (260,true)),
  .op (some 263) (.call 9 [(.t 261),(.t 262)]) (some (260,true)),
  .op (some 264) (.pick (.t 260) (.t 263) (.c (.bool false))) none,
  .op (some 8) (.mov (.t 264)) none])
 .ret)))))))))))))))
def c4:SCode:=(.seq (.reg [.op (some 3) (.boxF 29 (.t 0)) none,
  .op (some 6) (.mov (.c (.bool false))) none])
 (.seq (.reg [.op (some 18) (.call 5 []) none,
  .op (some 7) (.mov (.t 18)) none])
 (.seq (.seq (.reg [.op (some 19) (.load true 8 (.t 3)) none,
  .op (some 20) (.call 6 [(.t 19)]) none,
  .op (some 21) (.un .not (.t 20)) none,
  .op (some 22) (.mov (.t 21)) none,
  .op (some 23) (.mov (.t 1)) (some (22,false)),
  .op (some 24) (.bin .lss (.t 23) (.c (.int .i64 0))) (some (22,false)),
  .op (some 25) (.pick (.t 22) (.c (.bool true)) (.t 24)) none,
  .op (some 26) (.mov (.t 25)) none,
  .op (some 27) (.mov (.t 1)) (some (26,false)),
  .op (some 28) (.fieldA 0 (.t 3)) (some (26,false)),
  .op (some 29) (.load false 1 (.t 28)) (some (26,false)),
  .op (some 30) (.len (.t 29)) (some (26,false)),
  .op (some 31) (.bin .geq (.t 27) (.t 30)) (some (26,false)),
  .op (some 32) (.pick (.t 26) (.c (.bool true)) (.t 31)) none,
  .op (some 33) (.mov (.t 32)) none,
  .op (some 34) (.mov (.t 1)) (some (33,false)),
  .op (some 35) (.fieldA 1 (.t 3)) (some (33,false)),
  .op (some 36) (.load false 1 (.t 35)) (some (33,false)),
  .op (some 37) (.len (.t 36)) (some (33,false)),
  .op (some 38) (.bin .geq (.t 34) (.t 37)) (some (33,false)),
  .op (some 39) (.pick (.t 33) (.c (.bool true)) (.t 38)) none])
 (.cond (.t 39)
 (.seq (.reg [.op (some 40) (.mov (.t 7)) none,
   .op (some 6) (.mov (.t 40)) none])
  .ret)
 .skip))
 (.seq (.reg [.op (some 8) (.mov (.c (.slice none 0 0))) none])
 (.seq (.reg [.op (some 9) (.mov (.c (.slice none 0 0))) none])
 (.seq (.seq (.reg [.op (some 10) (.mov (.c (.int .i64 0))) none])
 (.block 0
 (.loop [41,42,43,44,45,46,47,48,51,52,53,54,55,56,57,58,11,59,60,61,62,63,64,65,66,67,68,6,69,70,71,72,73,74,75,76,77,12,78,79,80,81,8,82,83,84,85,86,9,49,50,10]
  (.seq (.seq (.reg [.op (some 41) (.mov (.t 10)) none,
    .op (some 42) (.fieldA 1 (.t 3)) none,
    .op (some 43) (.load false 1 (.t 42)) none,
    .op (some 44) (.mov (.t 1)) none,
    .op (some 45) (.idxA 1 (.t 43) (.t 44)) none,
    .op (some 46) (.load false 1 (.t 45)) none,
    .op (some 47) (.len (.t 46)) none,
    .op (some 48) (.bin .lss (.t 41) (.t 47)) none])
   (.cond (.t 48)
   .skip
   (.exit 0)))
   (.seq (.block 1
   (.seq (.reg [.op (some 51) (.fieldA 1 (.t 3)) none,
     .op (some 52) (.load false 1 (.t 51)) none,
     .op (some 53) (.mov (.t 1)) none,
     .op (some 54) (.idxA 1 (.t 52) (.t 53)) none,
     .op (some 55) (.load false 1 (.t 54)) none,
     .op (some 56) (.mov (.t 10)) none,
     .op (some 57) (.idxA 1 (.t 55) (.t 56)) none,
     .op (some 58) (.load false 1 (.t 57)) none,
     .op (some 11) (.mov (.t 58)) none])
    (.seq (.seq (.reg [.op (some 59) (.mov (.t 11)) none,
     .op (some 60) (.bin .lss (.t 59) (.c (.int .i64 0))) none,
     .op (some 61) (.mov (.t 60)) none,
     .op (some 62) (.mov (.t 11)) (some (61,false)),
     .op (some 63) (.fieldA 0 (.t 3)) (some (61,false)),
     .op (some 64) (.load false 1 (.t 63)) (some (61,false)),
     .op (some 65) (.len (.t 64)) (some (61,false)),
     .op (some 66) (.bin .geq (.t 62) (.t 65)) (some (61,false)),
     .op (some 67) (.pick (.t 61) (.c (.bool true)) (.t 66)) none])
    (.cond (.t 67)
    (.seq (.reg [.op (some 68) (.mov (.t 7)) none,
      .op (some 6) (.mov (.t 68)) none])
     .ret)
    .skip))
    (.seq (.regD [.op (some 69) (.fieldA 0 (.t 3)) none,
     .op (some 70) (.loadD false 1 (.t 69)) none,
     .op (some 71) (.mov (.t 11)) none,
     .op (some 72) (.idxA 1 (.t 70) (.t 71)) none,
     .op (some 73) (.loadD false 1 (.t 72)) none,
     .op (some 74) (.loadD true 8 (.t 3)) none,
     .op (some 75) (.mov (.t 11)) none,
     .op (some 76) (.callD 11 [(.t 74),(.t 75)]) none,
     .op (some 77) (.build [(.string ⟨#[]⟩),(.slice none 0 0),(.slice none 0 0),(.int .i64 0),(.slice none 0 0)] [(0,1,(.t 73)),(3,1,(.t 76))]) none,
     .op (some 12) (.allocD 42 [(.string ⟨#[]⟩),(.slice none 0 0),(.slice none 0 0),(.int .i64 0),(.slice none 0 0)]) none,
     .op none (.storeD 5 (.t 12) (.t 77)) none])
    (.seq (.reg [.op (some 78) (.mov (.t 8)) none,
     .op (some 79) (.load true 5 (.t 12)) none,
     .op (some 80) (.mkF 42 1 5 [(.t 79)]) none,
     .op (some 81) (.app 42 5 96 [(.string ⟨#[]⟩),(.slice none 0 0),(.slice none 0 0),(.int .i64 0),(.slice none 0 0)] (.t 78) (.t 80)) none,
     .op (some 8) (.mov (.t 81)) none])
    (.reg [.op (some 82) (.mov (.t 9)) none,
     .op (some 83) (.fieldA 3 (.t 12)) none,
     .op (some 84) (.load false 1 (.t 83)) none,
     .op (some 85) (.mkF 3 1 1 [(.t 84)]) none,
     .op (some 86) (.app 3 1 8 [(.int .i64 0)] (.t 82) (.t 85)) none,
     .op (some 9) (.mov (.t 86)) none]))))))
   (.reg [.op (some 49) (.mov (.t 10)) none,
    .op (some 50) (.bin .add (.t 49) (.c (.int .i64 1))) none,
    .op (some 10) (.mov (.t 50)) none]))))))
 (.seq (.reg [.frz 81,
  .frz 86,
  .op (some 88) (.load true 8 (.t 3)) none,
  .op (some 89) (.mov (.t 1)) none,
  .op (some 90) (.mov (.t 9)) none,
  .op (some 91) (.call 8 [(.t 88),(.t 89),(.t 90)]) none,
  .op (some 87) (.mov (.t 91)) none,
  .op (some 92) (.extr (.t 87) 0) none,
  .op (some 93) (.extr (.t 87) 1) none,
  .op (some 13) (.alloc 42 [(.string ⟨#[]⟩),(.slice none 0 0),(.slice none 0 0),(.int .i64 0),(.slice none 0 0)]) none,
  .op none (.store 5 (.t 13) (.t 92)) none,
  .op (some 14) (.mov (.t 93)) none])
 (.seq (.seq (.reg [.op (some 94) (.mov (.t 14)) none,
  .op (some 95) (.bin .neq (.t 94) (.c (.int .i64 0))) none,
  .op (some 96) (.mov (.t 95)) none,
  .op (some 97) (.load true 5 (.t 13)) (some (96,false)),
  .op (some 98) (.mov (.t 8)) (some (96,false)),
  .op (some 99) (.call 12 [(.t 97),(.t 98)]) (some (96,false)),
  .op (some 100) (.un .not (.t 99)) (some (96,false)),
  .op (some 101) (.pick (.t 96) (.c (.bool true)) (.t 100)) none])
 (.cond (.t 101)
 (.seq (.reg [.op (some 6) (.mov (.c (.bool false))) none])
  .ret)
 .skip))
 (.seq (.reg [.op (some 102) (.mov (.t 8)) none,
  .op (some 103) (.len (.t 102)) none,
  .op (some 15) (.mov (.t 103)) none])
 (.seq (.seq (.reg [.op (some 104) (.mov (.t 15)) none,
  .op (some 105) (.bin .eql (.t 104) (.c (.int .i64 0))) none])
 (.cond (.t 105)
 (.seq (.reg [.op (some 106) (.mov (.t 7)) none,
   .op (some 107) (.mov (.t 106)) none,
   .op (some 108) (.load true 5 (.t 13)) (some (107,true)),
   .op (some 109) (.build [(.string ⟨#[]⟩),(.slice none 0 0),(.slice none 0 0),(.int .i64 0),(.slice none 0 0)] []) (some (107,true)),
   .op (some 110) (.mkF 42 1 5 [(.t 109)]) (some (107,true)),
   .op (some 111) (.call 12 [(.t 108),(.t 110)]) (some (107,true)),
   .op (some 112) (.un .not (.t 111)) (some (107,true)),
   .op (some 113) (.pick (.t 107) (.t 112) (.c (.bool false))) none,
   .op (some 6) (.mov (.t 113)) none])
  .ret)
 .skip))
 (.seq (.reg [.op (some 114) (.mkF 42 0 5 []) none,
  .op (some 115) (.mov (.t 8)) none,
  .op (some 116) (.app 42 5 96 [(.string ⟨#[]⟩),(.slice none 0 0),(.slice none 0 0),(.int .i64 0),(.slice none 0 0)] (.t 114) (.t 115)) none,
  .op (some 16) (.mov (.t 116)) none])
 (.seq (.reg [.op (some 117) (.mov (.t 16)) none,
  .op (some 118) (.mov (.t 15)) none,
  .op (some 119) (.bin .sub (.t 118) (.c (.int .i64 1))) none,
  .op (some 120) (.idxA 5 (.t 117) (.t 119)) none,
  .op (some 121) (.fieldA 3 (.t 120)) none,
  .op (some 122) (.load false 1 (.t 121)) none,
  .op (some 123) (.bin .add (.t 122) (.c (.int .i64 1))) none,
  .op (some 124) (.idxA 5 (.t 117) (.t 119)) none,
  .op (some 125) (.fieldA 3 (.t 124)) none,
  .op none (.store 1 (.t 125) (.t 123)) none])
 (.seq (.reg [.op (some 126) (.mkF 42 0 5 []) none,
  .op (some 127) (.mov (.t 8)) none,
  .op (some 128) (.app 42 5 96 [(.string ⟨#[]⟩),(.slice none 0 0),(.slice none 0 0),(.int .i64 0),(.slice none 0 0)] (.t 126) (.t 127)) none,
  .op (some 17) (.mov (.t 128)) none])
 (.seq (.reg [.op (some 129) (.mov (.t 17)) none,
  .op (some 130) (.mov (.t 15)) none,
  .op (some 131) (.bin .sub (.t 130) (.c (.int .i64 1))) none,
  .op (some 132) (.mov (.t 2)) none,
  .op (some 133) (.idxA 5 (.t 129) (.t 131)) none,
  .op (some 134) (.fieldA 0 (.t 133)) none,
  .op none (.store 1 (.t 134) (.t 132)) none])
 (.seq (.seq (.reg [.frz 116,.frz 128])
 (.regD [.op (some 135) (.mov (.t 7)) none,
  .op (some 136) (.mov (.t 135)) none,
  .op (some 137) (.loadD true 5 (.t 13)) (some (136,true)),
  .op (some 138) (.mov (.t 8)) (some (136,true)),
  .op (some 139) (.mov (.t 15)) (some (136,true)),
  .op (some 140) (.bin .sub (.t 139) (.c (.int .i64 1))) (some (136,true)),
  .op (some 141) (.slc 5 (.t 138) none (some (.t 140))) (some (136,true)),
  .op (some 142) (.callD 12 [(.t 137),(.t 141)]) (some (136,true)),
  .op (some 143) (.un .not (.t 142)) (some (136,true)),
  .op (some 144) (.pick (.t 136) (.t 143) (.c (.bool false))) none,
  .op (some 145) (.mov (.t 144)) none,
  .op (some 146) (.loadD true 5 (.t 13)) (some (145,true)),
  .op (some 147) (.mov (.t 16)) (some (145,true)),
  .op (some 148) (.callD 12 [(.t 146),(.t 147)]) (some (145,true)),
  .op (some 149) (.un .not (.t 148)) (some (145,true)),
  .op (some 150) (.pick (.t 145) (.t 149) (.c (.bool false))) none,
  .op (some 151) (.mov (.t 150)) none,
  .op (some 152) (.loadD true 5 (.t 13)) (some (151,true)),
  .op (some 153) (.mov (.t 17)) (some (151,true)),
  .op (some 155) (.mov (.t 2)) (some (151,true)),
  .op (some 156) (.mov (.t 8)) (some (151,true)),
  .op (some 157) (.mov (.t 15)) (some (151,true)),
  .op (some 158) (.bin .sub (.t 157) (.c (.int .i64 1))) (some (151,true)),
  .op (some 159) (.idxA 5 (.t 156) (.t 158)) (some (151,true)),
  .op (some 160) (.fieldA 0 (.t 159)) (some (151,true)),
  .op (some 161) (.loadD false 1 (.t 160)) (some (151,true)),
  .op (some 162) (.bin .eql (.t 155) (.t 161)) (some (151,true)),
  .op (some 154) (.callD 12 [(.t 152),(.t 153)]) (some (151,true)),
  .op (some 163) (.eqB false (.t 154) (.t 162)) (some (151,true)),
  .op (some 164) (.pick (.t 151) (.t 163) (.c (.bool false))) none,
  .op (some 6) (.mov (.t 164)) none]))
 .ret)))))))))))))))
def A4:Ann:={ n:=165,own:=[3],frz:=[(15,0,[81,86]),(25,0,[116,128])],ord:=[(12,[0,1,2,3,4,5,6,7,8,9,10],[[],[0],[],[0,1,2],[0,1,2,3],[],[],[5,6],[0,1,2,3,4,5,6,7],[],[0,1,2,3,4,5,6,7,8,9]]),(25,[0,1,2,3,4,5,6,7,8,9,10,11,12,13,14,15,16,17,18,20,21,22,23,24,25,26,27,19,28,29,30],[[],[0],[0,1],[0,1],[0,1],[0,1,4],[0,1,3,4,5],[0,1,2,3,4,5,6],[0,1,2,3,4,5,6,7],[0,1,2,3,4,5,6,7,8],[0,1,2,3,4,5,6,7,8,9],[0,1,2,3,4,5,6,7,8,9,10],[0,1,2,3,4,5,6,7,8,9,10],[0,1,2,3,4,5,6,7,8,9,10,11,12],[0,1,2,3,4,5,6,7,8,9,10,11,12,13],[0,1,2,3,4,5,6,7,8,9,10,11,12,13,14],[0,1,2,3,4,5,6,7,8,9,10,11,12,13,14,15],[0,1,2,3,4,5,6,7,8,9,10,11,12,13,14,15,16],[0,1,2,3,4,5,6,7,8,9,10,11,12,13,14,15,16],[0,1,2,3,4,5,6,7,8,9,10,11,12,13,14,15,16,17,18],[0,1,2,3,4,5,6,7,8,9,10,11,12,13,14,15,16],[0,1,2,3,4,5,6,7,8,9,10,11,12,13,14,15,16],[0,1,2,3,4,5,6,7,8,9,10,11,12,13,14,15,16],[0,1,2,3,4,5,6,7,8,9,10,11,12,13,14,15,16,22],[0,1,2,3,4,5,6,7,8,9,10,11,12,13,14,15,16,21,22,23],[0,1,2,3,4,5,6,7,8,9,10,11,12,13,14,15,16,21,22,23,24],[0,1,2,3,4,5,6,7,8,9,10,11,12,13,14,15,16,21,22,23,24,25],[0,1,2,3,4,5,6,7,8,9,10,11,12,13,14,15,16,20,21,22,23,24,25,26],[0,1,2,3,4,5,6,7,8,9,10,11,12,13,14,15,16,17,18,19,20,21,22,23,24,25,26,27],[0,1,2,3,4,5,6,7,8,9,10,11,12,13,14,15,16,17,18,19,20,21,22,23,24,25,26,27,28],[0,1,2,3,4,5,6,7,8,9,10,11,12,13,14,15,16,17,18,19,20,21,22,23,24,25,26,27,28,29]])] }
theorem facts4:factsOf Tryz.prog A4 Tryz.f4 = some (c4,165,[(6,none)],false):=by kernel_rfl
def c5:SCode:=(.seq (.reg [.op (some 0) (.mov (.c (.bool false))) none])
 (.seq (.reg [.op (some 14) (.call 14 []) none,
  .op (some 15) (.call 13 [(.t 14)]) none,
  .op (some 1) (.mov (.t 15)) none])
 (.seq (.seq (.reg [.op (some 16) (.mov (.t 1)) none,
  .op (some 17) (.len (.t 16)) none,
  .op (some 18) (.bin .neq (.t 17) (.c (.int .i64 14))) none])
 (.cond (.t 18)
 (.seq (.reg [.op (some 0) (.mov (.c (.bool false))) none])
  .ret)
 .skip))
 (.seq (.reg [.op (some 19) (.mov (.t 1)) none,
  .op (some 20) (.slc 1 (.t 19) none (some (.c (.int .i64 10)))) none,
  .op (some 21) (.call 15 [(.t 20)]) none,
  .op (some 2) (.mov (.t 21)) none])
 (.seq (.regD [.op (some 22) (.mov (.t 1)) none,
  .op (some 23) (.idxA 1 (.t 22) (.c (.int .i64 10))) none,
  .op (some 24) (.loadD false 1 (.t 23)) none,
  .op (some 25) (.conv .i64 (.t 24)) none,
  .op (some 26) (.bin .mul (.t 25) (.c (.int .i64 16777216))) none,
  .op (some 27) (.mov (.t 1)) none,
  .op (some 28) (.idxA 1 (.t 27) (.c (.int .i64 11))) none,
  .op (some 29) (.loadD false 1 (.t 28)) none,
  .op (some 30) (.conv .i64 (.t 29)) none,
  .op (some 31) (.bin .mul (.t 30) (.c (.int .i64 65536))) none,
  .op (some 32) (.bin .add (.t 26) (.t 31)) none,
  .op (some 33) (.mov (.t 1)) none,
  .op (some 34) (.idxA 1 (.t 33) (.c (.int .i64 12))) none,
  .op (some 35) (.loadD false 1 (.t 34)) none,
  .op (some 36) (.conv .i64 (.t 35)) none,
  .op (some 37) (.bin .mul (.t 36) (.c (.int .i64 256))) none,
  .op (some 38) (.bin .add (.t 32) (.t 37)) none,
  .op (some 39) (.mov (.t 1)) none,
  .op (some 40) (.idxA 1 (.t 39) (.c (.int .i64 13))) none,
  .op (some 41) (.loadD false 1 (.t 40)) none,
  .op (some 42) (.conv .i64 (.t 41)) none,
  .op (some 43) (.bin .add (.t 38) (.t 42)) none,
  .op (some 3) (.mov (.t 43)) none])
 (.seq (.reg [.op (some 45) (.mov (.t 1)) none,
  .op (some 46) (.call 16 [(.t 45)]) none,
  .op (some 44) (.mov (.t 46)) none,
  .op (some 47) (.extr (.t 44) 0) none,
  .op (some 48) (.extr (.t 44) 1) none,
  .op (some 4) (.alloc 42 [(.string ⟨#[]⟩),(.slice none 0 0),(.slice none 0 0),(.int .i64 0),(.slice none 0 0)]) none,
  .op none (.store 5 (.t 4) (.t 47)) none,
  .op (some 5) (.mov (.t 48)) none])
 (.seq (.reg [.op (some 50) (.mov (.t 1)) none,
  .op (some 51) (.slc 1 (.t 50) none (some (.c (.int .i64 13)))) none,
  .op (some 52) (.call 16 [(.t 51)]) none,
  .op (some 49) (.mov (.t 52)) none,
  .op (some 53) (.extr (.t 49) 0) none,
  .op (some 54) (.extr (.t 49) 1) none,
  .op (some 6) (.alloc 42 [(.string ⟨#[]⟩),(.slice none 0 0),(.slice none 0 0),(.int .i64 0),(.slice none 0 0)]) none,
  .op none (.store 5 (.t 6) (.t 53)) none,
  .op (some 7) (.mov (.t 54)) none])
 (.seq (.reg [.op (some 56) (.call 16 [(.c (.slice none 0 0))]) none,
  .op (some 55) (.mov (.t 56)) none,
  .op (some 57) (.extr (.t 55) 0) none,
  .op (some 58) (.extr (.t 55) 1) none,
  .op (some 8) (.alloc 42 [(.string ⟨#[]⟩),(.slice none 0 0),(.slice none 0 0),(.int .i64 0),(.slice none 0 0)]) none,
  .op none (.store 5 (.t 8) (.t 57)) none,
  .op (some 9) (.mov (.t 58)) none])
 (.seq (.reg [.op (some 60) (.build [(.slice none 0 0),(.slice none 0 0),(.slice none 0 0),(.slice none 0 0),(.slice none 0 0),(.slice none 0 0),(.slice none 0 0),(.int .i64 0)] []) none,
  .op (some 61) (.call 8 [(.t 60),(.c (.int .i64 0)),(.c (.slice none 0 0))]) none,
  .op (some 59) (.mov (.t 61)) none,
  .op (some 62) (.extr (.t 59) 0) none,
  .op (some 63) (.extr (.t 59) 1) none,
  .op (some 10) (.alloc 42 [(.string ⟨#[]⟩),(.slice none 0 0),(.slice none 0 0),(.int .i64 0),(.slice none 0 0)]) none,
  .op none (.store 5 (.t 10) (.t 62)) none,
  .op (some 11) (.mov (.t 63)) none])
 (.seq (.reg [.op (some 64) (.call 14 []) none,
  .op (some 12) (.alloc 42 [(.string ⟨#[]⟩),(.slice none 0 0),(.slice none 0 0),(.int .i64 0),(.slice none 0 0)]) none,
  .op none (.store 5 (.t 12) (.t 64)) none])
 (.seq (.reg [.op (some 65) (.fieldA 3 (.t 12)) none,
  .op none (.store 1 (.t 65) (.c (.int .i64 1))) none])
 (.seq (.regD [.op (some 66) (.mov (.t 1)) none,
  .op (some 67) (.slc 1 (.t 66) none (some (.c (.int .i64 10)))) none,
  .op (some 68) (.b2sD (.t 67)) none,
  .op (some 69) (.mkFD 5 10 1 [(.c (.int .u8 2)),(.c (.int .u8 109)),(.c (.int .u8 0)),(.c (.int .u8 0)),(.c (.int .u8 174)),(.c (.int .u8 191)),(.c (.int .u8 214)),(.c (.int .u8 6)),(.c (.int .u8 2)),(.c (.int .u8 1))]) none,
  .op (some 70) (.b2sD (.t 69)) none,
  .op (some 71) (.bin .eql (.t 68) (.t 70)) none,
  .op (some 72) (.mov (.t 71)) none,
  .op (some 73) (.mov (.t 3)) (some (72,true)),
  .op (some 74) (.mov (.t 2)) (some (72,true)),
  .op (some 75) (.bin .eql (.t 73) (.t 74)) (some (72,true)),
  .op (some 76) (.pick (.t 72) (.t 75) (.c (.bool false))) none,
  .op (some 77) (.mov (.t 76)) none,
  .op (some 78) (.mov (.t 5)) (some (77,true)),
  .op (some 79) (.bin .eql (.t 78) (.c (.int .i64 0))) (some (77,true)),
  .op (some 80) (.pick (.t 77) (.t 79) (.c (.bool false))) none,
  .op (some 81) (.mov (.t 80)) none,
  .op (some 82) (.loadD true 5 (.t 4)) (some (81,true)),
  .op (some 83) (.callD 14 []) (some (81,true)),
  .op (some 84) (.callD 9 [(.t 82),(.t 83)]) (some (81,true)),
  .op (some 85) (.pick (.t 81) (.t 84) (.c (.bool false))) none,
  .op (some 13) (.mov (.t 85)) none])
 (.seq (.reg [.op (some 86) (.mov (.t 13)) none,
  .op (some 87) (.mov (.t 86)) none,
  .op (some 88) (.mov (.t 7)) (some (87,true)),
  .op (some 89) (.bin .eql (.t 88) (.c (.int .i64 17))) (some (87,true)),
  .op (some 90) (.pick (.t 87) (.t 89) (.c (.bool false))) none,
  .op (some 91) (.mov (.t 90)) none,
  .op (some 92) (.mov (.t 9)) (some (91,true)),
  .op (some 93) (.bin .eql (.t 92) (.c (.int .i64 16))) (some (91,true)),
  .op (some 94) (.pick (.t 91) (.t 93) (.c (.bool false))) none,
  .op (some 95) (.mov (.t 94)) none,
  .op (some 96) (.mov (.t 11)) (some (95,true)),
  .op (some 97) (.bin .eql (.t 96) (.c (.int .i64 1))) (some (95,true)),
  .op (some 98) (.pick (.t 95) (.t 97) (.c (.bool false))) none,
  .op (some 99) (.mov (.t 98)) none,
  .op (some 100) (.load true 5 (.t 12)) (some (99,true)),
  .op (some 101) (.call 13 [(.t 100)]) (some (99,true)),
  .op (some 102) (.len (.t 101)) (some (99,true)),
  .op (some 103) (.bin .eql (.t 102) (.c (.int .i64 0))) (some (99,true)),
  .op (some 104) (.pick (.t 99) (.t 103) (.c (.bool false))) none,
  .op (some 105) (.mov (.t 104)) none,
  .op (some 106) (.call 14 []) (some (105,true)),
  .op (some 107) (.call 12 [(.t 106),(.c (.slice none 0 0))]) (some (105,true)),
  .op (some 108) (.pick (.t 105) (.t 107) (.c (.bool false))) none,
  .op (some 109) (.mov (.t 108)) none,
  .op (some 110) (.call 14 []) (some (109,true)),
  .op (some 111) (.call 14 []) (some (109,true)),
  .op (some 112) (.mkF 42 1 5 [(.t 111)]) (some (109,true)),
  .op (some 113) (.call 12 [(.t 110),(.t 112)]) (some (109,true)),
  .op (some 114) (.un .not (.t 113)) (some (109,true)),
  .op (some 115) (.pick (.t 109) (.t 114) (.c (.bool false))) none,
  .op (some 0) (.mov (.t 115)) none])
 .ret)))))))))))))
def A5:Ann:={ n:=116,own:=[],frz:=[],ord:=[(5,[0,1,2,3,4,5,6,7,8,9,10,11,12,13,14,15,16,17,18,19,20,21,22],[[],[0],[0,1],[0,1,2],[0,1,2,3],[],[5],[5,6],[5,6,7],[5,6,7,8],[0,1,2,3,4,5,6,7,8,9],[],[11],[11,12],[11,12,13],[11,12,13,14],[0,1,2,3,4,5,6,7,8,9,10,11,12,13,14,15],[],[17],[17,18],[17,18,19],[0,1,2,3,4,5,6,7,8,9,10,11,12,13,14,15,16,17,18,19,20],[0,1,2,3,4,5,6,7,8,9,10,11,12,13,14,15,16,17,18,19,20,21]]),(12,[0,1,2,3,4,5,6,7,8,9,10,11,12,13,14,15,16,17,18,19,20],[[],[0],[0,1],[],[3],[0,1,2,3,4],[0,1,2,3,4,5],[0,1,2,3,4,5,6],[0,1,2,3,4,5,6],[0,1,2,3,4,5,6,7,8],[0,1,2,3,4,5,6,7,8,9],[0,1,2,3,4,5,6,7,8,9,10],[0,1,2,3,4,5,6,7,8,9,10,11],[0,1,2,3,4,5,6,7,8,9,10,11,12],[0,1,2,3,4,5,6,7,8,9,10,11,12,13],[0,1,2,3,4,5,6,7,8,9,10,11,12,13,14],[0,1,2,3,4,5,6,7,8,9,10,11,12,13,14,15],[0,1,2,3,4,5,6,7,8,9,10,11,12,13,14,15],[0,1,2,3,4,5,6,7,8,9,10,11,12,13,14,15,16,17],[0,1,2,3,4,5,6,7,8,9,10,11,12,13,14,15,16,17,18],[0,1,2,3,4,5,6,7,8,9,10,11,12,13,14,15,16,17,18,19]])] }
theorem facts5:factsOf Tryz.prog A5 Tryz.f5 = some (c5,116,[(0,none)],false):=by kernel_rfl
def c6:SCode:=(.seq (.reg [.op (some 1) (.boxF 29 (.t 0)) none,
  .op (some 2) (.mov (.c (.bool false))) none])
 (.seq (.seq (.reg [.op (some 3) (.mov (.c (.int .i64 0))) none])
 (.block 0
 (.loop [4,5,6,7,8,11,12,13,14,15,16,17,2,9,10,3]
  (.seq (.seq (.reg [.op (some 4) (.mov (.t 3)) none,
    .op (some 5) (.fieldA 1 (.t 1)) none,
    .op (some 6) (.load false 1 (.t 5)) none,
    .op (some 7) (.len (.t 6)) none,
    .op (some 8) (.bin .lss (.t 4) (.t 7)) none])
   (.cond (.t 8)
   .skip
   (.exit 0)))
   (.seq (.block 1
   (.seq (.reg [.op (some 11) (.fieldA 1 (.t 1)) none,
     .op (some 12) (.load false 1 (.t 11)) none,
     .op (some 13) (.mov (.t 3)) none,
     .op (some 14) (.idxA 1 (.t 12) (.t 13)) none,
     .op (some 15) (.load false 1 (.t 14)) none,
     .op (some 16) (.len (.t 15)) none,
     .op (some 17) (.bin .gtr (.t 16) (.c (.int .i64 20))) none])
    (.cond (.t 17)
    (.seq (.reg [.op (some 2) (.mov (.c (.bool false))) none])
     .ret)
    .skip)))
   (.reg [.op (some 9) (.mov (.t 3)) none,
    .op (some 10) (.bin .add (.t 9) (.c (.int .i64 1))) none,
    .op (some 3) (.mov (.t 10)) none]))))))
 (.seq (.reg [.op (some 18) (.load true 8 (.t 1)) none,
  .op (some 19) (.call 17 [(.t 18)]) none,
  .op (some 20) (.mov (.t 19)) none,
  .op (some 21) (.fieldA 0 (.t 1)) (some (20,true)),
  .op (some 22) (.load false 1 (.t 21)) (some (20,true)),
  .op (some 23) (.len (.t 22)) (some (20,true)),
  .op (some 24) (.bin .leq (.t 23) (.c (.int .i64 20))) (some (20,true)),
  .op (some 25) (.pick (.t 20) (.t 24) (.c (.bool false))) none,
  .op (some 26) (.mov (.t 25)) none,
  .op (some 27) (.fieldA 1 (.t 1)) (some (26,true)),
  .op (some 28) (.load false 1 (.t 27)) (some (26,true)),
  .op (some 29) (.len (.t 28)) (some (26,true)),
  .op (some 30) (.bin .leq (.t 29) (.c (.int .i64 20))) (some (26,true)),
  .op (some 31) (.pick (.t 26) (.t 30) (.c (.bool false))) none,
  .op (some 32) (.mov (.t 31)) none,
  .op (some 33) (.fieldA 5 (.t 1)) (some (32,true)),
  .op (some 34) (.load false 1 (.t 33)) (some (32,true)),
  .op (some 35) (.len (.t 34)) (some (32,true)),
  .op (some 36) (.bin .leq (.t 35) (.c (.int .i64 12))) (some (32,true)),
  .op (some 37) (.pick (.t 32) (.t 36) (.c (.bool false))) none,
  .op (some 2) (.mov (.t 37)) none])
 .ret)))
def A6:Ann:={ n:=38,own:=[1],frz:=[],ord:=[] }
theorem facts6:factsOf Tryz.prog A6 Tryz.f6 = some (c6,38,[(2,none)],false):=by kernel_rfl
def c7:SCode:=(.seq (.reg [.op (some 1) (.box 36 (.t 0)) none,
  .op (some 2) (.mov (.c (.bool false))) none])
 (.seq (.seq (.reg [.op (some 7) (.fieldA 8 (.t 1)) none,
  .op (some 8) (.load false 1 (.t 7)) none,
  .op (some 9) (.len (.t 8)) none,
  .op (some 10) (.bin .gtr (.t 9) (.c (.int .i64 40))) none,
  .op (some 11) (.mov (.t 10)) none,
  .op (some 12) (.fieldA 9 (.t 1)) (some (11,false)),
  .op (some 13) (.load false 1 (.t 12)) (some (11,false)),
  .op (some 14) (.len (.t 13)) (some (11,false)),
  .op (some 15) (.bin .gtr (.t 14) (.c (.int .i64 40))) (some (11,false)),
  .op (some 16) (.pick (.t 11) (.c (.bool true)) (.t 15)) none,
  .op (some 17) (.mov (.t 16)) none,
  .op (some 18) (.fieldA 3 (.t 1)) (some (17,false)),
  .op (some 19) (.load false 1 (.t 18)) (some (17,false)),
  .op (some 20) (.len (.t 19)) (some (17,false)),
  .op (some 21) (.bin .gtr (.t 20) (.c (.int .i64 10))) (some (17,false)),
  .op (some 22) (.pick (.t 17) (.c (.bool true)) (.t 21)) none,
  .op (some 23) (.mov (.t 22)) none,
  .op (some 24) (.fieldA 10 (.t 1)) (some (23,false)),
  .op (some 25) (.load false 1 (.t 24)) (some (23,false)),
  .op (some 26) (.len (.t 25)) (some (23,false)),
  .op (some 27) (.bin .gtr (.t 26) (.c (.int .i64 20))) (some (23,false)),
  .op (some 28) (.pick (.t 23) (.c (.bool true)) (.t 27)) none,
  .op (some 29) (.mov (.t 28)) none,
  .op (some 30) (.fieldA 5 (.t 1)) (some (29,false)),
  .op (some 31) (.load true 3 (.t 30)) (some (29,false)),
  .op (some 32) (.call 18 [(.t 31),(.c (.int .i64 30))]) (some (29,false)),
  .op (some 33) (.bin .gtr (.t 32) (.c (.int .i64 30))) (some (29,false)),
  .op (some 34) (.pick (.t 29) (.c (.bool true)) (.t 33)) none])
 (.cond (.t 34)
 (.seq (.reg [.op (some 2) (.mov (.c (.bool false))) none])
  .ret)
 .skip))
 (.seq (.seq (.reg [.op (some 3) (.mov (.c (.int .i64 0))) none])
 (.block 0
 (.loop [35,36,37,38,39,42,43,44,45,46,47,48,2,40,41,3]
  (.seq (.seq (.reg [.op (some 35) (.mov (.t 3)) none,
    .op (some 36) (.fieldA 8 (.t 1)) none,
    .op (some 37) (.load false 1 (.t 36)) none,
    .op (some 38) (.len (.t 37)) none,
    .op (some 39) (.bin .lss (.t 35) (.t 38)) none])
   (.cond (.t 39)
   .skip
   (.exit 0)))
   (.seq (.block 1
   (.seq (.reg [.op (some 42) (.fieldA 8 (.t 1)) none,
     .op (some 43) (.load false 1 (.t 42)) none,
     .op (some 44) (.mov (.t 3)) none,
     .op (some 45) (.idxA 3 (.t 43) (.t 44)) none,
     .op (some 46) (.load true 3 (.t 45)) none,
     .op (some 47) (.call 18 [(.t 46),(.c (.int .i64 30))]) none,
     .op (some 48) (.bin .gtr (.t 47) (.c (.int .i64 30))) none])
    (.cond (.t 48)
    (.seq (.reg [.op (some 2) (.mov (.c (.bool false))) none])
     .ret)
    .skip)))
   (.reg [.op (some 40) (.mov (.t 3)) none,
    .op (some 41) (.bin .add (.t 40) (.c (.int .i64 1))) none,
    .op (some 3) (.mov (.t 41)) none]))))))
 (.seq (.seq (.reg [.op (some 4) (.mov (.c (.int .i64 0))) none])
 (.block 2
 (.loop [49,50,51,52,53,56,57,58,59,60,61,62,63,64,65,66,67,68,69,70,71,72,73,74,2,5,75,76,77,78,79,80,81,82,83,86,87,88,89,90,91,92,93,94,6,95,96,97,98,99,100,101,102,103,104,2,84,85,5,54,55,4]
  (.seq (.seq (.reg [.op (some 49) (.mov (.t 4)) none,
    .op (some 50) (.fieldA 9 (.t 1)) none,
    .op (some 51) (.load false 1 (.t 50)) none,
    .op (some 52) (.len (.t 51)) none,
    .op (some 53) (.bin .lss (.t 49) (.t 52)) none])
   (.cond (.t 53)
   .skip
   (.exit 2)))
   (.seq (.block 3
   (.seq (.seq (.reg [.op (some 56) (.fieldA 9 (.t 1)) none,
     .op (some 57) (.load false 1 (.t 56)) none,
     .op (some 58) (.mov (.t 4)) none,
     .op (some 59) (.idxA 4 (.t 57) (.t 58)) none,
     .op (some 60) (.fieldA 0 (.t 59)) none,
     .op (some 61) (.load false 1 (.t 60)) none,
     .op (some 62) (.len (.t 61)) none,
     .op (some 63) (.bin .gtr (.t 62) (.c (.int .i64 20))) none,
     .op (some 64) (.mov (.t 63)) none,
     .op (some 65) (.fieldA 9 (.t 1)) (some (64,false)),
     .op (some 66) (.load false 1 (.t 65)) (some (64,false)),
     .op (some 67) (.mov (.t 4)) (some (64,false)),
     .op (some 68) (.idxA 4 (.t 66) (.t 67)) (some (64,false)),
     .op (some 69) (.fieldA 1 (.t 68)) (some (64,false)),
     .op (some 70) (.fieldA 2 (.t 69)) (some (64,false)),
     .op (some 71) (.load false 1 (.t 70)) (some (64,false)),
     .op (some 72) (.len (.t 71)) (some (64,false)),
     .op (some 73) (.bin .gtr (.t 72) (.c (.int .i64 20))) (some (64,false)),
     .op (some 74) (.pick (.t 64) (.c (.bool true)) (.t 73)) none])
    (.cond (.t 74)
    (.seq (.reg [.op (some 2) (.mov (.c (.bool false))) none])
     .ret)
    .skip))
    (.seq (.reg [.op (some 5) (.mov (.c (.int .i64 0))) none])
    (.block 4
    (.loop [75,76,77,78,79,80,81,82,83,86,87,88,89,90,91,92,93,94,6,95,96,97,98,99,100,101,102,103,104,2,84,85,5]
     (.seq (.seq (.reg [.op (some 75) (.mov (.t 5)) none,
       .op (some 76) (.fieldA 9 (.t 1)) none,
       .op (some 77) (.load false 1 (.t 76)) none,
       .op (some 78) (.mov (.t 4)) none,
       .op (some 79) (.idxA 4 (.t 77) (.t 78)) none,
       .op (some 80) (.fieldA 0 (.t 79)) none,
       .op (some 81) (.load false 1 (.t 80)) none,
       .op (some 82) (.len (.t 81)) none,
       .op (some 83) (.bin .lss (.t 75) (.t 82)) none])
      (.cond (.t 83)
      .skip
      (.exit 4)))
      (.seq (.block 5
      (.seq (.reg [.op (some 86) (.fieldA 9 (.t 1)) none,
        .op (some 87) (.load false 1 (.t 86)) none,
        .op (some 88) (.mov (.t 4)) none,
        .op (some 89) (.idxA 4 (.t 87) (.t 88)) none,
        .op (some 90) (.fieldA 0 (.t 89)) none,
        .op (some 91) (.load false 1 (.t 90)) none,
        .op (some 92) (.mov (.t 5)) none,
        .op (some 93) (.idxA 7 (.t 91) (.t 92)) none,
        .op (some 94) (.load true 7 (.t 93)) none,
        .op (some 6) (.alloc 66 [(.int .i64 0),(.int .i64 0),(.int .i64 0),(.int .i64 0),(.int .i64 0),(.slice none 0 0),(.slice none 0 0)]) none,
        .op none (.store 7 (.t 6) (.t 94)) none])
       (.seq (.reg [.op (some 95) (.fieldA 5 (.t 6)) none,
        .op (some 96) (.load false 1 (.t 95)) none,
        .op (some 97) (.len (.t 96)) none,
        .op (some 98) (.bin .gtr (.t 97) (.c (.int .i64 20))) none,
        .op (some 99) (.mov (.t 98)) none,
        .op (some 100) (.fieldA 6 (.t 6)) (some (99,false)),
        .op (some 101) (.load false 1 (.t 100)) (some (99,false)),
        .op (some 102) (.call 19 [(.t 101)]) (some (99,false)),
        .op (some 103) (.un .not (.t 102)) (some (99,false)),
        .op (some 104) (.pick (.t 99) (.c (.bool true)) (.t 103)) none])
       (.cond (.t 104)
       (.seq (.reg [.op (some 2) (.mov (.c (.bool false))) none])
        .ret)
       .skip))))
      (.reg [.op (some 84) (.mov (.t 5)) none,
       .op (some 85) (.bin .add (.t 84) (.c (.int .i64 1))) none,
       .op (some 5) (.mov (.t 85)) none]))))))))
   (.reg [.op (some 54) (.mov (.t 4)) none,
    .op (some 55) (.bin .add (.t 54) (.c (.int .i64 1))) none,
    .op (some 4) (.mov (.t 55)) none]))))))
 (.seq (.reg [.op (some 2) (.mov (.c (.bool true))) none])
 .ret)))))
def A7:Ann:={ n:=105,own:=[],frz:=[],ord:=[] }
theorem facts7:factsOf Tryz.prog A7 Tryz.f7 = some (c7,105,[(2,none)],false):=by kernel_rfl
def c8:SCode:=(.seq (.reg [.op (some 3) (.boxF 29 (.t 0)) none,
  .op (some 4) (.boxF 3 (.t 1)) none,
  .op (some 6) (.alloc 42 [(.string ⟨#[]⟩),(.slice none 0 0),(.slice none 0 0),(.int .i64 0),(.slice none 0 0)]) none,
  .op (some 7) (.mov (.c (.int .i64 0))) none])
 (.seq (.seq (.reg [.op (some 12) (.load false 1 (.t 4)) none,
  .op (some 13) (.bin .lss (.t 12) (.c (.int .i64 0))) none,
  .op (some 14) (.mov (.t 13)) none,
  .op (some 15) (.load false 1 (.t 4)) (some (14,false)),
  .op (some 16) (.fieldA 0 (.t 3)) (some (14,false)),
  .op (some 17) (.load false 1 (.t 16)) (some (14,false)),
  .op (some 18) (.len (.t 17)) (some (14,false)),
  .op (some 19) (.fieldA 1 (.t 3)) (some (14,false)),
  .op (some 20) (.load false 1 (.t 19)) (some (14,false)),
  .op (some 21) (.len (.t 20)) (some (14,false)),
  .op (some 22) (.mm false [(.t 18),(.t 21)]) (some (14,false)),
  .op (some 23) (.bin .geq (.t 15) (.t 22)) (some (14,false)),
  .op (some 24) (.pick (.t 14) (.c (.bool true)) (.t 23)) none,
  .op (some 25) (.mov (.t 24)) none,
  .op (some 26) (.mov (.t 2)) (some (25,false)),
  .op (some 27) (.len (.t 26)) (some (25,false)),
  .op (some 28) (.fieldA 1 (.t 3)) (some (25,false)),
  .op (some 29) (.load false 1 (.t 28)) (some (25,false)),
  .op (some 30) (.load false 1 (.t 4)) (some (25,false)),
  .op (some 31) (.idxA 1 (.t 29) (.t 30)) (some (25,false)),
  .op (some 32) (.load false 1 (.t 31)) (some (25,false)),
  .op (some 33) (.len (.t 32)) (some (25,false)),
  .op (some 34) (.bin .neq (.t 27) (.t 33)) (some (25,false)),
  .op (some 35) (.pick (.t 25) (.c (.bool true)) (.t 34)) none])
 (.cond (.t 35)
 (.seq (.reg [.op (some 36) (.build [(.string ⟨#[]⟩),(.slice none 0 0),(.slice none 0 0),(.int .i64 0),(.slice none 0 0)] []) none,
   .op none (.store 5 (.t 6) (.t 36)) none,
   .op (some 7) (.mov (.c (.int .i64 1))) none])
  .ret)
 .skip))
 (.seq (.regD [.op (some 37) (.fieldA 0 (.t 3)) none,
  .op (some 38) (.loadD false 1 (.t 37)) none,
  .op (some 39) (.loadD false 1 (.t 4)) none,
  .op (some 40) (.idxA 1 (.t 38) (.t 39)) none,
  .op (some 41) (.loadD false 1 (.t 40)) none,
  .op (some 42) (.mov (.t 2)) none,
  .op (some 43) (.callD 20 [(.t 42)]) none,
  .op (some 44) (.build [(.string ⟨#[]⟩),(.slice none 0 0),(.slice none 0 0),(.int .i64 0),(.slice none 0 0)] [(0,1,(.t 41)),(2,1,(.t 43))]) none,
  .op (some 8) (.allocD 42 [(.string ⟨#[]⟩),(.slice none 0 0),(.slice none 0 0),(.int .i64 0),(.slice none 0 0)]) none,
  .op none (.storeD 5 (.t 8) (.t 44)) none])
 (.seq (.seq (.reg [.op (some 45) (.fieldA 1 (.t 3)) none,
  .op (some 46) (.load false 1 (.t 45)) none,
  .op (some 47) (.load false 1 (.t 4)) none,
  .op (some 48) (.idxA 1 (.t 46) (.t 47)) none,
  .op (some 49) (.load false 1 (.t 48)) none,
  .op (some 50) (.len (.t 49)) none,
  .op (some 51) (.mov (.c (.int .i64 0))) none])
 (.block 0
 (.loop [52,53,54,10,55,56,57,58,59,60,61,62,63,64,7,65,66,67,68,69,70,71,72,73,74,75,51]
  (.seq (.reg [.op (some 52) (.bin .lss (.t 51) (.t 50)) none])
   (.seq (.cond (.t 52)
   .skip
   (.exit 0))
   (.seq (.block 1
   (.seq (.reg [.op (some 53) (.idxA 1 (.t 49) (.t 51)) none,
     .op (some 54) (.load false 1 (.t 53)) none,
     .op (some 10) (.mov (.t 54)) none])
    (.seq (.seq (.reg [.op (some 55) (.mov (.t 10)) none,
     .op (some 56) (.bin .lss (.t 55) (.c (.int .i64 0))) none,
     .op (some 57) (.mov (.t 56)) none,
     .op (some 58) (.mov (.t 10)) (some (57,false)),
     .op (some 59) (.fieldA 0 (.t 3)) (some (57,false)),
     .op (some 60) (.load false 1 (.t 59)) (some (57,false)),
     .op (some 61) (.len (.t 60)) (some (57,false)),
     .op (some 62) (.bin .geq (.t 58) (.t 61)) (some (57,false)),
     .op (some 63) (.pick (.t 57) (.c (.bool true)) (.t 62)) none])
    (.cond (.t 63)
    (.seq (.reg [.op (some 64) (.build [(.string ⟨#[]⟩),(.slice none 0 0),(.slice none 0 0),(.int .i64 0),(.slice none 0 0)] []) none,
      .op none (.store 5 (.t 6) (.t 64)) none,
      .op (some 7) (.mov (.c (.int .i64 1))) none])
     .ret)
    .skip))
    (.regD [.op (some 65) (.fieldA 1 (.t 8)) none,
     .op (some 66) (.loadD false 1 (.t 65)) none,
     .op (some 67) (.fieldA 0 (.t 3)) none,
     .op (some 68) (.loadD false 1 (.t 67)) none,
     .op (some 69) (.mov (.t 10)) none,
     .op (some 70) (.idxA 1 (.t 68) (.t 69)) none,
     .op (some 71) (.loadD false 1 (.t 70)) none,
     .op (some 72) (.mkFD 9 1 1 [(.t 71)]) none,
     .op (some 73) (.appD 9 1 16 [(.string ⟨#[]⟩)] (.t 66) (.t 72)) none,
     .op (some 74) (.fieldA 1 (.t 8)) none,
     .op none (.storeD 1 (.t 74) (.t 73)) none]))))
   (.reg [.op (some 75) (.bin .add (.t 51) (.c (.int .i64 1))) none,
    .op (some 51) (.mov (.t 75)) none])))))))
 (.seq (.reg [.op (some 76) (.load true 8 (.t 3)) none,
  .op (some 77) (.build [(.slice none 0 0),(.int .i64 0),(.int .i8 0),(.slice none 0 0),(.slice none 0 0),(.slice none 0 0),(.slice none 0 0),(.slice none 0 0),(.slice none 0 0),(.slice none 0 0),(.int .i64 0)] [(3,8,(.t 76))]) none,
  .op (some 78) (.box 75 (.t 77)) none,
  .op (some 11) (.mov (.t 78)) none])
 (.seq (.reg [.op (some 79) (.mov (.t 11)) none,
  .op (some 80) (.fieldA 0 (.t 8)) none,
  .op (some 81) (.load false 1 (.t 80)) none,
  .op (some 82) (.mkF 9 1 1 [(.t 81)]) none,
  .op (some 83) (.call 21 [(.t 79),(.t 82)]) none])
 (.seq (.reg [.op (some 84) (.mov (.t 11)) none,
  .op (some 85) (.fieldA 2 (.t 3)) none,
  .op (some 86) (.load false 1 (.t 85)) none,
  .op (some 87) (.mkfn 24 [] [(.t 4)]) none,
  .op (some 88) (.call 23 [(.t 86),(.t 87)]) none,
  .op (some 89) (.mov (.t 11)) none,
  .op (some 90) (.mkfn 25 [(.t 89)] []) none,
  .op (some 91) (.call 22 [(.t 84),(.t 88),(.t 90)]) none])
 (.seq (.reg [.op (some 92) (.mov (.t 11)) none,
  .op (some 93) (.fieldA 5 (.t 3)) none,
  .op (some 94) (.load false 1 (.t 93)) none,
  .op (some 95) (.mkfn 28 [] [(.t 4)]) none,
  .op (some 96) (.call 27 [(.t 94),(.t 95)]) none,
  .op (some 97) (.mov (.t 11)) none,
  .op (some 98) (.mkfn 29 [(.t 97)] []) none,
  .op (some 99) (.call 26 [(.t 92),(.t 96),(.t 98)]) none])
 (.seq (.reg [.op (some 100) (.mov (.t 11)) none,
  .op (some 101) (.fieldA 6 (.t 3)) none,
  .op (some 102) (.load false 1 (.t 101)) none,
  .op (some 103) (.mkfn 32 [] [(.t 4)]) none,
  .op (some 104) (.call 31 [(.t 102),(.t 103)]) none,
  .op (some 105) (.mov (.t 11)) none,
  .op (some 106) (.mkfn 33 [(.t 105)] []) none,
  .op (some 107) (.call 30 [(.t 100),(.t 104),(.t 106)]) none])
 (.seq (.reg [.op (some 108) (.mov (.t 11)) none,
  .op (some 109) (.nilck (.t 108)) none,
  .op (some 110) (.fieldA 0 (.t 109)) none,
  .op (some 111) (.call 34 [(.t 110)]) none,
  .op (some 112) (.fieldA 4 (.t 8)) none,
  .op none (.store 1 (.t 112) (.t 111)) none])
 (.seq (.reg [.op (some 113) (.fieldA 4 (.t 8)) none,
  .op (some 114) (.load false 1 (.t 113)) none,
  .op (some 115) (.call 15 [(.t 114)]) none,
  .op (some 116) (.fieldA 3 (.t 8)) none,
  .op none (.store 1 (.t 116) (.t 115)) none])
 (.seq (.reg [.op (some 117) (.load true 5 (.t 8)) none,
  .op none (.store 5 (.t 6) (.t 117)) none,
  .op (some 7) (.mov (.c (.int .i64 0))) none])
 .ret))))))))))))
def A8:Ann:={ n:=118,own:=[3,4],frz:=[],ord:=[(3,[0,1,2,3,4,5,6,7,8,9],[[],[0],[],[0,1,2],[0,1,2,3],[],[5],[0,1,2,3,4,5,6],[],[0,1,2,3,4,5,6,7,8]]),(9,[0,1,2,3,4,5,6,7,8,9,10],[[],[0],[],[2],[],[2,3,4],[2,3,4,5],[2,3,4,5,6],[0,1,2,3,4,5,6,7],[0,1,2,3,4,5,6,7,8],[0,1,2,3,4,5,6,7,8,9]])] }
theorem facts8:factsOf Tryz.prog A8 Tryz.f8 = some (c8,118,[(6,some (true,5)),(7,none)],false):=by kernel_rfl
def c9:SCode:=(.seq (.reg [.op (some 2) (.boxF 42 (.t 0)) none,
  .op (some 3) (.boxF 42 (.t 1)) none,
  .op (some 4) (.mov (.c (.bool false))) none])
 (.seq (.seq (.reg [.op (some 7) (.fieldA 0 (.t 2)) none,
  .op (some 8) (.load false 1 (.t 7)) none,
  .op (some 9) (.fieldA 0 (.t 3)) none,
  .op (some 10) (.load false 1 (.t 9)) none,
  .op (some 11) (.bin .neq (.t 8) (.t 10)) none,
  .op (some 12) (.mov (.t 11)) none,
  .op (some 13) (.fieldA 3 (.t 2)) (some (12,false)),
  .op (some 14) (.load false 1 (.t 13)) (some (12,false)),
  .op (some 15) (.fieldA 3 (.t 3)) (some (12,false)),
  .op (some 16) (.load false 1 (.t 15)) (some (12,false)),
  .op (some 17) (.bin .neq (.t 14) (.t 16)) (some (12,false)),
  .op (some 18) (.pick (.t 12) (.c (.bool true)) (.t 17)) none,
  .op (some 19) (.mov (.t 18)) none,
  .op (some 20) (.fieldA 4 (.t 2)) (some (19,false)),
  .op (some 21) (.load false 1 (.t 20)) (some (19,false)),
  .op (some 22) (.b2s (.t 21)) (some (19,false)),
  .op (some 23) (.fieldA 4 (.t 3)) (some (19,false)),
  .op (some 24) (.load false 1 (.t 23)) (some (19,false)),
  .op (some 25) (.b2s (.t 24)) (some (19,false)),
  .op (some 26) (.bin .neq (.t 22) (.t 25)) (some (19,false)),
  .op (some 27) (.pick (.t 19) (.c (.bool true)) (.t 26)) none,
  .op (some 28) (.mov (.t 27)) none,
  .op (some 29) (.fieldA 1 (.t 2)) (some (28,false)),
  .op (some 30) (.load false 1 (.t 29)) (some (28,false)),
  .op (some 31) (.len (.t 30)) (some (28,false)),
  .op (some 32) (.fieldA 1 (.t 3)) (some (28,false)),
  .op (some 33) (.load false 1 (.t 32)) (some (28,false)),
  .op (some 34) (.len (.t 33)) (some (28,false)),
  .op (some 35) (.bin .neq (.t 31) (.t 34)) (some (28,false)),
  .op (some 36) (.pick (.t 28) (.c (.bool true)) (.t 35)) none,
  .op (some 37) (.mov (.t 36)) none,
  .op (some 38) (.fieldA 2 (.t 2)) (some (37,false)),
  .op (some 39) (.load false 1 (.t 38)) (some (37,false)),
  .op (some 40) (.len (.t 39)) (some (37,false)),
  .op (some 41) (.fieldA 2 (.t 3)) (some (37,false)),
  .op (some 42) (.load false 1 (.t 41)) (some (37,false)),
  .op (some 43) (.len (.t 42)) (some (37,false)),
  .op (some 44) (.bin .neq (.t 40) (.t 43)) (some (37,false)),
  .op (some 45) (.pick (.t 37) (.c (.bool true)) (.t 44)) none])
 (.cond (.t 45)
 (.seq (.reg [.op (some 4) (.mov (.c (.bool false))) none])
  .ret)
 .skip))
 (.seq (.seq (.reg [.op (some 5) (.mov (.c (.int .i64 0))) none])
 (.block 0
 (.loop [46,47,48,49,50,53,54,55,56,57,58,59,60,61,62,63,4,51,52,5]
  (.seq (.seq (.reg [.op (some 46) (.mov (.t 5)) none,
    .op (some 47) (.fieldA 1 (.t 2)) none,
    .op (some 48) (.load false 1 (.t 47)) none,
    .op (some 49) (.len (.t 48)) none,
    .op (some 50) (.bin .lss (.t 46) (.t 49)) none])
   (.cond (.t 50)
   .skip
   (.exit 0)))
   (.seq (.block 1
   (.seq (.regD [.op (some 53) (.fieldA 1 (.t 2)) none,
     .op (some 54) (.loadD false 1 (.t 53)) none,
     .op (some 55) (.mov (.t 5)) none,
     .op (some 56) (.idxA 1 (.t 54) (.t 55)) none,
     .op (some 57) (.loadD false 1 (.t 56)) none,
     .op (some 58) (.fieldA 1 (.t 3)) none,
     .op (some 59) (.loadD false 1 (.t 58)) none,
     .op (some 60) (.mov (.t 5)) none,
     .op (some 61) (.idxA 1 (.t 59) (.t 60)) none,
     .op (some 62) (.loadD false 1 (.t 61)) none,
     .op (some 63) (.bin .neq (.t 57) (.t 62)) none])
    (.cond (.t 63)
    (.seq (.reg [.op (some 4) (.mov (.c (.bool false))) none])
     .ret)
    .skip)))
   (.reg [.op (some 51) (.mov (.t 5)) none,
    .op (some 52) (.bin .add (.t 51) (.c (.int .i64 1))) none,
    .op (some 5) (.mov (.t 52)) none]))))))
 (.seq (.seq (.reg [.op (some 6) (.mov (.c (.int .i64 0))) none])
 (.block 2
 (.loop [64,65,66,67,68,71,72,73,74,75,76,77,78,79,80,81,4,69,70,6]
  (.seq (.seq (.reg [.op (some 64) (.mov (.t 6)) none,
    .op (some 65) (.fieldA 2 (.t 2)) none,
    .op (some 66) (.load false 1 (.t 65)) none,
    .op (some 67) (.len (.t 66)) none,
    .op (some 68) (.bin .lss (.t 64) (.t 67)) none])
   (.cond (.t 68)
   .skip
   (.exit 2)))
   (.seq (.block 3
   (.seq (.regD [.op (some 71) (.fieldA 2 (.t 2)) none,
     .op (some 72) (.loadD false 1 (.t 71)) none,
     .op (some 73) (.mov (.t 6)) none,
     .op (some 74) (.idxA 1 (.t 72) (.t 73)) none,
     .op (some 75) (.loadD false 1 (.t 74)) none,
     .op (some 76) (.fieldA 2 (.t 3)) none,
     .op (some 77) (.loadD false 1 (.t 76)) none,
     .op (some 78) (.mov (.t 6)) none,
     .op (some 79) (.idxA 1 (.t 77) (.t 78)) none,
     .op (some 80) (.loadD false 1 (.t 79)) none,
     .op (some 81) (.bin .neq (.t 75) (.t 80)) none])
    (.cond (.t 81)
    (.seq (.reg [.op (some 4) (.mov (.c (.bool false))) none])
     .ret)
    .skip)))
   (.reg [.op (some 69) (.mov (.t 6)) none,
    .op (some 70) (.bin .add (.t 69) (.c (.int .i64 1))) none,
    .op (some 6) (.mov (.t 70)) none]))))))
 (.seq (.reg [.op (some 4) (.mov (.c (.bool true))) none])
 .ret)))))
def A9:Ann:={ n:=82,own:=[2,3],frz:=[],ord:=[(6,[0,1,2,3,4,5,6,7,8,9,10],[[],[0],[],[0,1,2],[0,1,2,3],[],[5],[],[5,6,7],[5,6,7,8],[0,1,2,3,4,5,6,7,8,9]]),(11,[0,1,2,3,4,5,6,7,8,9,10],[[],[0],[],[0,1,2],[0,1,2,3],[],[5],[],[5,6,7],[5,6,7,8],[0,1,2,3,4,5,6,7,8,9]])] }
theorem facts9:factsOf Tryz.prog A9 Tryz.f9 = some (c9,82,[(4,none)],false):=by kernel_rfl
def c11:SCode:=(.seq (.reg [.op (some 2) (.boxF 29 (.t 0)) none,
  .op (some 3) (.boxF 3 (.t 1)) none,
  .op (some 4) (.mov (.c (.int .i64 0))) none])
 (.seq (.reg [.op (some 8) (.fieldA 0 (.t 2)) none,
  .op (some 9) (.load false 1 (.t 8)) none,
  .op (some 10) (.load false 1 (.t 3)) none,
  .op (some 11) (.call 36 [(.t 9),(.t 10)]) none,
  .op (some 7) (.mov (.t 11)) none,
  .op (some 12) (.extr (.t 7) 0) none,
  .op (some 13) (.extr (.t 7) 1) none,
  .op (some 5) (.alloc 9 [(.string ⟨#[]⟩)]) none,
  .op none (.store 1 (.t 5) (.t 12)) none,
  .op (some 6) (.mov (.t 13)) none])
 (.seq (.seq (.reg [.op (some 14) (.mov (.t 6)) none,
  .op (some 15) (.un .not (.t 14)) none])
 (.cond (.t 15)
 (.seq (.reg [.op (some 4) (.mov (.c (.int .i64 0))) none])
  .ret)
 .skip))
 (.seq (.reg [.op (some 16) (.mkfn 38 [] [(.t 5),(.t 2),(.t 3)]) none,
  .op (some 17) (.call 37 [(.t 2),(.t 16)]) none,
  .op (some 18) (.call 15 [(.t 17)]) none,
  .op (some 4) (.mov (.t 18)) none])
 .ret))))
def A11:Ann:={ n:=19,own:=[2,3],frz:=[],ord:=[] }
theorem facts11:factsOf Tryz.prog A11 Tryz.f11 = some (c11,19,[(4,none)],false):=by kernel_rfl
def c12:SCode:=(.seq (.reg [.op (some 2) (.boxF 42 (.t 0)) none,
  .op (some 4) (.mov (.c (.bool false))) none])
 (.seq (.seq (.reg [.op (some 7) (.load true 5 (.t 2)) none,
  .op (some 8) (.call 60 [(.t 7)]) none,
  .op (some 9) (.un .not (.t 8)) none,
  .op (some 10) (.mov (.t 9)) none,
  .op (some 11) (.mov (.t 1)) (some (10,false)),
  .op (some 12) (.len (.t 11)) (some (10,false)),
  .op (some 13) (.fieldA 1 (.t 2)) (some (10,false)),
  .op (some 14) (.load false 1 (.t 13)) (some (10,false)),
  .op (some 15) (.len (.t 14)) (some (10,false)),
  .op (some 16) (.bin .neq (.t 12) (.t 15)) (some (10,false)),
  .op (some 17) (.pick (.t 10) (.c (.bool true)) (.t 16)) none])
 (.cond (.t 17)
 (.seq (.reg [.op (some 4) (.mov (.c (.bool false))) none])
  .ret)
 .skip))
 (.seq (.seq (.reg [.op (some 18) (.mov (.t 1)) none,
  .op (some 19) (.len (.t 18)) none,
  .op (some 20) (.mov (.c (.int .i64 0))) none])
 (.block 0
 (.loop [21,22,23,24,6,5,25,26,27,28,29,30,31,32,33,34,35,36,37,38,39,40,41,42,4,43,20]
  (.seq (.reg [.op (some 21) (.bin .lss (.t 20) (.t 19)) none])
   (.seq (.cond (.t 21)
   .skip
   (.exit 0))
   (.seq (.block 1
   (.seq (.reg [.op (some 22) (.mov (.t 20)) none,
     .op (some 23) (.idxA 5 (.t 18) (.t 20)) none,
     .op (some 24) (.load true 5 (.t 23)) none,
     .op (some 6) (.alloc 42 [(.string ⟨#[]⟩),(.slice none 0 0),(.slice none 0 0),(.int .i64 0),(.slice none 0 0)]) none,
     .op (some 5) (.mov (.t 22)) none,
     .op none (.store 5 (.t 6) (.t 24)) none])
    (.seq (.regD [.op (some 25) (.fieldA 0 (.t 6)) none,
     .op (some 26) (.loadD false 1 (.t 25)) none,
     .op (some 27) (.fieldA 1 (.t 2)) none,
     .op (some 28) (.loadD false 1 (.t 27)) none,
     .op (some 29) (.mov (.t 5)) none,
     .op (some 30) (.idxA 1 (.t 28) (.t 29)) none,
     .op (some 31) (.loadD false 1 (.t 30)) none,
     .op (some 32) (.bin .neq (.t 26) (.t 31)) none,
     .op (some 33) (.mov (.t 32)) none,
     .op (some 34) (.fieldA 3 (.t 6)) (some (33,false)),
     .op (some 35) (.loadD false 1 (.t 34)) (some (33,false)),
     .op (some 36) (.fieldA 2 (.t 2)) (some (33,false)),
     .op (some 37) (.loadD false 1 (.t 36)) (some (33,false)),
     .op (some 38) (.mov (.t 5)) (some (33,false)),
     .op (some 39) (.idxA 1 (.t 37) (.t 38)) (some (33,false)),
     .op (some 40) (.loadD false 1 (.t 39)) (some (33,false)),
     .op (some 41) (.bin .neq (.t 35) (.t 40)) (some (33,false)),
     .op (some 42) (.pick (.t 33) (.c (.bool true)) (.t 41)) none])
    (.cond (.t 42)
    (.seq (.reg [.op (some 4) (.mov (.c (.bool false))) none])
     .ret)
    .skip))))
   (.reg [.op (some 43) (.bin .add (.t 20) (.c (.int .i64 1))) none,
    .op (some 20) (.mov (.t 43)) none])))))))
 (.seq (.reg [.op (some 4) (.mov (.c (.bool true))) none])
 .ret))))
def A12:Ann:={ n:=44,own:=[2],frz:=[],ord:=[(6,[0,1,2,3,4,5,6,7,8,9,10,11,12,13,14,15,16,17],[[],[0],[],[2],[],[2,3,4],[2,3,4,5],[0,1,2,3,4,5,6],[0,1,2,3,4,5,6,7],[0,1,2,3,4,5,6,7,8],[0,1,2,3,4,5,6,7,8,9],[0,1,2,3,4,5,6,7,8],[0,1,2,3,4,5,6,7,8,11],[0,1,2,3,4,5,6,7,8],[0,1,2,3,4,5,6,7,8,11,12,13],[0,1,2,3,4,5,6,7,8,11,12,13,14],[0,1,2,3,4,5,6,7,8,9,10,11,12,13,14,15],[0,1,2,3,4,5,6,7,8,9,10,11,12,13,14,15,16]])] }
theorem facts12:factsOf Tryz.prog A12 Tryz.f12 = some (c12,44,[(4,none)],false):=by kernel_rfl
def c13:SCode:=(.seq (.reg [.op (some 1) (.boxF 42 (.t 0)) none,
  .op (some 2) (.mov (.c (.slice none 0 0))) none])
 (.seq (.seq (.reg [.op (some 4) (.load true 5 (.t 1)) none,
  .op (some 5) (.call 60 [(.t 4)]) none,
  .op (some 6) (.un .not (.t 5)) none])
 (.cond (.t 6)
 (.seq (.reg [.op (some 2) (.mov (.c (.slice none 0 0))) none])
  .ret)
 .skip))
 (.seq (.reg [.op (some 7) (.build [(.slice none 0 0),(.int .i64 0),(.int .i8 0),(.slice none 0 0),(.slice none 0 0),(.slice none 0 0),(.slice none 0 0),(.slice none 0 0),(.slice none 0 0),(.slice none 0 0),(.int .i64 0)] []) none,
  .op (some 8) (.box 75 (.t 7)) none,
  .op (some 3) (.alloc 69 [(.pointer none)]) none,
  .op none (.store 1 (.t 3) (.t 8)) none])
 (.seq (.reg [.op (some 9) (.load false 1 (.t 3)) none,
  .op (some 10) (.fieldA 0 (.t 1)) none,
  .op (some 11) (.load false 1 (.t 10)) none,
  .op (some 12) (.mkF 9 1 1 [(.t 11)]) none,
  .op (some 13) (.call 21 [(.t 9),(.t 12)]) none])
 (.seq (.reg [.op (some 14) (.load false 1 (.t 3)) none,
  .op (some 15) (.fieldA 1 (.t 1)) none,
  .op (some 16) (.load false 1 (.t 15)) none,
  .op (some 17) (.mkfn 62 [] [(.t 3)]) none,
  .op (some 18) (.call 61 [(.t 14),(.t 16),(.t 17)]) none])
 (.seq (.reg [.op (some 19) (.load false 1 (.t 3)) none,
  .op (some 20) (.fieldA 2 (.t 1)) none,
  .op (some 21) (.load false 1 (.t 20)) none,
  .op (some 22) (.mkfn 64 [] [(.t 3)]) none,
  .op (some 23) (.call 63 [(.t 19),(.t 21),(.t 22)]) none])
 (.seq (.reg [.op (some 24) (.load false 1 (.t 3)) none,
  .op (some 25) (.fieldA 3 (.t 1)) none,
  .op (some 26) (.load false 1 (.t 25)) none,
  .op (some 27) (.fieldA 4 (.t 1)) none,
  .op (some 28) (.load false 1 (.t 27)) none,
  .op (some 29) (.len (.t 28)) none,
  .op (some 30) (.mkF 3 2 1 [(.t 26),(.t 29)]) none,
  .op (some 31) (.call 65 [(.t 24),(.t 30)]) none])
 (.seq (.regD [.op (some 32) (.loadD false 1 (.t 3)) none,
  .op (some 33) (.nilck (.t 32)) none,
  .op (some 34) (.fieldA 0 (.t 33)) none,
  .op (some 35) (.fieldA 4 (.t 1)) none,
  .op (some 36) (.loadD false 1 (.t 35)) none,
  .op (some 37) (.callO 66 [(.t 34),(.t 36)]) none])
 (.seq (.reg [.op (some 38) (.load false 1 (.t 3)) none,
  .op (some 39) (.nilck (.t 38)) none,
  .op (some 40) (.fieldA 0 (.t 39)) none,
  .op (some 41) (.call 34 [(.t 40)]) none,
  .op (some 42) (.call 67 [(.t 41)]) none,
  .op (some 2) (.mov (.t 42)) none])
 .ret)))))))))
def A13:Ann:={ n:=43,own:=[1],frz:=[],ord:=[(8,[0,1,2,3,4,5],[[],[0],[0,1],[],[3],[0,1,2,3,4]])],co:=[37] }
theorem facts13:factsOf Tryz.prog A13 Tryz.f13 = some (c13,43,[(2,none)],false):=by kernel_rfl
def c14:SCode:=(.seq (.reg [.op (some 0) (.alloc 42 [(.string ⟨#[]⟩),(.slice none 0 0),(.slice none 0 0),(.int .i64 0),(.slice none 0 0)]) none])
 (.seq (.reg [.op (some 1) (.mkF 5 1 1 [(.c (.int .u8 1))]) none,
  .op (some 2) (.build [(.string ⟨#[]⟩),(.slice none 0 0),(.slice none 0 0),(.int .i64 0),(.slice none 0 0)] [(0,1,(.c (.string ⟨#[109]⟩))),(3,1,(.c (.int .i64 7000023))),(4,1,(.t 1))]) none,
  .op none (.store 5 (.t 0) (.t 2)) none])
 .ret))
def A14:Ann:={ n:=3,own:=[],frz:=[],ord:=[] }
theorem facts14:factsOf Tryz.prog A14 Tryz.f14 = some (c14,3,[(0,some (true,5))],false):=by kernel_rfl
def c15:SCode:=(.seq (.reg [.op (some 2) (.mov (.c (.int .i64 0))) none])
 (.seq (.reg [.op (some 3) (.mov (.t 0)) none,
  .op (some 4) (.call 68 [(.t 3),(.fn 69)]) none,
  .op (some 2) (.mov (.t 4)) none])
 .ret))
def A15:Ann:={ n:=5,own:=[],frz:=[],ord:=[] }
theorem facts15:factsOf Tryz.prog A15 Tryz.f15 = some (c15,5,[(2,none)],false):=by kernel_rfl
def c16a:SCode:=(.reg [.op (some 2) (.alloc 42 [(.string ⟨#[]⟩),(.slice none 0 0),(.slice none 0 0),(.int .i64 0),(.slice none 0 0)]) none,
  .op (some 3) (.alloc 43 [(.int .i64 0)]) none])
def c16:SCode:=(.seq (.reg [.op (some 8) (.mov (.t 0)) none,
  .op (some 9) (.len (.t 8)) none,
  .op (some 10) (.bin .sub (.t 9) (.c (.int .i64 4))) none,
  .op (some 4) (.mov (.t 10)) none])
 (.seq (.seq (.reg [.op (some 11) (.mov (.t 4)) none,
  .op (some 12) (.bin .lss (.t 11) (.c (.int .i64 0))) none])
 (.cond (.t 12)
 (.reg [.op (some 13) (.mkif 43 (.c (.int .i64 16))) none,
   .pc none (.pan (.t 13)) none])
 .skip))
 (.seq (.seq (.reg [.op (some 14) (.mov (.t 0)) none,
  .op (some 15) (.mov (.t 4)) none,
  .op (some 16) (.slc 1 (.t 14) none (some (.t 15))) none,
  .op (some 17) (.call 67 [(.t 16)]) none,
  .op (some 18) (.mov (.t 0)) none,
  .op (some 19) (.call 71 [(.t 17),(.t 18)]) none,
  .op (some 20) (.un .not (.t 19)) none])
 (.cond (.t 20)
 (.reg [.op (some 21) (.mkif 43 (.c (.int .i64 17))) none,
   .pc none (.pan (.t 21)) none])
 .skip))
 (.seq (.reg [.op (some 22) (.mov (.t 0)) none,
  .op (some 23) (.mov (.t 4)) none,
  .op (some 24) (.slc 1 (.t 22) none (some (.t 23))) none,
  .op (some 25) (.call 72 [(.t 24)]) none,
  .op (some 26) (.build [(.pointer none)] [(0,1,(.t 25))]) none,
  .op (some 5) (.alloc 132 [(.pointer none)]) none,
  .op none (.store 1 (.t 5) (.t 26)) none])
 (.seq (.reg [.frz 5,
  .op (some 27) (.mkfn 73 [] [(.t 5)]) none,
  .op (some 6) (.mov (.t 27)) none])
 (.seq (.regX [.op (some 28) (.mov (.t 6)) none,
  .op (some 30) (.loadF true 1 (.t 5)) none,
  .op (some 31) (.mov (.t 6)) none,
  .op (some 33) (.loadF true 1 (.t 5)) none,
  .op (some 34) (.loadF true 1 (.t 5)) none,
  .op (some 35) (.mkfn 77 [(.t 34)] []) none,
  .pc (some 29) (.callV (.t 28) []) none,
  .op (some 37) (.fieldA 0 (.t 2)) none,
  .pc (some 32) (.call 75 [(.t 30),(.t 31)]) none,
  .pc (some 36) (.call 76 [(.t 33),(.t 35)]) none,
  .op none (.storeD 1 (.t 37) (.t 29)) none,
  .op (some 38) (.fieldA 1 (.t 2)) none,
  .op none (.storeD 1 (.t 38) (.t 32)) none,
  .op (some 39) (.fieldA 2 (.t 2)) none,
  .op none (.storeD 1 (.t 39) (.t 36)) none])
 (.seq (.regX [.op (some 40) (.loadF true 1 (.t 5)) none,
  .op (some 42) (.loadF true 1 (.t 5)) none,
  .pc (some 41) (.call 77 [(.t 40)]) none,
  .op (some 44) (.fieldA 3 (.t 2)) none,
  .pc (some 43) (.call 74 [(.t 42)]) none,
  .op none (.storeD 1 (.t 44) (.t 41)) none,
  .op (some 45) (.fieldA 4 (.t 2)) none,
  .op none (.storeD 1 (.t 45) (.t 43)) none])
 (.seq (.seq (.reg [.op (some 46) (.fieldA 0 (.t 5)) none,
  .op (some 47) (.load false 1 (.t 46)) none,
  .op (some 48) (.call 78 [(.t 47)]) none,
  .op (some 49) (.bin .gtr (.t 48) (.c (.int .i64 0))) none,
  .op (some 50) (.mov (.t 49)) none,
  .op (some 51) (.load true 5 (.t 2)) (some (50,false)),
  .op (some 52) (.call 60 [(.t 51)]) (some (50,false)),
  .op (some 53) (.un .not (.t 52)) (some (50,false)),
  .op (some 54) (.pick (.t 50) (.c (.bool true)) (.t 53)) none])
 (.cond (.t 54)
 (.reg [.op (some 55) (.mkif 43 (.c (.int .i64 16))) none,
   .pc none (.pan (.t 55)) none])
 .skip))
 (.seq (.reg [.op (some 56) (.load true 5 (.t 2)) none,
  .op none (.store 5 (.t 2) (.t 56)) none,
  .op none (.store 1 (.t 3) (.c (.int .i64 0))) none])
 .ret)))))))))
def A16:Ann:={ n:=57,own:=[],frz:=[(8,0,[5])],ord:=[(9,[0,2,3,5,6,7,1,9,4,8,10,11,12,13,14],[[],[0],[],[],[0,1,2,3],[],[],[6],[0,1,2,3,4,5,6,7],[0,1],[0,1,2,3,4,5,6,7,8,9],[0,1,2,3,4,5,6,7,8,9,10],[0,1,2,3,4,5,6,7,8,9,10,11],[0,1,2,3,4,5,6,7,8,9,10,11,12],[0,1,2,3,4,5,6,7,8,9,10,11,12,13]]),(10,[0,2,1,4,3,5,6,7],[[],[0],[],[0,1,2],[0,1],[0,1,2,3,4],[0,1,2,3,4,5],[0,1,2,3,4,5,6]])],pan:=[(4,1),(6,1),(12,1)],fl:=[5],px:=[29,32,36,41,43] }
theorem facts16:factsK Tryz.prog A16 Tryz.f16 = some (c16a,c16,70,[2,3],7,[(2,some (true,5)),(3,some (false,1))]):=by kernel_rfl
def c17:SCode:=(.seq (.reg [.op (some 1) (.box 29 (.t 0)) none,
  .op (some 2) (.mov (.c (.bool false))) none])
 (.seq (.seq (.reg [.op (some 8) (.fieldA 2 (.t 1)) none,
  .op (some 9) (.load false 1 (.t 8)) none,
  .op (some 10) (.len (.t 9)) none,
  .op (some 11) (.bin .gtr (.t 10) (.c (.int .i64 20))) none,
  .op (some 12) (.mov (.t 11)) none,
  .op (some 13) (.fieldA 6 (.t 1)) (some (12,false)),
  .op (some 14) (.load false 1 (.t 13)) (some (12,false)),
  .op (some 15) (.len (.t 14)) (some (12,false)),
  .op (some 16) (.bin .gtr (.t 15) (.c (.int .i64 10))) (some (12,false)),
  .op (some 17) (.pick (.t 12) (.c (.bool true)) (.t 16)) none,
  .op (some 18) (.mov (.t 17)) none,
  .op (some 19) (.fieldA 3 (.t 1)) (some (18,false)),
  .op (some 20) (.load false 1 (.t 19)) (some (18,false)),
  .op (some 21) (.len (.t 20)) (some (18,false)),
  .op (some 22) (.bin .gtr (.t 21) (.c (.int .i64 10))) (some (18,false)),
  .op (some 23) (.pick (.t 18) (.c (.bool true)) (.t 22)) none])
 (.cond (.t 23)
 (.seq (.reg [.op (some 2) (.mov (.c (.bool false))) none])
  .ret)
 .skip))
 (.seq (.seq (.reg [.op (some 3) (.mov (.c (.int .i64 0))) none])
 (.block 0
 (.loop [24,25,26,27,28,31,32,33,34,35,36,37,38,2,4,39,40,41,42,43,44,45,46,47,50,51,52,53,54,55,56,57,58,59,5,60,61,62,2,6,63,64,65,66,69,70,71,72,73,74,2,67,68,6,48,49,4,29,30,3]
  (.seq (.seq (.reg [.op (some 24) (.mov (.t 3)) none,
    .op (some 25) (.fieldA 2 (.t 1)) none,
    .op (some 26) (.load false 1 (.t 25)) none,
    .op (some 27) (.len (.t 26)) none,
    .op (some 28) (.bin .lss (.t 24) (.t 27)) none])
   (.cond (.t 28)
   .skip
   (.exit 0)))
   (.seq (.block 1
   (.seq (.seq (.reg [.op (some 31) (.fieldA 2 (.t 1)) none,
     .op (some 32) (.load false 1 (.t 31)) none,
     .op (some 33) (.mov (.t 3)) none,
     .op (some 34) (.idxA 5 (.t 32) (.t 33)) none,
     .op (some 35) (.fieldA 3 (.t 34)) none,
     .op (some 36) (.load false 1 (.t 35)) none,
     .op (some 37) (.len (.t 36)) none,
     .op (some 38) (.bin .gtr (.t 37) (.c (.int .i64 8))) none])
    (.cond (.t 38)
    (.seq (.reg [.op (some 2) (.mov (.c (.bool false))) none])
     .ret)
    .skip))
    (.seq (.reg [.op (some 4) (.mov (.c (.int .i64 0))) none])
    (.block 2
    (.loop [39,40,41,42,43,44,45,46,47,50,51,52,53,54,55,56,57,58,59,5,60,61,62,2,6,63,64,65,66,69,70,71,72,73,74,2,67,68,6,48,49,4]
     (.seq (.seq (.reg [.op (some 39) (.mov (.t 4)) none,
       .op (some 40) (.fieldA 2 (.t 1)) none,
       .op (some 41) (.load false 1 (.t 40)) none,
       .op (some 42) (.mov (.t 3)) none,
       .op (some 43) (.idxA 5 (.t 41) (.t 42)) none,
       .op (some 44) (.fieldA 3 (.t 43)) none,
       .op (some 45) (.load false 1 (.t 44)) none,
       .op (some 46) (.len (.t 45)) none,
       .op (some 47) (.bin .lss (.t 39) (.t 46)) none])
      (.cond (.t 47)
      .skip
      (.exit 2)))
      (.seq (.block 3
      (.seq (.reg [.op (some 50) (.fieldA 2 (.t 1)) none,
        .op (some 51) (.load false 1 (.t 50)) none,
        .op (some 52) (.mov (.t 3)) none,
        .op (some 53) (.idxA 5 (.t 51) (.t 52)) none,
        .op (some 54) (.fieldA 3 (.t 53)) none,
        .op (some 55) (.load false 1 (.t 54)) none,
        .op (some 56) (.mov (.t 4)) none,
        .op (some 57) (.idxA 2 (.t 55) (.t 56)) none,
        .op (some 58) (.fieldA 1 (.t 57)) none,
        .op (some 59) (.load false 1 (.t 58)) none,
        .op (some 5) (.mov (.t 59)) none])
       (.seq (.seq (.reg [.op (some 60) (.mov (.t 5)) none,
        .op (some 61) (.len (.t 60)) none,
        .op (some 62) (.bin .gtr (.t 61) (.c (.int .i64 10))) none])
       (.cond (.t 62)
       (.seq (.reg [.op (some 2) (.mov (.c (.bool false))) none])
        .ret)
       .skip))
       (.seq (.reg [.op (some 6) (.mov (.c (.int .i64 0))) none])
       (.block 4
       (.loop [63,64,65,66,69,70,71,72,73,74,2,67,68,6]
        (.seq (.seq (.reg [.op (some 63) (.mov (.t 6)) none,
          .op (some 64) (.mov (.t 5)) none,
          .op (some 65) (.len (.t 64)) none,
          .op (some 66) (.bin .lss (.t 63) (.t 65)) none])
         (.cond (.t 66)
         .skip
         (.exit 4)))
         (.seq (.block 5
         (.seq (.reg [.op (some 69) (.mov (.t 5)) none,
           .op (some 70) (.mov (.t 6)) none,
           .op (some 71) (.idxA 3 (.t 69) (.t 70)) none,
           .op (some 72) (.load true 3 (.t 71)) none,
           .op (some 73) (.call 18 [(.t 72),(.c (.int .i64 30))]) none,
           .op (some 74) (.bin .gtr (.t 73) (.c (.int .i64 30))) none])
          (.cond (.t 74)
          (.seq (.reg [.op (some 2) (.mov (.c (.bool false))) none])
           .ret)
          .skip)))
         (.reg [.op (some 67) (.mov (.t 6)) none,
          .op (some 68) (.bin .add (.t 67) (.c (.int .i64 1))) none,
          .op (some 6) (.mov (.t 68)) none])))))))))
      (.reg [.op (some 48) (.mov (.t 4)) none,
       .op (some 49) (.bin .add (.t 48) (.c (.int .i64 1))) none,
       .op (some 4) (.mov (.t 49)) none]))))))))
   (.reg [.op (some 29) (.mov (.t 3)) none,
    .op (some 30) (.bin .add (.t 29) (.c (.int .i64 1))) none,
    .op (some 3) (.mov (.t 30)) none]))))))
 (.seq (.seq (.reg [.op (some 7) (.mov (.c (.int .i64 0))) none])
 (.block 6
 (.loop [75,76,77,78,79,82,83,84,85,86,87,88,2,80,81,7]
  (.seq (.seq (.reg [.op (some 75) (.mov (.t 7)) none,
    .op (some 76) (.fieldA 6 (.t 1)) none,
    .op (some 77) (.load false 1 (.t 76)) none,
    .op (some 78) (.len (.t 77)) none,
    .op (some 79) (.bin .lss (.t 75) (.t 78)) none])
   (.cond (.t 79)
   .skip
   (.exit 6)))
   (.seq (.block 7
   (.seq (.reg [.op (some 82) (.fieldA 6 (.t 1)) none,
     .op (some 83) (.load false 1 (.t 82)) none,
     .op (some 84) (.mov (.t 7)) none,
     .op (some 85) (.idxA 11 (.t 83) (.t 84)) none,
     .op (some 86) (.load true 11 (.t 85)) none,
     .op (some 87) (.call 7 [(.t 86)]) none,
     .op (some 88) (.un .not (.t 87)) none])
    (.cond (.t 88)
    (.seq (.reg [.op (some 2) (.mov (.c (.bool false))) none])
     .ret)
    .skip)))
   (.reg [.op (some 80) (.mov (.t 7)) none,
    .op (some 81) (.bin .add (.t 80) (.c (.int .i64 1))) none,
    .op (some 7) (.mov (.t 81)) none]))))))
 (.seq (.reg [.op (some 2) (.mov (.c (.bool true))) none])
 .ret)))))
def A17:Ann:={ n:=89,own:=[],frz:=[],ord:=[] }
theorem facts17:factsOf Tryz.prog A17 Tryz.f17 = some (c17,89,[(2,none)],false):=by kernel_rfl
def c18:SCode:=(.seq (.reg [.op (some 2) (.box 33 (.t 0)) none,
  .op (some 4) (.mov (.c (.int .i64 0))) none])
 (.seq (.reg [.op (some 5) (.mov (.c (.int .i64 1))) none])
 (.seq (.seq (.reg [.op (some 6) (.mov (.c (.int .i64 0))) none])
 (.block 0
 (.loop [7,8,9,10,11,12,13,14,15,16,19,20,21,22,23,24,25,26,27,28,29,5,17,18,6]
  (.seq (.seq (.reg [.op (some 7) (.mov (.t 6)) none,
    .op (some 8) (.fieldA 2 (.t 2)) none,
    .op (some 9) (.load false 1 (.t 8)) none,
    .op (some 10) (.len (.t 9)) none,
    .op (some 11) (.bin .lss (.t 7) (.t 10)) none,
    .op (some 12) (.mov (.t 11)) none,
    .op (some 13) (.mov (.t 5)) (some (12,true)),
    .op (some 14) (.mov (.t 1)) (some (12,true)),
    .op (some 15) (.bin .leq (.t 13) (.t 14)) (some (12,true)),
    .op (some 16) (.pick (.t 12) (.t 15) (.c (.bool false))) none])
   (.cond (.t 16)
   .skip
   (.exit 0)))
   (.seq (.block 1
   (.reg [.op (some 19) (.mov (.t 5)) none,
     .op (some 20) (.fieldA 2 (.t 2)) none,
     .op (some 21) (.load false 1 (.t 20)) none,
     .op (some 22) (.mov (.t 6)) none,
     .op (some 23) (.idxA 3 (.t 21) (.t 22)) none,
     .op (some 24) (.load true 3 (.t 23)) none,
     .op (some 25) (.mov (.t 1)) none,
     .op (some 26) (.mov (.t 5)) none,
     .op (some 27) (.bin .sub (.t 25) (.t 26)) none,
     .op (some 28) (.call 18 [(.t 24),(.t 27)]) none,
     .op (some 29) (.bin .add (.t 19) (.t 28)) none,
     .op (some 5) (.mov (.t 29)) none]))
   (.reg [.op (some 17) (.mov (.t 6)) none,
    .op (some 18) (.bin .add (.t 17) (.c (.int .i64 1))) none,
    .op (some 6) (.mov (.t 18)) none]))))))
 (.seq (.reg [.op (some 30) (.mov (.t 5)) none,
  .op (some 4) (.mov (.t 30)) none])
 .ret))))
def A18:Ann:={ n:=31,own:=[],frz:=[],ord:=[] }
theorem facts18:factsOf Tryz.prog A18 Tryz.f18 = some (c18,31,[(4,none)],false):=by kernel_rfl
def c19:SCode:=(.seq (.reg [.op (some 2) (.mov (.c (.bool false))) none])
 (.seq (.seq (.reg [.op (some 3) (.mov (.c (.int .i64 0))) none])
 (.block 0
 (.loop [4,5,6,7,10,11,12,13,14,15,2,8,9,3]
  (.seq (.seq (.reg [.op (some 4) (.mov (.t 3)) none,
    .op (some 5) (.mov (.t 0)) none,
    .op (some 6) (.len (.t 5)) none,
    .op (some 7) (.bin .lss (.t 4) (.t 6)) none])
   (.cond (.t 7)
   .skip
   (.exit 0)))
   (.seq (.block 1
   (.seq (.reg [.op (some 10) (.mov (.t 0)) none,
     .op (some 11) (.mov (.t 3)) none,
     .op (some 12) (.idxA 3 (.t 10) (.t 11)) none,
     .op (some 13) (.load true 3 (.t 12)) none,
     .op (some 14) (.call 18 [(.t 13),(.c (.int .i64 30))]) none,
     .op (some 15) (.bin .gtr (.t 14) (.c (.int .i64 30))) none])
    (.cond (.t 15)
    (.seq (.reg [.op (some 2) (.mov (.c (.bool false))) none])
     .ret)
    .skip)))
   (.reg [.op (some 8) (.mov (.t 3)) none,
    .op (some 9) (.bin .add (.t 8) (.c (.int .i64 1))) none,
    .op (some 3) (.mov (.t 9)) none]))))))
 (.seq (.reg [.op (some 16) (.mov (.t 0)) none,
  .op (some 17) (.len (.t 16)) none,
  .op (some 18) (.bin .leq (.t 17) (.c (.int .i64 8))) none,
  .op (some 2) (.mov (.t 18)) none])
 .ret)))
def A19:Ann:={ n:=19,own:=[],frz:=[],ord:=[] }
theorem facts19:factsOf Tryz.prog A19 Tryz.f19 = some (c19,19,[(2,none)],false):=by kernel_rfl
def c20:SCode:=(.seq (.reg [.op (some 2) (.mov (.c (.slice none 0 0))) none])
 (.seq (.seq (.reg [.op (some 3) (.mov (.t 0)) none,
  .op (some 4) (.eqS false (.t 3) (.c (.slice none 0 0))) none])
 (.cond (.t 4)
 (.seq (.reg [.op (some 2) (.mov (.c (.slice none 0 0))) none])
  .ret)
 .skip))
 (.seq (.reg [.op (some 5) (.mkR 3 0 1 []) none,
  .op (some 6) (.mov (.t 0)) none,
  .op (some 7) (.app 3 1 8 [(.int .i64 0)] (.t 5) (.t 6)) none,
  .op (some 2) (.mov (.t 7)) none])
 .ret)))
def A20:Ann:={ n:=8,own:=[5],frz:=[],ord:=[] }
theorem facts20:factsOf Tryz.prog A20 Tryz.f20 = some (c20,8,[(2,none)],false):=by kernel_rfl
def c21:SCode:=(.seq (.reg [.op (some 6) (.mov (.t 1)) none,
  .op (some 7) (.len (.t 6)) none,
  .op (some 8) (.mov (.c (.int .i64 0))) none])
 (.block 0
 (.loop [9,10,11,5,12,13,14,15,16,17,18,19,20,21,22,8]
  (.seq (.reg [.op (some 9) (.bin .lss (.t 8) (.t 7)) none])
   (.seq (.cond (.t 9)
   .skip
   (.exit 0))
   (.seq (.block 1
   (.seq (.reg [.op (some 10) (.idxA 1 (.t 6) (.t 8)) none,
     .op (some 11) (.load false 1 (.t 10)) none,
     .op (some 5) (.mov (.t 11)) none])
    (.seq (.reg [.op (some 12) (.mov (.t 0)) none,
     .op (some 13) (.mov (.t 5)) none,
     .op (some 14) (.lenS (.t 13)) none,
     .op (some 15) (.mkF 3 1 1 [(.t 14)]) none,
     .op (some 16) (.call 65 [(.t 12),(.t 15)]) none])
    (.reg [.op (some 17) (.mov (.t 0)) none,
     .op (some 18) (.nilck (.t 17)) none,
     .op (some 19) (.fieldA 0 (.t 18)) none,
     .op (some 20) (.mov (.t 5)) none,
     .op (some 21) (.call 79 [(.t 19),(.t 20)]) none]))))
   (.reg [.op (some 22) (.bin .add (.t 8) (.c (.int .i64 1))) none,
    .op (some 8) (.mov (.t 22)) none])))))))
def A21:Ann:={ n:=23,own:=[],frz:=[],ord:=[] }
theorem facts21:factsOf Tryz.prog A21 Tryz.f21 = some (c21,23,[],false):=by kernel_rfl
def c22:SCode:=(.seq (.reg [.op (some 8) (.mov (.t 0)) none,
  .op (some 9) (.mov (.t 1)) none,
  .op (some 10) (.len (.t 9)) none,
  .op (some 11) (.mkF 3 1 1 [(.t 10)]) none,
  .op (some 12) (.call 65 [(.t 8),(.t 11)]) none])
 (.seq (.reg [.op (some 13) (.mov (.t 1)) none,
  .op (some 14) (.len (.t 13)) none,
  .op (some 15) (.mov (.c (.int .i64 0))) none])
 (.block 0
 (.loop [16,17,18,7,19,20,21,22,15]
  (.seq (.reg [.op (some 16) (.bin .lss (.t 15) (.t 14)) none])
   (.seq (.cond (.t 16)
   .skip
   (.exit 0))
   (.seq (.block 1
   (.seq (.reg [.op (some 17) (.idxA 5 (.t 13) (.t 15)) none,
     .op (some 18) (.load true 5 (.t 17)) none,
     .op (some 7) (.alloc 80 [(.string ⟨#[]⟩),(.int .i64 0),(.int .i64 0),(.slice none 0 0),(.int .i64 0)]) none,
     .op none (.store 5 (.t 7) (.t 18)) none])
    (.reg [.op (some 19) (.mov (.t 2)) none,
     .op (some 20) (.load true 5 (.t 7)) none,
     .op (some 21) (.callV (.t 19) [(.t 20)]) none])))
   (.reg [.op (some 22) (.bin .add (.t 15) (.c (.int .i64 1))) none,
    .op (some 15) (.mov (.t 22)) none]))))))))
def A22:Ann:={ n:=23,own:=[],frz:=[],ord:=[] }
theorem facts22:factsOf Tryz.prog A22 Tryz.f22 = some (c22,23,[],false):=by kernel_rfl
def c23:SCode:=(.seq (.reg [.op (some 4) (.mov (.c (.slice none 0 0))) none])
 (.seq (.reg [.op (some 5) (.mov (.c (.slice none 0 0))) none])
 (.seq (.seq (.reg [.op (some 8) (.mov (.t 0)) none,
  .op (some 9) (.len (.t 8)) none,
  .op (some 10) (.mov (.c (.int .i64 0))) none])
 (.block 0
 (.loop [11,12,13,7,14,15,16,17,18,19,20,5,21,10]
  (.seq (.reg [.op (some 11) (.bin .lss (.t 10) (.t 9)) none])
   (.seq (.cond (.t 11)
   .skip
   (.exit 0))
   (.seq (.block 1
   (.seq (.reg [.op (some 12) (.idxA 5 (.t 8) (.t 10)) none,
     .op (some 13) (.load true 5 (.t 12)) none,
     .op (some 7) (.alloc 80 [(.string ⟨#[]⟩),(.int .i64 0),(.int .i64 0),(.slice none 0 0),(.int .i64 0)]) none,
     .op none (.store 5 (.t 7) (.t 13)) none])
    (.seq (.reg [.op (some 14) (.mov (.t 1)) none,
     .op (some 15) (.load true 5 (.t 7)) none,
     .op (some 16) (.callV (.t 14) [(.t 15)]) none])
    (.cond (.t 16)
    (.reg [.op (some 17) (.mov (.t 5)) none,
      .op (some 18) (.load true 5 (.t 7)) none,
      .op (some 19) (.mkF 80 1 5 [(.t 18)]) none,
      .op (some 20) (.app 80 5 64 [(.string ⟨#[]⟩),(.int .i64 0),(.int .i64 0),(.slice none 0 0),(.int .i64 0)] (.t 17) (.t 19)) none,
      .op (some 5) (.mov (.t 20)) none])
    .skip))))
   (.reg [.op (some 21) (.bin .add (.t 10) (.c (.int .i64 1))) none,
    .op (some 10) (.mov (.t 21)) none])))))))
 (.seq (.reg [.op (some 22) (.mov (.t 5)) none,
  .op (some 4) (.mov (.t 22)) none])
 .ret))))
def A23:Ann:={ n:=23,own:=[],frz:=[],ord:=[] }
theorem facts23:factsOf Tryz.prog A23 Tryz.f23 = some (c23,23,[(4,none)],false):=by kernel_rfl
def c24:SCode:=(.seq (.reg [.op (some 2) (.boxF 80 (.t 0)) none,
  .op (some 3) (.mov (.c (.bool false))) none])
 (.seq (.reg [.op (some 4) (.fieldA 1 (.t 2)) none,
  .op (some 5) (.load false 1 (.t 4)) none,
  .op (some 6) (.load false 1 (.t 1)) none,
  .op (some 7) (.bin .eql (.t 5) (.t 6)) none,
  .op (some 3) (.mov (.t 7)) none])
 .ret))
def A24:Ann:={ n:=8,own:=[2],frz:=[],ord:=[] }
theorem facts24:factsOf Tryz.prog A24 Tryz.f24 = some (c24,8,[(3,none)],false):=by kernel_rfl
def c25:SCode:=(.seq (.reg [.op (some 2) (.box 69 (.t 0)) none,
  .op (some 3) (.boxF 80 (.t 1)) none])
 (.seq (.reg [.op (some 4) (.load false 1 (.t 2)) none,
  .op (some 5) (.fieldA 0 (.t 3)) none,
  .op (some 6) (.load false 1 (.t 5)) none,
  .op (some 7) (.mkF 9 1 1 [(.t 6)]) none,
  .op (some 8) (.call 21 [(.t 4),(.t 7)]) none])
 (.seq (.reg [.op (some 9) (.load false 1 (.t 2)) none,
  .op (some 10) (.fieldA 2 (.t 3)) none,
  .op (some 11) (.load false 1 (.t 10)) none,
  .op (some 12) (.fieldA 4 (.t 3)) none,
  .op (some 13) (.load false 1 (.t 12)) none,
  .op (some 14) (.mkF 3 2 1 [(.t 11),(.t 13)]) none,
  .op (some 15) (.call 65 [(.t 9),(.t 14)]) none])
 (.reg [.op (some 16) (.load false 1 (.t 2)) none,
  .op (some 17) (.fieldA 3 (.t 3)) none,
  .op (some 18) (.load false 1 (.t 17)) none,
  .op (some 19) (.mkfn 81 [] [(.t 2)]) none,
  .op (some 20) (.call 80 [(.t 16),(.t 18),(.t 19)]) none]))))
def A25:Ann:={ n:=21,own:=[3],frz:=[],ord:=[] }
theorem facts25:factsOf Tryz.prog A25 Tryz.f25 = some (c25,21,[],false):=by kernel_rfl
def c26:SCode:=(.seq (.reg [.op (some 8) (.mov (.t 0)) none,
  .op (some 9) (.mov (.t 1)) none,
  .op (some 10) (.len (.t 9)) none,
  .op (some 11) (.mkF 3 1 1 [(.t 10)]) none,
  .op (some 12) (.call 65 [(.t 8),(.t 11)]) none])
 (.seq (.reg [.op (some 13) (.mov (.t 1)) none,
  .op (some 14) (.len (.t 13)) none,
  .op (some 15) (.mov (.c (.int .i64 0))) none])
 (.block 0
 (.loop [16,17,18,7,19,20,21,22,15]
  (.seq (.reg [.op (some 16) (.bin .lss (.t 15) (.t 14)) none])
   (.seq (.cond (.t 16)
   .skip
   (.exit 0))
   (.seq (.block 1
   (.seq (.reg [.op (some 17) (.idxA 8 (.t 13) (.t 15)) none,
     .op (some 18) (.load true 8 (.t 17)) none,
     .op (some 7) (.alloc 50 [(.int .i64 0),(.int .i64 0),(.int .i64 0),(.slice none 0 0),(.int .i64 0),(.int .i64 0),(.slice none 0 0),(.int .i64 0)]) none,
     .op none (.store 8 (.t 7) (.t 18)) none])
    (.reg [.op (some 19) (.mov (.t 2)) none,
     .op (some 20) (.load true 8 (.t 7)) none,
     .op (some 21) (.callV (.t 19) [(.t 20)]) none])))
   (.reg [.op (some 22) (.bin .add (.t 15) (.c (.int .i64 1))) none,
    .op (some 15) (.mov (.t 22)) none]))))))))
def A26:Ann:={ n:=23,own:=[],frz:=[],ord:=[] }
theorem facts26:factsOf Tryz.prog A26 Tryz.f26 = some (c26,23,[],false):=by kernel_rfl
def c27:SCode:=(.seq (.reg [.op (some 4) (.mov (.c (.slice none 0 0))) none])
 (.seq (.reg [.op (some 5) (.mov (.c (.slice none 0 0))) none])
 (.seq (.seq (.reg [.op (some 8) (.mov (.t 0)) none,
  .op (some 9) (.len (.t 8)) none,
  .op (some 10) (.mov (.c (.int .i64 0))) none])
 (.block 0
 (.loop [11,12,13,7,14,15,16,17,18,19,20,5,21,10]
  (.seq (.reg [.op (some 11) (.bin .lss (.t 10) (.t 9)) none])
   (.seq (.cond (.t 11)
   .skip
   (.exit 0))
   (.seq (.block 1
   (.seq (.reg [.op (some 12) (.idxA 8 (.t 8) (.t 10)) none,
     .op (some 13) (.load true 8 (.t 12)) none,
     .op (some 7) (.alloc 50 [(.int .i64 0),(.int .i64 0),(.int .i64 0),(.slice none 0 0),(.int .i64 0),(.int .i64 0),(.slice none 0 0),(.int .i64 0)]) none,
     .op none (.store 8 (.t 7) (.t 13)) none])
    (.seq (.reg [.op (some 14) (.mov (.t 1)) none,
     .op (some 15) (.load true 8 (.t 7)) none,
     .op (some 16) (.callV (.t 14) [(.t 15)]) none])
    (.cond (.t 16)
    (.reg [.op (some 17) (.mov (.t 5)) none,
      .op (some 18) (.load true 8 (.t 7)) none,
      .op (some 19) (.mkF 50 1 8 [(.t 18)]) none,
      .op (some 20) (.app 50 8 96 [(.int .i64 0),(.int .i64 0),(.int .i64 0),(.slice none 0 0),(.int .i64 0),(.int .i64 0),(.slice none 0 0),(.int .i64 0)] (.t 17) (.t 19)) none,
      .op (some 5) (.mov (.t 20)) none])
    .skip))))
   (.reg [.op (some 21) (.bin .add (.t 10) (.c (.int .i64 1))) none,
    .op (some 10) (.mov (.t 21)) none])))))))
 (.seq (.reg [.op (some 22) (.mov (.t 5)) none,
  .op (some 4) (.mov (.t 22)) none])
 .ret))))
def A27:Ann:={ n:=23,own:=[],frz:=[],ord:=[] }
theorem facts27:factsOf Tryz.prog A27 Tryz.f27 = some (c27,23,[(4,none)],false):=by kernel_rfl
def c28:SCode:=(.seq (.reg [.op (some 2) (.boxF 50 (.t 0)) none,
  .op (some 3) (.mov (.c (.bool false))) none])
 (.seq (.reg [.op (some 4) (.fieldA 1 (.t 2)) none,
  .op (some 5) (.load false 1 (.t 4)) none,
  .op (some 6) (.load false 1 (.t 1)) none,
  .op (some 7) (.bin .eql (.t 5) (.t 6)) none,
  .op (some 3) (.mov (.t 7)) none])
 .ret))
def A28:Ann:={ n:=8,own:=[2],frz:=[],ord:=[] }
theorem facts28:factsOf Tryz.prog A28 Tryz.f28 = some (c28,8,[(3,none)],false):=by kernel_rfl
def c29:SCode:=(.seq (.reg [.op (some 3) (.boxF 50 (.t 1)) none])
 (.seq (.regD [.op (some 4) (.mov (.t 0)) none,
  .op (some 5) (.mov (.t 0)) none,
  .op (some 6) (.nilck (.t 5)) none,
  .op (some 7) (.fieldA 3 (.t 6)) none,
  .op (some 8) (.fieldA 3 (.t 7)) none,
  .op (some 9) (.loadD false 1 (.t 8)) none,
  .op (some 10) (.fieldA 0 (.t 3)) none,
  .op (some 11) (.loadD false 1 (.t 10)) none,
  .op (some 12) (.callD 84 [(.t 9),(.t 11)]) none,
  .op (some 13) (.mkFD 9 1 1 [(.t 12)]) none,
  .op (some 14) (.callO 21 [(.t 4),(.t 13)]) none])
 (.seq (.reg [.op (some 15) (.mov (.t 0)) none,
  .op (some 16) (.fieldA 2 (.t 3)) none,
  .op (some 17) (.load false 1 (.t 16)) none,
  .op (some 18) (.mkF 3 1 1 [(.t 17)]) none,
  .op (some 19) (.call 65 [(.t 15),(.t 18)]) none])
 (.seq (.reg [.op (some 20) (.mov (.t 0)) none,
  .op (some 21) (.fieldA 3 (.t 3)) none,
  .op (some 22) (.load false 1 (.t 21)) none,
  .op (some 23) (.mov (.t 0)) none,
  .op (some 24) (.mkfn 86 [(.t 23)] []) none,
  .op (some 25) (.call 85 [(.t 20),(.t 22),(.t 24)]) none])
 (.seq (.reg [.op (some 26) (.mov (.t 0)) none,
  .op (some 27) (.fieldA 4 (.t 3)) none,
  .op (some 28) (.load true 3 (.t 27)) none,
  .op (some 29) (.call 83 [(.t 26),(.t 28)]) none])
 (.regD [.op (some 30) (.mov (.t 0)) none,
  .op (some 31) (.mov (.t 0)) none,
  .op (some 32) (.nilck (.t 31)) none,
  .op (some 33) (.fieldA 3 (.t 32)) none,
  .op (some 34) (.fieldA 6 (.t 33)) none,
  .op (some 35) (.loadD false 1 (.t 34)) none,
  .op (some 36) (.fieldA 7 (.t 3)) none,
  .op (some 37) (.loadD false 1 (.t 36)) none,
  .op (some 38) (.callD 87 [(.t 35),(.t 37)]) none,
  .op (some 39) (.fieldV false 0 1 (.t 38)) none,
  .op (some 40) (.mkFD 9 1 1 [(.t 39)]) none,
  .op (some 41) (.callO 21 [(.t 30),(.t 40)]) none]))))))
def A29:Ann:={ n:=42,own:=[3],frz:=[],ord:=[(1,[0,1,2,3,4,5,6,7,8,9,10],[[],[],[1],[1,2],[1,2,3],[1,2,3,4],[],[6],[1,2,3,4,5,6,7],[1,2,3,4,5,6,7,8],[0,1,2,3,4,5,6,7,8,9]]),(5,[0,1,2,3,4,5,6,7,8,9,10,11],[[],[],[1],[1,2],[1,2,3],[1,2,3,4],[],[6],[1,2,3,4,5,6,7],[1,2,3,4,5,6,7,8],[1,2,3,4,5,6,7,8,9],[0,1,2,3,4,5,6,7,8,9,10]])],co:=[14,41] }
theorem facts29:factsOf Tryz.prog A29 Tryz.f29 = some (c29,42,[],false):=by kernel_rfl
def c30:SCode:=(.seq (.reg [.op (some 8) (.mov (.t 0)) none,
  .op (some 9) (.mov (.t 1)) none,
  .op (some 10) (.len (.t 9)) none,
  .op (some 11) (.mkF 3 1 1 [(.t 10)]) none,
  .op (some 12) (.call 65 [(.t 8),(.t 11)]) none])
 (.seq (.reg [.op (some 13) (.mov (.t 1)) none,
  .op (some 14) (.len (.t 13)) none,
  .op (some 15) (.mov (.c (.int .i64 0))) none])
 (.block 0
 (.loop [16,17,18,7,19,20,21,22,15]
  (.seq (.reg [.op (some 16) (.bin .lss (.t 15) (.t 14)) none])
   (.seq (.cond (.t 16)
   .skip
   (.exit 0))
   (.seq (.block 1
   (.seq (.reg [.op (some 17) (.idxA 11 (.t 13) (.t 15)) none,
     .op (some 18) (.load true 11 (.t 17)) none,
     .op (some 7) (.alloc 36 [(.string ⟨#[]⟩),(.int .i64 0),(.int .i64 0),(.slice none 0 0),(.int .i64 0),(.int .i64 0),(.int .i64 0),(.slice none 0 0),(.slice none 0 0),(.slice none 0 0),(.slice none 0 0)]) none,
     .op none (.store 11 (.t 7) (.t 18)) none])
    (.reg [.op (some 19) (.mov (.t 2)) none,
     .op (some 20) (.load true 11 (.t 7)) none,
     .op (some 21) (.callV (.t 19) [(.t 20)]) none])))
   (.reg [.op (some 22) (.bin .add (.t 15) (.c (.int .i64 1))) none,
    .op (some 15) (.mov (.t 22)) none]))))))))
def A30:Ann:={ n:=23,own:=[],frz:=[],ord:=[] }
theorem facts30:factsOf Tryz.prog A30 Tryz.f30 = some (c30,23,[],false):=by kernel_rfl
def c31:SCode:=(.seq (.reg [.op (some 4) (.mov (.c (.slice none 0 0))) none])
 (.seq (.reg [.op (some 5) (.mov (.c (.slice none 0 0))) none])
 (.seq (.seq (.reg [.op (some 8) (.mov (.t 0)) none,
  .op (some 9) (.len (.t 8)) none,
  .op (some 10) (.mov (.c (.int .i64 0))) none])
 (.block 0
 (.loop [11,12,13,7,14,15,16,17,18,19,20,5,21,10]
  (.seq (.reg [.op (some 11) (.bin .lss (.t 10) (.t 9)) none])
   (.seq (.cond (.t 11)
   .skip
   (.exit 0))
   (.seq (.block 1
   (.seq (.reg [.op (some 12) (.idxA 11 (.t 8) (.t 10)) none,
     .op (some 13) (.load true 11 (.t 12)) none,
     .op (some 7) (.alloc 36 [(.string ⟨#[]⟩),(.int .i64 0),(.int .i64 0),(.slice none 0 0),(.int .i64 0),(.int .i64 0),(.int .i64 0),(.slice none 0 0),(.slice none 0 0),(.slice none 0 0),(.slice none 0 0)]) none,
     .op none (.store 11 (.t 7) (.t 13)) none])
    (.seq (.reg [.op (some 14) (.mov (.t 1)) none,
     .op (some 15) (.load true 11 (.t 7)) none,
     .op (some 16) (.callV (.t 14) [(.t 15)]) none])
    (.cond (.t 16)
    (.reg [.op (some 17) (.mov (.t 5)) none,
      .op (some 18) (.load true 11 (.t 7)) none,
      .op (some 19) (.mkF 36 1 11 [(.t 18)]) none,
      .op (some 20) (.app 36 11 176 [(.string ⟨#[]⟩),(.int .i64 0),(.int .i64 0),(.slice none 0 0),(.int .i64 0),(.int .i64 0),(.int .i64 0),(.slice none 0 0),(.slice none 0 0),(.slice none 0 0),(.slice none 0 0)] (.t 17) (.t 19)) none,
      .op (some 5) (.mov (.t 20)) none])
    .skip))))
   (.reg [.op (some 21) (.bin .add (.t 10) (.c (.int .i64 1))) none,
    .op (some 10) (.mov (.t 21)) none])))))))
 (.seq (.reg [.op (some 22) (.mov (.t 5)) none,
  .op (some 4) (.mov (.t 22)) none])
 .ret))))
def A31:Ann:={ n:=23,own:=[],frz:=[],ord:=[] }
theorem facts31:factsOf Tryz.prog A31 Tryz.f31 = some (c31,23,[(4,none)],false):=by kernel_rfl
def c32:SCode:=(.seq (.reg [.op (some 2) (.boxF 36 (.t 0)) none,
  .op (some 3) (.mov (.c (.bool false))) none])
 (.seq (.reg [.op (some 4) (.fieldA 1 (.t 2)) none,
  .op (some 5) (.load false 1 (.t 4)) none,
  .op (some 6) (.load false 1 (.t 1)) none,
  .op (some 7) (.bin .eql (.t 5) (.t 6)) none,
  .op (some 3) (.mov (.t 7)) none])
 .ret))
def A32:Ann:={ n:=8,own:=[2],frz:=[],ord:=[] }
theorem facts32:factsOf Tryz.prog A32 Tryz.f32 = some (c32,8,[(3,none)],false):=by kernel_rfl
def c33:SCode:=(.seq (.reg [.op (some 2) (.box 69 (.t 0)) none,
  .op (some 3) (.boxF 36 (.t 1)) none])
 (.seq (.reg [.op (some 4) (.load false 1 (.t 2)) none,
  .op (some 5) (.fieldA 0 (.t 3)) none,
  .op (some 6) (.load false 1 (.t 5)) none,
  .op (some 7) (.mkF 9 1 1 [(.t 6)]) none,
  .op (some 8) (.call 21 [(.t 4),(.t 7)]) none])
 (.seq (.reg [.op (some 9) (.load false 1 (.t 2)) none,
  .op (some 10) (.fieldA 2 (.t 3)) none,
  .op (some 11) (.load false 1 (.t 10)) none,
  .op (some 12) (.mkF 3 1 1 [(.t 11)]) none,
  .op (some 13) (.call 65 [(.t 9),(.t 12)]) none])
 (.seq (.reg [.op (some 14) (.load false 1 (.t 2)) none,
  .op (some 15) (.fieldA 3 (.t 3)) none,
  .op (some 16) (.load false 1 (.t 15)) none,
  .op (some 17) (.load false 1 (.t 2)) none,
  .op (some 18) (.mkfn 86 [(.t 17)] []) none,
  .op (some 19) (.call 85 [(.t 14),(.t 16),(.t 18)]) none])
 (.seq (.reg [.op (some 20) (.load false 1 (.t 2)) none,
  .op (some 21) (.fieldA 4 (.t 3)) none,
  .op (some 22) (.load false 1 (.t 21)) none,
  .op (some 23) (.mkF 3 1 1 [(.t 22)]) none,
  .op (some 24) (.call 65 [(.t 20),(.t 23)]) none])
 (.seq (.regD [.op (some 25) (.loadD false 1 (.t 2)) none,
  .op (some 26) (.fieldA 8 (.t 3)) none,
  .op (some 27) (.loadD false 1 (.t 26)) none,
  .op (some 28) (.fieldA 4 (.t 3)) none,
  .op (some 29) (.loadD false 1 (.t 28)) none,
  .op (some 30) (.fieldA 8 (.t 3)) none,
  .op (some 31) (.loadD false 1 (.t 30)) none,
  .op (some 32) (.len (.t 31)) none,
  .op (some 33) (.mm false [(.t 29),(.t 32)]) none,
  .op (some 34) (.mm true [(.c (.int .i64 0)),(.t 33)]) none,
  .op (some 35) (.slc 3 (.t 27) none (some (.t 34))) none,
  .op (some 36) (.loadD false 1 (.t 2)) none,
  .op (some 37) (.mkfn 83 [(.t 36)] []) none,
  .op (some 38) (.callO 82 [(.t 25),(.t 35),(.t 37)]) none])
 (.seq (.reg [.op (some 39) (.load false 1 (.t 2)) none,
  .op (some 40) (.fieldA 5 (.t 3)) none,
  .op (some 41) (.load true 3 (.t 40)) none,
  .op (some 42) (.call 83 [(.t 39),(.t 41)]) none])
 (.reg [.op (some 43) (.load false 1 (.t 2)) none,
  .op (some 44) (.fieldA 10 (.t 3)) none,
  .op (some 45) (.load false 1 (.t 44)) none,
  .op (some 46) (.mkfn 88 [] [(.t 2)]) none,
  .op (some 47) (.call 63 [(.t 43),(.t 45),(.t 46)]) none]))))))))
def A33:Ann:={ n:=48,own:=[3],frz:=[],ord:=[(5,[0,1,2,3,4,5,6,7,8,9,10,11,12,13],[[],[],[1],[],[3],[],[5],[5,6],[3,4,5,6,7],[3,4,5,6,7,8],[1,2,3,4,5,6,7,8,9],[],[11],[0,1,2,3,4,5,6,7,8,9,10,11,12]])],co:=[38] }
theorem facts33:factsOf Tryz.prog A33 Tryz.f33 = some (c33,48,[],false):=by kernel_rfl
def c34:SCode:=(.seq (.reg [.op (some 2) (.mov (.c (.slice none 0 0))) none])
 (.seq (.regD [.op (some 3) (.mov (.t 0)) none,
  .op (some 4) (.nilck (.t 3)) none,
  .op (some 5) (.fieldA 0 (.t 4)) none,
  .op (some 6) (.loadD false 1 (.t 5)) none,
  .op (some 7) (.mov (.t 0)) none,
  .op (some 8) (.nilck (.t 7)) none,
  .op (some 9) (.fieldA 1 (.t 8)) none,
  .op (some 10) (.loadD false 1 (.t 9)) none,
  .op (some 11) (.slc 1 (.t 6) (some (.t 10)) none) none,
  .op (some 2) (.mov (.t 11)) none])
 .ret))
def A34:Ann:={ n:=12,own:=[],frz:=[],ord:=[(1,[0,1,2,3,4,5,6,7,8,9],[[],[0],[0,1],[0,1,2],[],[4],[4,5],[4,5,6],[0,1,2,3,4,5,6,7],[0,1,2,3,4,5,6,7,8]])] }
theorem facts34:factsOf Tryz.prog A34 Tryz.f34 = some (c34,12,[(2,none)],false):=by kernel_rfl
def c36:SCode:=(.seq (.reg [.op (some 4) (.mov (.c (.string ⟨#[]⟩))) none,
  .op (some 5) (.mov (.c (.bool false))) none])
 (.seq (.seq (.reg [.op (some 7) (.mov (.t 1)) none,
  .op (some 8) (.bin .lss (.t 7) (.c (.int .i64 0))) none,
  .op (some 9) (.mov (.t 8)) none,
  .op (some 10) (.mov (.t 1)) (some (9,false)),
  .op (some 11) (.mov (.t 0)) (some (9,false)),
  .op (some 12) (.len (.t 11)) (some (9,false)),
  .op (some 13) (.bin .geq (.t 10) (.t 12)) (some (9,false)),
  .op (some 14) (.pick (.t 9) (.c (.bool true)) (.t 13)) none])
 (.cond (.t 14)
 (.seq (.reg [.op (some 6) (.mov (.c (.string ⟨#[]⟩))) none])
  (.seq (.reg [.op (some 15) (.mov (.t 6)) none,
   .op (some 4) (.mov (.t 15)) none,
   .op (some 5) (.mov (.c (.bool false))) none])
  .ret))
 .skip))
 (.seq (.reg [.op (some 16) (.mov (.t 0)) none,
  .op (some 17) (.mov (.t 1)) none,
  .op (some 18) (.idxA 1 (.t 16) (.t 17)) none,
  .op (some 19) (.load false 1 (.t 18)) none,
  .op (some 4) (.mov (.t 19)) none,
  .op (some 5) (.mov (.c (.bool true))) none])
 .ret)))
def A36:Ann:={ n:=20,own:=[],frz:=[],ord:=[] }
theorem facts36:factsOf Tryz.prog A36 Tryz.f36 = some (c36,20,[(4,none),(5,none)],false):=by kernel_rfl
def c37:SCode:=(.seq (.reg [.op (some 4) (.mov (.c (.slice none 0 0))) none])
 (.seq (.reg [.op (some 6) (.mov (.t 0)) none,
  .op (some 7) (.build [(.slice none 0 0),(.pointer none)] [(1,1,(.t 6))]) none,
  .op (some 8) (.box 148 (.t 7)) none,
  .op (some 5) (.mov (.t 8)) none])
 (.seq (.reg [.op (some 9) (.mov (.t 1)) none,
  .op (some 10) (.mov (.t 5)) none,
  .op (some 11) (.callV (.t 9) [(.t 10)]) none])
 (.seq (.reg [.op (some 12) (.mov (.t 5)) none,
  .op (some 13) (.nilck (.t 12)) none,
  .op (some 14) (.fieldA 0 (.t 13)) none,
  .op (some 15) (.load false 1 (.t 14)) none,
  .op (some 4) (.mov (.t 15)) none])
 .ret))))
def A37:Ann:={ n:=16,own:=[],frz:=[],ord:=[] }
theorem facts37:factsOf Tryz.prog A37 Tryz.f37 = some (c37,16,[(4,none)],false):=by kernel_rfl
def c38:SCode:=(.seq (.reg [.op (some 4) (.box 96 (.t 0)) none])
 (.seq (.reg [.op (some 5) (.load false 1 (.t 4)) none,
  .op (some 6) (.load false 1 (.t 1)) none,
  .op (some 7) (.mkF 9 1 1 [(.t 6)]) none,
  .op (some 8) (.call 39 [(.t 5),(.t 7)]) none])
 (.seq (.regD [.op (some 9) (.loadD false 1 (.t 4)) none,
  .op (some 10) (.fieldA 2 (.t 2)) none,
  .op (some 11) (.loadD false 1 (.t 10)) none,
  .op (some 12) (.loadD false 1 (.t 3)) none,
  .op (some 14) (.mkfn 43 [] [(.t 4)]) none,
  .op (some 13) (.callD 41 [(.t 11),(.t 12),(.fn 42)]) none,
  .op (some 15) (.callO 40 [(.t 9),(.t 13),(.t 14)]) none])
 (.seq (.regD [.op (some 16) (.loadD false 1 (.t 4)) none,
  .op (some 17) (.fieldA 5 (.t 2)) none,
  .op (some 18) (.loadD false 1 (.t 17)) none,
  .op (some 19) (.loadD false 1 (.t 3)) none,
  .op (some 21) (.mkfn 52 [] [(.t 4),(.t 2)]) none,
  .op (some 20) (.callD 50 [(.t 18),(.t 19),(.fn 51)]) none,
  .op (some 22) (.callO 49 [(.t 16),(.t 20),(.t 21)]) none])
 (.regD [.op (some 23) (.loadD false 1 (.t 4)) none,
  .op (some 24) (.fieldA 6 (.t 2)) none,
  .op (some 25) (.loadD false 1 (.t 24)) none,
  .op (some 26) (.loadD false 1 (.t 3)) none,
  .op (some 28) (.loadD false 1 (.t 4)) none,
  .op (some 29) (.mkfn 59 [(.t 28)] []) none,
  .op (some 27) (.callD 57 [(.t 25),(.t 26),(.fn 58)]) none,
  .op (some 30) (.callO 56 [(.t 23),(.t 27),(.t 29)]) none])))))
def A38:Ann:={ n:=31,own:=[],frz:=[],ord:=[(2,[0,1,2,3,5,4,6],[[],[],[1],[],[1,2,3],[],[0,1,2,3,4,5]]),(3,[0,1,2,3,5,4,6],[[],[],[1],[],[1,2,3],[],[0,1,2,3,4,5]]),(4,[0,1,2,3,5,6,4,7],[[],[],[1],[],[1,2,3],[],[5],[0,1,2,3,4,5,6]])],co:=[15,22,30] }
theorem facts38:factsOf Tryz.prog A38 Tryz.f38 = some (c38,31,[],false):=by kernel_rfl
def c39:SCode:=(.seq (.reg [.op (some 6) (.mov (.t 1)) none,
  .op (some 7) (.len (.t 6)) none,
  .op (some 8) (.mov (.c (.int .i64 0))) none])
 (.block 0
 (.loop [9,10,11,5,12,13,14,15,16,17,18,19,20,21,22,23,24,25,26,8]
  (.seq (.reg [.op (some 9) (.bin .lss (.t 8) (.t 7)) none])
   (.seq (.cond (.t 9)
   .skip
   (.exit 0))
   (.seq (.block 1
   (.seq (.reg [.op (some 10) (.idxA 1 (.t 6) (.t 8)) none,
     .op (some 11) (.load false 1 (.t 10)) none,
     .op (some 5) (.mov (.t 11)) none])
    (.seq (.reg [.op (some 12) (.mov (.t 0)) none,
     .op (some 13) (.mov (.t 5)) none,
     .op (some 14) (.lenS (.t 13)) none,
     .op (some 15) (.mkF 3 1 1 [(.t 14)]) none,
     .op (some 16) (.call 44 [(.t 12),(.t 15)]) none])
    (.reg [.op (some 17) (.mov (.t 0)) none,
     .op (some 18) (.mov (.t 0)) none,
     .op (some 19) (.nilck (.t 18)) none,
     .op (some 20) (.fieldA 0 (.t 19)) none,
     .op (some 21) (.load false 1 (.t 20)) none,
     .op (some 22) (.mov (.t 5)) none,
     .op (some 23) (.appS 5 (.t 21) (.t 22)) none,
     .op (some 24) (.nilck (.t 17)) none,
     .op (some 25) (.fieldA 0 (.t 24)) none,
     .op none (.store 1 (.t 25) (.t 23)) none]))))
   (.reg [.op (some 26) (.bin .add (.t 8) (.c (.int .i64 1))) none,
    .op (some 8) (.mov (.t 26)) none])))))))
def A39:Ann:={ n:=27,own:=[],frz:=[],ord:=[] }
theorem facts39:factsOf Tryz.prog A39 Tryz.f39 = some (c39,27,[],false):=by kernel_rfl
def c40:SCode:=(.seq (.reg [.op (some 8) (.mov (.t 0)) none,
  .op (some 9) (.mov (.t 1)) none,
  .op (some 10) (.len (.t 9)) none,
  .op (some 11) (.mkF 3 1 1 [(.t 10)]) none,
  .op (some 12) (.call 44 [(.t 8),(.t 11)]) none])
 (.seq (.reg [.op (some 13) (.mov (.t 1)) none,
  .op (some 14) (.len (.t 13)) none,
  .op (some 15) (.mov (.c (.int .i64 0))) none])
 (.block 0
 (.loop [16,17,18,7,19,20,21,22,15]
  (.seq (.reg [.op (some 16) (.bin .lss (.t 15) (.t 14)) none])
   (.seq (.cond (.t 16)
   .skip
   (.exit 0))
   (.seq (.block 1
   (.seq (.reg [.op (some 17) (.idxA 5 (.t 13) (.t 15)) none,
     .op (some 18) (.load true 5 (.t 17)) none,
     .op (some 7) (.alloc 80 [(.string ⟨#[]⟩),(.int .i64 0),(.int .i64 0),(.slice none 0 0),(.int .i64 0)]) none,
     .op none (.store 5 (.t 7) (.t 18)) none])
    (.reg [.op (some 19) (.mov (.t 2)) none,
     .op (some 20) (.load true 5 (.t 7)) none,
     .op (some 21) (.callV (.t 19) [(.t 20)]) none])))
   (.reg [.op (some 22) (.bin .add (.t 15) (.c (.int .i64 1))) none,
    .op (some 15) (.mov (.t 22)) none]))))))))
def A40:Ann:={ n:=23,own:=[],frz:=[],ord:=[] }
theorem facts40:factsOf Tryz.prog A40 Tryz.f40 = some (c40,23,[],false):=by kernel_rfl
def c41:SCode:=(.seq (.reg [.op (some 6) (.mov (.c (.slice none 0 0))) none])
 (.seq (.reg [.op (some 7) (.mov (.c (.slice none 0 0))) none])
 (.seq (.seq (.reg [.op (some 10) (.mov (.t 0)) none,
  .op (some 11) (.len (.t 10)) none,
  .op (some 12) (.mov (.c (.int .i64 0))) none])
 (.block 0
 (.loop [13,14,15,9,16,17,18,19,20,21,22,23,24,7,25,12]
  (.seq (.reg [.op (some 13) (.bin .lss (.t 12) (.t 11)) none])
   (.seq (.cond (.t 13)
   .skip
   (.exit 0))
   (.seq (.block 1
   (.seq (.reg [.op (some 14) (.idxA 5 (.t 10) (.t 12)) none,
     .op (some 15) (.load true 5 (.t 14)) none,
     .op (some 9) (.alloc 80 [(.string ⟨#[]⟩),(.int .i64 0),(.int .i64 0),(.slice none 0 0),(.int .i64 0)]) none,
     .op none (.store 5 (.t 9) (.t 15)) none])
    (.seq (.reg [.op (some 16) (.mov (.t 2)) none,
     .op (some 17) (.load true 5 (.t 9)) none,
     .op (some 18) (.callV (.t 16) [(.t 17)]) none,
     .op (some 19) (.mov (.t 1)) none,
     .op (some 20) (.bin .eql (.t 18) (.t 19)) none])
    (.cond (.t 20)
    (.reg [.op (some 21) (.mov (.t 7)) none,
      .op (some 22) (.load true 5 (.t 9)) none,
      .op (some 23) (.mkF 80 1 5 [(.t 22)]) none,
      .op (some 24) (.app 80 5 64 [(.string ⟨#[]⟩),(.int .i64 0),(.int .i64 0),(.slice none 0 0),(.int .i64 0)] (.t 21) (.t 23)) none,
      .op (some 7) (.mov (.t 24)) none])
    .skip))))
   (.reg [.op (some 25) (.bin .add (.t 12) (.c (.int .i64 1))) none,
    .op (some 12) (.mov (.t 25)) none])))))))
 (.seq (.reg [.op (some 26) (.mov (.t 7)) none,
  .op (some 6) (.mov (.t 26)) none])
 .ret))))
def A41:Ann:={ n:=27,own:=[],frz:=[],ord:=[] }
theorem facts41:factsOf Tryz.prog A41 Tryz.f41 = some (c41,27,[(6,none)],false):=by kernel_rfl
def c42:SCode:=(.seq (.reg [.op (some 1) (.box 80 (.t 0)) none,
  .op (some 2) (.mov (.c (.int .i64 0))) none])
 (.seq (.reg [.op (some 3) (.fieldA 1 (.t 1)) none,
  .op (some 4) (.load false 1 (.t 3)) none,
  .op (some 2) (.mov (.t 4)) none])
 .ret))
def A42:Ann:={ n:=5,own:=[],frz:=[],ord:=[] }
theorem facts42:factsOf Tryz.prog A42 Tryz.f42 = some (c42,5,[(2,none)],false):=by kernel_rfl
def c43:SCode:=(.seq (.reg [.op (some 2) (.box 80 (.t 0)) none])
 (.seq (.reg [.op (some 3) (.load false 1 (.t 1)) none,
  .op (some 4) (.fieldA 0 (.t 2)) none,
  .op (some 5) (.load false 1 (.t 4)) none,
  .op (some 6) (.mkF 9 1 1 [(.t 5)]) none,
  .op (some 7) (.call 39 [(.t 3),(.t 6)]) none])
 (.seq (.reg [.op (some 8) (.load false 1 (.t 1)) none,
  .op (some 9) (.fieldA 2 (.t 2)) none,
  .op (some 10) (.load false 1 (.t 9)) none,
  .op (some 11) (.fieldA 4 (.t 2)) none,
  .op (some 12) (.load false 1 (.t 11)) none,
  .op (some 13) (.mkF 3 2 1 [(.t 10),(.t 12)]) none,
  .op (some 14) (.call 44 [(.t 8),(.t 13)]) none])
 (.reg [.op (some 15) (.load false 1 (.t 1)) none,
  .op (some 16) (.fieldA 3 (.t 2)) none,
  .op (some 17) (.load false 1 (.t 16)) none,
  .op (some 18) (.mkfn 46 [] [(.t 1)]) none,
  .op (some 19) (.call 45 [(.t 15),(.t 17),(.t 18)]) none]))))
def A43:Ann:={ n:=20,own:=[],frz:=[],ord:=[] }
theorem facts43:factsOf Tryz.prog A43 Tryz.f43 = some (c43,20,[],false):=by kernel_rfl
def c44:SCode:=(.seq (.reg [.op (some 7) (.mov (.t 1)) none,
  .op (some 8) (.len (.t 7)) none,
  .op (some 9) (.mov (.c (.int .i64 0))) none])
 (.block 0
 (.loop [10,11,12,5,13,14,15,6,16,17,18,19,6,20,21,24,25,26,27,28,29,30,31,32,33,34,35,36,22,23,6,37,38,39,40,41,42,43,44,45,46,47,48,9]
  (.seq (.reg [.op (some 10) (.bin .lss (.t 9) (.t 8)) none])
   (.seq (.cond (.t 10)
   .skip
   (.exit 0))
   (.seq (.block 1
   (.seq (.reg [.op (some 11) (.idxA 1 (.t 7) (.t 9)) none,
     .op (some 12) (.load false 1 (.t 11)) none,
     .op (some 5) (.mov (.t 12)) none])
    (.seq (.reg [.op (some 13) (.mov (.t 5)) none,
     .op (some 14) (.conv .u64 (.t 13)) none,
     .op (some 15) (.bin .shl (.t 14) (.c (.int .u64 1))) none,
     .op (some 6) (.mov (.t 15)) none])
    (.seq (.seq (.reg [.op (some 16) (.mov (.t 5)) none,
     .op (some 17) (.bin .lss (.t 16) (.c (.int .i64 0))) none])
    (.cond (.t 17)
    (.reg [.op (some 18) (.mov (.t 6)) none,
      .op (some 19) (.un .xor (.t 18)) none,
      .op (some 6) (.mov (.t 19)) none])
    .skip))
    (.seq (.block 2
    (.loop [20,21,24,25,26,27,28,29,30,31,32,33,34,35,36,22,23,6]
     (.seq (.seq (.reg [.op (some 20) (.mov (.t 6)) none,
       .op (some 21) (.bin .geq (.t 20) (.c (.int .u64 128))) none])
      (.cond (.t 21)
      .skip
      (.exit 2)))
      (.seq (.block 3
      (.reg [.op (some 24) (.mov (.t 0)) none,
        .op (some 25) (.mov (.t 0)) none,
        .op (some 26) (.nilck (.t 25)) none,
        .op (some 27) (.fieldA 0 (.t 26)) none,
        .op (some 28) (.load false 1 (.t 27)) none,
        .op (some 29) (.mov (.t 6)) none,
        .op (some 30) (.bin .rem (.t 29) (.c (.int .u64 128))) none,
        .op (some 31) (.bin .add (.c (.int .u64 128)) (.t 30)) none,
        .op (some 32) (.conv .u8 (.t 31)) none,
        .op (some 33) (.mkF 5 1 1 [(.t 32)]) none,
        .op (some 34) (.app 5 1 1 [(.int .u8 0)] (.t 28) (.t 33)) none,
        .op (some 35) (.nilck (.t 24)) none,
        .op (some 36) (.fieldA 0 (.t 35)) none,
        .op none (.store 1 (.t 36) (.t 34)) none]))
      (.reg [.op (some 22) (.mov (.t 6)) none,
       .op (some 23) (.bin .quo (.t 22) (.c (.int .u64 128))) none,
       .op (some 6) (.mov (.t 23)) none])))))
    (.reg [.op (some 37) (.mov (.t 0)) none,
     .op (some 38) (.mov (.t 0)) none,
     .op (some 39) (.nilck (.t 38)) none,
     .op (some 40) (.fieldA 0 (.t 39)) none,
     .op (some 41) (.load false 1 (.t 40)) none,
     .op (some 42) (.mov (.t 6)) none,
     .op (some 43) (.conv .u8 (.t 42)) none,
     .op (some 44) (.mkF 5 1 1 [(.t 43)]) none,
     .op (some 45) (.app 5 1 1 [(.int .u8 0)] (.t 41) (.t 44)) none,
     .op (some 46) (.nilck (.t 37)) none,
     .op (some 47) (.fieldA 0 (.t 46)) none,
     .op none (.store 1 (.t 47) (.t 45)) none]))))))
   (.reg [.op (some 48) (.bin .add (.t 9) (.c (.int .i64 1))) none,
    .op (some 9) (.mov (.t 48)) none])))))))
def A44:Ann:={ n:=49,own:=[],frz:=[],ord:=[] }
theorem facts44:factsOf Tryz.prog A44 Tryz.f44 = some (c44,49,[],false):=by kernel_rfl
def c45:SCode:=(.seq (.reg [.op (some 8) (.mov (.t 0)) none,
  .op (some 9) (.mov (.t 1)) none,
  .op (some 10) (.len (.t 9)) none,
  .op (some 11) (.mkF 3 1 1 [(.t 10)]) none,
  .op (some 12) (.call 44 [(.t 8),(.t 11)]) none])
 (.seq (.reg [.op (some 13) (.mov (.t 1)) none,
  .op (some 14) (.len (.t 13)) none,
  .op (some 15) (.mov (.c (.int .i64 0))) none])
 (.block 0
 (.loop [16,17,18,7,19,20,21,22,15]
  (.seq (.reg [.op (some 16) (.bin .lss (.t 15) (.t 14)) none])
   (.seq (.cond (.t 16)
   .skip
   (.exit 0))
   (.seq (.block 1
   (.seq (.reg [.op (some 17) (.idxA 2 (.t 13) (.t 15)) none,
     .op (some 18) (.load true 2 (.t 17)) none,
     .op (some 7) (.alloc 103 [(.string ⟨#[]⟩),(.slice none 0 0)]) none,
     .op none (.store 2 (.t 7) (.t 18)) none])
    (.reg [.op (some 19) (.mov (.t 2)) none,
     .op (some 20) (.load true 2 (.t 7)) none,
     .op (some 21) (.callV (.t 19) [(.t 20)]) none])))
   (.reg [.op (some 22) (.bin .add (.t 15) (.c (.int .i64 1))) none,
    .op (some 15) (.mov (.t 22)) none]))))))))
def A45:Ann:={ n:=23,own:=[],frz:=[],ord:=[] }
theorem facts45:factsOf Tryz.prog A45 Tryz.f45 = some (c45,23,[],false):=by kernel_rfl
def c46:SCode:=(.seq (.reg [.op (some 2) (.box 103 (.t 0)) none])
 (.seq (.reg [.op (some 3) (.load false 1 (.t 1)) none,
  .op (some 4) (.fieldA 0 (.t 2)) none,
  .op (some 5) (.load false 1 (.t 4)) none,
  .op (some 6) (.mkF 9 1 1 [(.t 5)]) none,
  .op (some 7) (.call 39 [(.t 3),(.t 6)]) none])
 (.reg [.op (some 8) (.load false 1 (.t 1)) none,
  .op (some 9) (.fieldA 1 (.t 2)) none,
  .op (some 10) (.load false 1 (.t 9)) none,
  .op (some 11) (.load false 1 (.t 1)) none,
  .op (some 12) (.mkfn 48 [(.t 11)] []) none,
  .op (some 13) (.call 47 [(.t 8),(.t 10),(.t 12)]) none])))
def A46:Ann:={ n:=14,own:=[],frz:=[],ord:=[] }
theorem facts46:factsOf Tryz.prog A46 Tryz.f46 = some (c46,14,[],false):=by kernel_rfl
def c47:SCode:=(.seq (.reg [.op (some 8) (.mov (.t 0)) none,
  .op (some 9) (.mov (.t 1)) none,
  .op (some 10) (.len (.t 9)) none,
  .op (some 11) (.mkF 3 1 1 [(.t 10)]) none,
  .op (some 12) (.call 44 [(.t 8),(.t 11)]) none])
 (.seq (.reg [.op (some 13) (.mov (.t 1)) none,
  .op (some 14) (.len (.t 13)) none,
  .op (some 15) (.mov (.c (.int .i64 0))) none])
 (.block 0
 (.loop [16,17,18,7,19,20,21,22,15]
  (.seq (.reg [.op (some 16) (.bin .lss (.t 15) (.t 14)) none])
   (.seq (.cond (.t 16)
   .skip
   (.exit 0))
   (.seq (.block 1
   (.seq (.reg [.op (some 17) (.idxA 3 (.t 13) (.t 15)) none,
     .op (some 18) (.load true 3 (.t 17)) none,
     .op (some 7) (.alloc 33 [(.int .i64 0),(.int .i64 0),(.slice none 0 0)]) none,
     .op none (.store 3 (.t 7) (.t 18)) none])
    (.reg [.op (some 19) (.mov (.t 2)) none,
     .op (some 20) (.load true 3 (.t 7)) none,
     .op (some 21) (.callV (.t 19) [(.t 20)]) none])))
   (.reg [.op (some 22) (.bin .add (.t 15) (.c (.int .i64 1))) none,
    .op (some 15) (.mov (.t 22)) none]))))))))
def A47:Ann:={ n:=23,own:=[],frz:=[],ord:=[] }
theorem facts47:factsOf Tryz.prog A47 Tryz.f47 = some (c47,23,[],false):=by kernel_rfl
def c48:SCode:=(.seq (.reg [.op (some 3) (.box 33 (.t 1)) none])
 (.seq (.reg [.op (some 4) (.mov (.t 0)) none,
  .op (some 5) (.fieldA 0 (.t 3)) none,
  .op (some 6) (.load false 1 (.t 5)) none,
  .op (some 7) (.mkF 3 1 1 [(.t 6)]) none,
  .op (some 8) (.call 44 [(.t 4),(.t 7)]) none])
 (.seq (.seq (.reg [.op (some 9) (.mov (.t 0)) none,
  .op (some 10) (.load true 3 (.t 3)) none,
  .op (some 11) (.call 89 [(.t 9),(.t 10)]) none,
  .op (some 12) (.un .not (.t 11)) none])
 (.cond (.t 12)
 (.reg [.op (some 13) (.mov (.t 0)) none,
   .op (some 14) (.fieldA 1 (.t 3)) none,
   .op (some 15) (.load false 1 (.t 14)) none,
   .op (some 16) (.mkF 3 1 1 [(.t 15)]) none,
   .op (some 17) (.call 44 [(.t 13),(.t 16)]) none])
 .skip))
 (.reg [.op (some 18) (.mov (.t 0)) none,
  .op (some 19) (.fieldA 2 (.t 3)) none,
  .op (some 20) (.load false 1 (.t 19)) none,
  .op (some 21) (.mov (.t 0)) none,
  .op (some 22) (.mkfn 48 [(.t 21)] []) none,
  .op (some 23) (.call 47 [(.t 18),(.t 20),(.t 22)]) none]))))
def A48:Ann:={ n:=24,own:=[],frz:=[],ord:=[] }
theorem facts48:factsOf Tryz.prog A48 Tryz.f48 = some (c48,24,[],false):=by kernel_rfl
def c49:SCode:=(.seq (.reg [.op (some 8) (.mov (.t 0)) none,
  .op (some 9) (.mov (.t 1)) none,
  .op (some 10) (.len (.t 9)) none,
  .op (some 11) (.mkF 3 1 1 [(.t 10)]) none,
  .op (some 12) (.call 44 [(.t 8),(.t 11)]) none])
 (.seq (.reg [.op (some 13) (.mov (.t 1)) none,
  .op (some 14) (.len (.t 13)) none,
  .op (some 15) (.mov (.c (.int .i64 0))) none])
 (.block 0
 (.loop [16,17,18,7,19,20,21,22,15]
  (.seq (.reg [.op (some 16) (.bin .lss (.t 15) (.t 14)) none])
   (.seq (.cond (.t 16)
   .skip
   (.exit 0))
   (.seq (.block 1
   (.seq (.reg [.op (some 17) (.idxA 8 (.t 13) (.t 15)) none,
     .op (some 18) (.load true 8 (.t 17)) none,
     .op (some 7) (.alloc 50 [(.int .i64 0),(.int .i64 0),(.int .i64 0),(.slice none 0 0),(.int .i64 0),(.int .i64 0),(.slice none 0 0),(.int .i64 0)]) none,
     .op none (.store 8 (.t 7) (.t 18)) none])
    (.reg [.op (some 19) (.mov (.t 2)) none,
     .op (some 20) (.load true 8 (.t 7)) none,
     .op (some 21) (.callV (.t 19) [(.t 20)]) none])))
   (.reg [.op (some 22) (.bin .add (.t 15) (.c (.int .i64 1))) none,
    .op (some 15) (.mov (.t 22)) none]))))))))
def A49:Ann:={ n:=23,own:=[],frz:=[],ord:=[] }
theorem facts49:factsOf Tryz.prog A49 Tryz.f49 = some (c49,23,[],false):=by kernel_rfl
def c50:SCode:=(.seq (.reg [.op (some 6) (.mov (.c (.slice none 0 0))) none])
 (.seq (.reg [.op (some 7) (.mov (.c (.slice none 0 0))) none])
 (.seq (.seq (.reg [.op (some 10) (.mov (.t 0)) none,
  .op (some 11) (.len (.t 10)) none,
  .op (some 12) (.mov (.c (.int .i64 0))) none])
 (.block 0
 (.loop [13,14,15,9,16,17,18,19,20,21,22,23,24,7,25,12]
  (.seq (.reg [.op (some 13) (.bin .lss (.t 12) (.t 11)) none])
   (.seq (.cond (.t 13)
   .skip
   (.exit 0))
   (.seq (.block 1
   (.seq (.reg [.op (some 14) (.idxA 8 (.t 10) (.t 12)) none,
     .op (some 15) (.load true 8 (.t 14)) none,
     .op (some 9) (.alloc 50 [(.int .i64 0),(.int .i64 0),(.int .i64 0),(.slice none 0 0),(.int .i64 0),(.int .i64 0),(.slice none 0 0),(.int .i64 0)]) none,
     .op none (.store 8 (.t 9) (.t 15)) none])
    (.seq (.reg [.op (some 16) (.mov (.t 2)) none,
     .op (some 17) (.load true 8 (.t 9)) none,
     .op (some 18) (.callV (.t 16) [(.t 17)]) none,
     .op (some 19) (.mov (.t 1)) none,
     .op (some 20) (.bin .eql (.t 18) (.t 19)) none])
    (.cond (.t 20)
    (.reg [.op (some 21) (.mov (.t 7)) none,
      .op (some 22) (.load true 8 (.t 9)) none,
      .op (some 23) (.mkF 50 1 8 [(.t 22)]) none,
      .op (some 24) (.app 50 8 96 [(.int .i64 0),(.int .i64 0),(.int .i64 0),(.slice none 0 0),(.int .i64 0),(.int .i64 0),(.slice none 0 0),(.int .i64 0)] (.t 21) (.t 23)) none,
      .op (some 7) (.mov (.t 24)) none])
    .skip))))
   (.reg [.op (some 25) (.bin .add (.t 12) (.c (.int .i64 1))) none,
    .op (some 12) (.mov (.t 25)) none])))))))
 (.seq (.reg [.op (some 26) (.mov (.t 7)) none,
  .op (some 6) (.mov (.t 26)) none])
 .ret))))
def A50:Ann:={ n:=27,own:=[],frz:=[],ord:=[] }
theorem facts50:factsOf Tryz.prog A50 Tryz.f50 = some (c50,27,[(6,none)],false):=by kernel_rfl
def c51:SCode:=(.seq (.reg [.op (some 1) (.box 50 (.t 0)) none,
  .op (some 2) (.mov (.c (.int .i64 0))) none])
 (.seq (.reg [.op (some 3) (.fieldA 1 (.t 1)) none,
  .op (some 4) (.load false 1 (.t 3)) none,
  .op (some 2) (.mov (.t 4)) none])
 .ret))
def A51:Ann:={ n:=5,own:=[],frz:=[],ord:=[] }
theorem facts51:factsOf Tryz.prog A51 Tryz.f51 = some (c51,5,[(2,none)],false):=by kernel_rfl
def c52:SCode:=(.seq (.reg [.op (some 3) (.box 50 (.t 0)) none])
 (.seq (.reg [.op (some 6) (.load false 1 (.t 1)) none,
  .op (some 7) (.fieldA 0 (.t 3)) none,
  .op (some 8) (.load false 1 (.t 7)) none,
  .op (some 9) (.call 53 [(.t 6),(.t 8)]) none])
 (.seq (.reg [.op (some 10) (.load false 1 (.t 1)) none,
  .op (some 11) (.fieldA 2 (.t 3)) none,
  .op (some 12) (.load false 1 (.t 11)) none,
  .op (some 13) (.mkF 3 1 1 [(.t 12)]) none,
  .op (some 14) (.call 44 [(.t 10),(.t 13)]) none])
 (.seq (.reg [.op (some 15) (.load false 1 (.t 1)) none,
  .op (some 16) (.fieldA 3 (.t 3)) none,
  .op (some 17) (.load false 1 (.t 16)) none,
  .op (some 18) (.call 54 [(.t 15),(.t 17)]) none])
 (.seq (.reg [.op (some 19) (.load false 1 (.t 1)) none,
  .op (some 20) (.fieldA 4 (.t 3)) none,
  .op (some 21) (.load true 3 (.t 20)) none,
  .op (some 22) (.call 48 [(.t 19),(.t 21)]) none])
 (.seq (.reg [.op (some 24) (.fieldA 6 (.t 2)) none,
  .op (some 25) (.load false 1 (.t 24)) none,
  .op (some 26) (.fieldA 7 (.t 3)) none,
  .op (some 27) (.load false 1 (.t 26)) none,
  .op (some 28) (.call 55 [(.t 25),(.t 27)]) none,
  .op (some 23) (.mov (.t 28)) none,
  .op (some 29) (.extr (.t 23) 0) none,
  .op (some 30) (.extr (.t 23) 1) none,
  .op (some 4) (.alloc 36 [(.string ⟨#[]⟩),(.int .i64 0),(.int .i64 0),(.slice none 0 0),(.int .i64 0),(.int .i64 0),(.int .i64 0),(.slice none 0 0),(.slice none 0 0),(.slice none 0 0),(.slice none 0 0)]) none,
  .op none (.store 11 (.t 4) (.t 29)) none,
  .op (some 5) (.mov (.t 30)) none])
 (.reg [.op (some 31) (.load false 1 (.t 1)) none,
  .op (some 32) (.fieldA 0 (.t 4)) none,
  .op (some 33) (.load false 1 (.t 32)) none,
  .op (some 34) (.mkF 9 1 1 [(.t 33)]) none,
  .op (some 35) (.call 39 [(.t 31),(.t 34)]) none])))))))
def A52:Ann:={ n:=36,own:=[],frz:=[],ord:=[] }
theorem facts52:factsOf Tryz.prog A52 Tryz.f52 = some (c52,36,[],false):=by kernel_rfl
def c53:SCode:=(.seq (.seq (.reg [.op (some 6) (.mov (.t 0)) none,
  .op (some 7) (.nilck (.t 6)) none,
  .op (some 8) (.fieldA 1 (.t 7)) none,
  .op (some 9) (.load false 1 (.t 8)) none,
  .op (some 10) (.eqP false (.t 9) (.c (.pointer none))) none])
 (.cond (.t 10)
 (.seq (.reg [.op (some 11) (.mov (.t 0)) none,
   .op (some 12) (.mov (.t 1)) none,
   .op (some 13) (.mkF 3 1 1 [(.t 12)]) none,
   .op (some 14) (.call 44 [(.t 11),(.t 13)]) none])
  .ret)
 .skip))
 (.seq (.reg [.op (some 16) (.mov (.t 0)) none,
  .op (some 17) (.nilck (.t 16)) none,
  .op (some 18) (.fieldA 1 (.t 17)) none,
  .op (some 19) (.load false 1 (.t 18)) none,
  .op (some 20) (.nilck (.t 19)) none,
  .op (some 21) (.fieldA 3 (.t 20)) none,
  .op (some 22) (.load false 1 (.t 21)) none,
  .op (some 23) (.mov (.t 1)) none,
  .op (some 24) (.call 36 [(.t 22),(.t 23)]) none,
  .op (some 15) (.mov (.t 24)) none,
  .op (some 25) (.extr (.t 15) 0) none,
  .op (some 26) (.extr (.t 15) 1) none,
  .op (some 4) (.mov (.t 25)) none,
  .op (some 5) (.mov (.t 26)) none])
 (.reg [.op (some 27) (.mov (.t 0)) none,
  .op (some 28) (.mov (.t 4)) none,
  .op (some 29) (.mkF 9 1 1 [(.t 28)]) none,
  .op (some 30) (.call 39 [(.t 27),(.t 29)]) none])))
def A53:Ann:={ n:=31,own:=[],frz:=[],ord:=[] }
theorem facts53:factsOf Tryz.prog A53 Tryz.f53 = some (c53,31,[],false):=by kernel_rfl
def c54:SCode:=(.seq (.reg [.op (some 2) (.box 96 (.t 0)) none])
 (.reg [.op (some 4) (.load false 1 (.t 2)) none,
  .op (some 5) (.mov (.t 1)) none,
  .op (some 6) (.mkfn 91 [] [(.t 2)]) none,
  .op (some 7) (.call 90 [(.t 4),(.t 5),(.t 6)]) none]))
def A54:Ann:={ n:=8,own:=[],frz:=[],ord:=[] }
theorem facts54:factsOf Tryz.prog A54 Tryz.f54 = some (c54,8,[],false):=by kernel_rfl
def c55:SCode:=(.seq (.reg [.op (some 4) (.alloc 36 [(.string ⟨#[]⟩),(.int .i64 0),(.int .i64 0),(.slice none 0 0),(.int .i64 0),(.int .i64 0),(.int .i64 0),(.slice none 0 0),(.slice none 0 0),(.slice none 0 0),(.slice none 0 0)]) none,
  .op (some 5) (.mov (.c (.bool false))) none])
 (.seq (.seq (.reg [.op (some 7) (.mov (.t 1)) none,
  .op (some 8) (.bin .lss (.t 7) (.c (.int .i64 0))) none,
  .op (some 9) (.mov (.t 8)) none,
  .op (some 10) (.mov (.t 1)) (some (9,false)),
  .op (some 11) (.mov (.t 0)) (some (9,false)),
  .op (some 12) (.len (.t 11)) (some (9,false)),
  .op (some 13) (.bin .geq (.t 10) (.t 12)) (some (9,false)),
  .op (some 14) (.pick (.t 9) (.c (.bool true)) (.t 13)) none])
 (.cond (.t 14)
 (.seq (.reg [.op (some 6) (.alloc 36 [(.string ⟨#[]⟩),(.int .i64 0),(.int .i64 0),(.slice none 0 0),(.int .i64 0),(.int .i64 0),(.int .i64 0),(.slice none 0 0),(.slice none 0 0),(.slice none 0 0),(.slice none 0 0)]) none])
  (.seq (.reg [.op (some 15) (.load true 11 (.t 6)) none,
   .op none (.store 11 (.t 4) (.t 15)) none,
   .op (some 5) (.mov (.c (.bool false))) none])
  .ret))
 .skip))
 (.seq (.reg [.op (some 16) (.mov (.t 0)) none,
  .op (some 17) (.mov (.t 1)) none,
  .op (some 18) (.idxA 11 (.t 16) (.t 17)) none,
  .op (some 19) (.load true 11 (.t 18)) none,
  .op none (.store 11 (.t 4) (.t 19)) none,
  .op (some 5) (.mov (.c (.bool true))) none])
 .ret)))
def A55:Ann:={ n:=20,own:=[],frz:=[],ord:=[] }
theorem facts55:factsOf Tryz.prog A55 Tryz.f55 = some (c55,20,[(4,some (true,11)),(5,none)],false):=by kernel_rfl
def c56:SCode:=(.seq (.reg [.op (some 8) (.mov (.t 0)) none,
  .op (some 9) (.mov (.t 1)) none,
  .op (some 10) (.len (.t 9)) none,
  .op (some 11) (.mkF 3 1 1 [(.t 10)]) none,
  .op (some 12) (.call 44 [(.t 8),(.t 11)]) none])
 (.seq (.reg [.op (some 13) (.mov (.t 1)) none,
  .op (some 14) (.len (.t 13)) none,
  .op (some 15) (.mov (.c (.int .i64 0))) none])
 (.block 0
 (.loop [16,17,18,7,19,20,21,22,15]
  (.seq (.reg [.op (some 16) (.bin .lss (.t 15) (.t 14)) none])
   (.seq (.cond (.t 16)
   .skip
   (.exit 0))
   (.seq (.block 1
   (.seq (.reg [.op (some 17) (.idxA 11 (.t 13) (.t 15)) none,
     .op (some 18) (.load true 11 (.t 17)) none,
     .op (some 7) (.alloc 36 [(.string ⟨#[]⟩),(.int .i64 0),(.int .i64 0),(.slice none 0 0),(.int .i64 0),(.int .i64 0),(.int .i64 0),(.slice none 0 0),(.slice none 0 0),(.slice none 0 0),(.slice none 0 0)]) none,
     .op none (.store 11 (.t 7) (.t 18)) none])
    (.reg [.op (some 19) (.mov (.t 2)) none,
     .op (some 20) (.load true 11 (.t 7)) none,
     .op (some 21) (.callV (.t 19) [(.t 20)]) none])))
   (.reg [.op (some 22) (.bin .add (.t 15) (.c (.int .i64 1))) none,
    .op (some 15) (.mov (.t 22)) none]))))))))
def A56:Ann:={ n:=23,own:=[],frz:=[],ord:=[] }
theorem facts56:factsOf Tryz.prog A56 Tryz.f56 = some (c56,23,[],false):=by kernel_rfl
def c57:SCode:=(.seq (.reg [.op (some 6) (.mov (.c (.slice none 0 0))) none])
 (.seq (.reg [.op (some 7) (.mov (.c (.slice none 0 0))) none])
 (.seq (.seq (.reg [.op (some 10) (.mov (.t 0)) none,
  .op (some 11) (.len (.t 10)) none,
  .op (some 12) (.mov (.c (.int .i64 0))) none])
 (.block 0
 (.loop [13,14,15,9,16,17,18,19,20,21,22,23,24,7,25,12]
  (.seq (.reg [.op (some 13) (.bin .lss (.t 12) (.t 11)) none])
   (.seq (.cond (.t 13)
   .skip
   (.exit 0))
   (.seq (.block 1
   (.seq (.reg [.op (some 14) (.idxA 11 (.t 10) (.t 12)) none,
     .op (some 15) (.load true 11 (.t 14)) none,
     .op (some 9) (.alloc 36 [(.string ⟨#[]⟩),(.int .i64 0),(.int .i64 0),(.slice none 0 0),(.int .i64 0),(.int .i64 0),(.int .i64 0),(.slice none 0 0),(.slice none 0 0),(.slice none 0 0),(.slice none 0 0)]) none,
     .op none (.store 11 (.t 9) (.t 15)) none])
    (.seq (.reg [.op (some 16) (.mov (.t 2)) none,
     .op (some 17) (.load true 11 (.t 9)) none,
     .op (some 18) (.callV (.t 16) [(.t 17)]) none,
     .op (some 19) (.mov (.t 1)) none,
     .op (some 20) (.bin .eql (.t 18) (.t 19)) none])
    (.cond (.t 20)
    (.reg [.op (some 21) (.mov (.t 7)) none,
      .op (some 22) (.load true 11 (.t 9)) none,
      .op (some 23) (.mkF 36 1 11 [(.t 22)]) none,
      .op (some 24) (.app 36 11 176 [(.string ⟨#[]⟩),(.int .i64 0),(.int .i64 0),(.slice none 0 0),(.int .i64 0),(.int .i64 0),(.int .i64 0),(.slice none 0 0),(.slice none 0 0),(.slice none 0 0),(.slice none 0 0)] (.t 21) (.t 23)) none,
      .op (some 7) (.mov (.t 24)) none])
    .skip))))
   (.reg [.op (some 25) (.bin .add (.t 12) (.c (.int .i64 1))) none,
    .op (some 12) (.mov (.t 25)) none])))))))
 (.seq (.reg [.op (some 26) (.mov (.t 7)) none,
  .op (some 6) (.mov (.t 26)) none])
 .ret))))
def A57:Ann:={ n:=27,own:=[],frz:=[],ord:=[] }
theorem facts57:factsOf Tryz.prog A57 Tryz.f57 = some (c57,27,[(6,none)],false):=by kernel_rfl
def c58:SCode:=(.seq (.reg [.op (some 1) (.box 36 (.t 0)) none,
  .op (some 2) (.mov (.c (.int .i64 0))) none])
 (.seq (.reg [.op (some 3) (.fieldA 1 (.t 1)) none,
  .op (some 4) (.load false 1 (.t 3)) none,
  .op (some 2) (.mov (.t 4)) none])
 .ret))
def A58:Ann:={ n:=5,own:=[],frz:=[],ord:=[] }
theorem facts58:factsOf Tryz.prog A58 Tryz.f58 = some (c58,5,[(2,none)],false):=by kernel_rfl
def c59:SCode:=(.seq (.reg [.op (some 3) (.box 36 (.t 1)) none])
 (.seq (.reg [.op (some 4) (.mov (.t 0)) none,
  .op (some 5) (.fieldA 0 (.t 3)) none,
  .op (some 6) (.load false 1 (.t 5)) none,
  .op (some 7) (.mkF 9 1 1 [(.t 6)]) none,
  .op (some 8) (.call 39 [(.t 4),(.t 7)]) none])
 (.seq (.reg [.op (some 9) (.mov (.t 0)) none,
  .op (some 10) (.fieldA 2 (.t 3)) none,
  .op (some 11) (.load false 1 (.t 10)) none,
  .op (some 12) (.mkF 3 1 1 [(.t 11)]) none,
  .op (some 13) (.call 44 [(.t 9),(.t 12)]) none])
 (.seq (.reg [.op (some 14) (.mov (.t 0)) none,
  .op (some 15) (.fieldA 3 (.t 3)) none,
  .op (some 16) (.load false 1 (.t 15)) none,
  .op (some 17) (.call 54 [(.t 14),(.t 16)]) none])
 (.seq (.reg [.op (some 18) (.mov (.t 0)) none,
  .op (some 19) (.fieldA 4 (.t 3)) none,
  .op (some 20) (.load false 1 (.t 19)) none,
  .op (some 21) (.mkF 3 1 1 [(.t 20)]) none,
  .op (some 22) (.call 44 [(.t 18),(.t 21)]) none])
 (.seq (.reg [.op (some 23) (.mov (.t 0)) none,
  .op (some 24) (.fieldA 8 (.t 3)) none,
  .op (some 25) (.load false 1 (.t 24)) none,
  .op (some 26) (.fieldA 4 (.t 3)) none,
  .op (some 27) (.load false 1 (.t 26)) none,
  .op (some 28) (.fieldA 8 (.t 3)) none,
  .op (some 29) (.load false 1 (.t 28)) none,
  .op (some 30) (.len (.t 29)) none,
  .op (some 31) (.mm false [(.t 27),(.t 30)]) none,
  .op (some 32) (.mm true [(.c (.int .i64 0)),(.t 31)]) none,
  .op (some 33) (.slc 3 (.t 25) none (some (.t 32))) none,
  .op (some 34) (.mov (.t 0)) none,
  .op (some 35) (.mkfn 48 [(.t 34)] []) none,
  .op (some 36) (.call 47 [(.t 23),(.t 33),(.t 35)]) none])
 (.seq (.reg [.op (some 37) (.mov (.t 0)) none,
  .op (some 38) (.fieldA 5 (.t 3)) none,
  .op (some 39) (.load true 3 (.t 38)) none,
  .op (some 40) (.call 48 [(.t 37),(.t 39)]) none])
 (.reg [.op (some 41) (.mov (.t 0)) none,
  .op (some 42) (.fieldA 10 (.t 3)) none,
  .op (some 43) (.load false 1 (.t 42)) none,
  .op (some 44) (.call 92 [(.t 41),(.t 43)]) none]))))))))
def A59:Ann:={ n:=45,own:=[],frz:=[],ord:=[] }
theorem facts59:factsOf Tryz.prog A59 Tryz.f59 = some (c59,45,[],false):=by kernel_rfl
def c60:SCode:=(.seq (.reg [.op (some 1) (.boxF 42 (.t 0)) none,
  .op (some 2) (.mov (.c (.bool false))) none])
 (.seq (.regD [.op (some 3) (.fieldA 1 (.t 1)) none,
  .op (some 4) (.loadD false 1 (.t 3)) none,
  .op (some 5) (.len (.t 4)) none,
  .op (some 6) (.fieldA 2 (.t 1)) none,
  .op (some 7) (.loadD false 1 (.t 6)) none,
  .op (some 8) (.len (.t 7)) none,
  .op (some 9) (.bin .eql (.t 5) (.t 8)) none,
  .op (some 10) (.mov (.t 9)) none,
  .op (some 11) (.fieldA 3 (.t 1)) (some (10,true)),
  .op (some 12) (.loadD false 1 (.t 11)) (some (10,true)),
  .op (some 13) (.fieldA 4 (.t 1)) (some (10,true)),
  .op (some 14) (.loadD false 1 (.t 13)) (some (10,true)),
  .op (some 15) (.callD 15 [(.t 14)]) (some (10,true)),
  .op (some 16) (.bin .eql (.t 12) (.t 15)) (some (10,true)),
  .op (some 17) (.pick (.t 10) (.t 16) (.c (.bool false))) none,
  .op (some 2) (.mov (.t 17)) none])
 .ret))
def A60:Ann:={ n:=18,own:=[1],frz:=[],ord:=[(1,[0,1,2,3,4,5,6,7,8,9,10,11,12,13,14,15],[[],[0],[0,1],[],[3],[3,4],[0,1,2,3,4,5],[0,1,2,3,4,5,6],[0,1,2,3,4,5,6,7],[0,1,2,3,4,5,6,7,8],[0,1,2,3,4,5,6,7],[0,1,2,3,4,5,6,7,10],[0,1,2,3,4,5,6,7,10,11],[0,1,2,3,4,5,6,7,8,9,10,11,12],[0,1,2,3,4,5,6,7,8,9,10,11,12,13],[0,1,2,3,4,5,6,7,8,9,10,11,12,13,14]])] }
theorem facts60:factsOf Tryz.prog A60 Tryz.f60 = some (c60,18,[(2,none)],false):=by kernel_rfl
def c61:SCode:=(.seq (.reg [.op (some 8) (.mov (.t 0)) none,
  .op (some 9) (.mov (.t 1)) none,
  .op (some 10) (.len (.t 9)) none,
  .op (some 11) (.mkF 3 1 1 [(.t 10)]) none,
  .op (some 12) (.call 65 [(.t 8),(.t 11)]) none])
 (.seq (.reg [.op (some 13) (.mov (.t 1)) none,
  .op (some 14) (.len (.t 13)) none,
  .op (some 15) (.mov (.c (.int .i64 0))) none])
 (.block 0
 (.loop [16,17,18,7,19,20,21,22,15]
  (.seq (.reg [.op (some 16) (.bin .lss (.t 15) (.t 14)) none])
   (.seq (.cond (.t 16)
   .skip
   (.exit 0))
   (.seq (.block 1
   (.seq (.reg [.op (some 17) (.idxA 1 (.t 13) (.t 15)) none,
     .op (some 18) (.load false 1 (.t 17)) none,
     .op (some 7) (.mov (.t 18)) none])
    (.reg [.op (some 19) (.mov (.t 2)) none,
     .op (some 20) (.mov (.t 7)) none,
     .op (some 21) (.callV (.t 19) [(.t 20)]) none])))
   (.reg [.op (some 22) (.bin .add (.t 15) (.c (.int .i64 1))) none,
    .op (some 15) (.mov (.t 22)) none]))))))))
def A61:Ann:={ n:=23,own:=[],frz:=[],ord:=[] }
theorem facts61:factsOf Tryz.prog A61 Tryz.f61 = some (c61,23,[],false):=by kernel_rfl
def c62:SCode:=(.reg [.op (some 3) (.load false 1 (.t 1)) none,
  .op (some 4) (.mov (.t 0)) none,
  .op (some 5) (.mkF 9 1 1 [(.t 4)]) none,
  .op (some 6) (.call 21 [(.t 3),(.t 5)]) none])
def A62:Ann:={ n:=7,own:=[],frz:=[],ord:=[] }
theorem facts62:factsOf Tryz.prog A62 Tryz.f62 = some (c62,7,[],false):=by kernel_rfl
def c63:SCode:=(.seq (.reg [.op (some 8) (.mov (.t 0)) none,
  .op (some 9) (.mov (.t 1)) none,
  .op (some 10) (.len (.t 9)) none,
  .op (some 11) (.mkF 3 1 1 [(.t 10)]) none,
  .op (some 12) (.call 65 [(.t 8),(.t 11)]) none])
 (.seq (.reg [.op (some 13) (.mov (.t 1)) none,
  .op (some 14) (.len (.t 13)) none,
  .op (some 15) (.mov (.c (.int .i64 0))) none])
 (.block 0
 (.loop [16,17,18,7,19,20,21,22,15]
  (.seq (.reg [.op (some 16) (.bin .lss (.t 15) (.t 14)) none])
   (.seq (.cond (.t 16)
   .skip
   (.exit 0))
   (.seq (.block 1
   (.seq (.reg [.op (some 17) (.idxA 1 (.t 13) (.t 15)) none,
     .op (some 18) (.load false 1 (.t 17)) none,
     .op (some 7) (.mov (.t 18)) none])
    (.reg [.op (some 19) (.mov (.t 2)) none,
     .op (some 20) (.mov (.t 7)) none,
     .op (some 21) (.callV (.t 19) [(.t 20)]) none])))
   (.reg [.op (some 22) (.bin .add (.t 15) (.c (.int .i64 1))) none,
    .op (some 15) (.mov (.t 22)) none]))))))))
def A63:Ann:={ n:=23,own:=[],frz:=[],ord:=[] }
theorem facts63:factsOf Tryz.prog A63 Tryz.f63 = some (c63,23,[],false):=by kernel_rfl
def c64:SCode:=(.reg [.op (some 3) (.load false 1 (.t 1)) none,
  .op (some 4) (.mov (.t 0)) none,
  .op (some 5) (.mkF 3 1 1 [(.t 4)]) none,
  .op (some 6) (.call 65 [(.t 3),(.t 5)]) none])
def A64:Ann:={ n:=7,own:=[],frz:=[],ord:=[] }
theorem facts64:factsOf Tryz.prog A64 Tryz.f64 = some (c64,7,[],false):=by kernel_rfl
def c65:SCode:=(.seq (.reg [.op (some 7) (.mov (.t 1)) none,
  .op (some 8) (.len (.t 7)) none,
  .op (some 9) (.mov (.c (.int .i64 0))) none])
 (.block 0
 (.loop [10,11,12,5,13,14,15,16,17,18,19,6,20,21,24,25,26,27,28,29,30,31,22,23,6,32,33,34,35,36,37,38,9]
  (.seq (.reg [.op (some 10) (.bin .lss (.t 9) (.t 8)) none])
   (.seq (.cond (.t 10)
   .skip
   (.exit 0))
   (.seq (.block 1
   (.seq (.reg [.op (some 11) (.idxA 1 (.t 7) (.t 9)) none,
     .op (some 12) (.load false 1 (.t 11)) none,
     .op (some 5) (.mov (.t 12)) none])
    (.seq (.reg [.op (some 13) (.mov (.t 5)) none,
     .op (some 14) (.conv .u64 (.t 13)) none,
     .op (some 15) (.bin .shl (.t 14) (.c (.int .u64 1))) none,
     .op (some 16) (.mov (.t 5)) none,
     .op (some 17) (.bin .shr (.t 16) (.c (.int .u64 63))) none,
     .op (some 18) (.conv .u64 (.t 17)) none,
     .op (some 19) (.bin .xor (.t 15) (.t 18)) none,
     .op (some 6) (.mov (.t 19)) none])
    (.seq (.block 2
    (.loop [20,21,24,25,26,27,28,29,30,31,22,23,6]
     (.seq (.seq (.reg [.op (some 20) (.mov (.t 6)) none,
       .op (some 21) (.bin .geq (.t 20) (.c (.int .u64 128))) none])
      (.cond (.t 21)
      .skip
      (.exit 2)))
      (.seq (.block 3
      (.reg [.op (some 24) (.mov (.t 0)) none,
        .op (some 25) (.nilck (.t 24)) none,
        .op (some 26) (.fieldA 0 (.t 25)) none,
        .op (some 27) (.mov (.t 6)) none,
        .op (some 28) (.bin .and (.t 27) (.c (.int .u64 127))) none,
        .op (some 29) (.bin .or (.c (.int .u64 128)) (.t 28)) none,
        .op (some 30) (.conv .u8 (.t 29)) none,
        .op (some 31) (.call 93 [(.t 26),(.t 30)]) none]))
      (.reg [.op (some 22) (.mov (.t 6)) none,
       .op (some 23) (.bin .shr (.t 22) (.c (.int .u64 7))) none,
       .op (some 6) (.mov (.t 23)) none])))))
    (.reg [.op (some 32) (.mov (.t 0)) none,
     .op (some 33) (.nilck (.t 32)) none,
     .op (some 34) (.fieldA 0 (.t 33)) none,
     .op (some 35) (.mov (.t 6)) none,
     .op (some 36) (.conv .u8 (.t 35)) none,
     .op (some 37) (.call 93 [(.t 34),(.t 36)]) none])))))
   (.reg [.op (some 38) (.bin .add (.t 9) (.c (.int .i64 1))) none,
    .op (some 9) (.mov (.t 38)) none])))))))
def A65:Ann:={ n:=39,own:=[],frz:=[],ord:=[] }
theorem facts65:factsOf Tryz.prog A65 Tryz.f65 = some (c65,39,[],false):=by kernel_rfl
def c66:SCode:=(.seq (.reg [.op (some 4) (.mov (.c (.int .i64 0))) none,
  .op (some 5) (.mov (.c .nilIface)) none])
 (.seq (.reg [.op (some 8) (.mov (.t 0)) none,
  .op (some 9) (.nilck (.t 8)) none,
  .op (some 10) (.fieldA 2 (.t 9)) none,
  .op none (.store 1 (.t 10) (.c (.int .i8 0))) none])
 (.seq (.reg [.op (some 12) (.mov (.t 0)) none,
  .op (some 13) (.mov (.t 1)) none,
  .op (some 14) (.len (.t 13)) none,
  .op (some 15) (.call 94 [(.t 12),(.t 14)]) none,
  .op (some 11) (.mov (.t 15)) none,
  .op (some 16) (.extr (.t 11) 0) none,
  .op (some 17) (.extr (.t 11) 1) none,
  .op (some 6) (.mov (.t 16)) none,
  .op (some 7) (.mov (.t 17)) none])
 (.seq (.seq (.reg [.op (some 18) (.mov (.t 7)) none,
  .op (some 19) (.un .not (.t 18)) none])
 (.cond (.t 19)
 (.reg [.op (some 20) (.mov (.t 0)) none,
   .op (some 21) (.mov (.t 1)) none,
   .op (some 22) (.len (.t 21)) none,
   .op (some 23) (.call 95 [(.t 20),(.t 22)]) none,
   .op (some 6) (.mov (.t 23)) none])
 .skip))
 (.seq (.reg [.op (some 24) (.mov (.t 0)) none,
  .op (some 25) (.nilck (.t 24)) none,
  .op (some 26) (.fieldA 0 (.t 25)) none,
  .op (some 27) (.load false 1 (.t 26)) none,
  .op (some 28) (.mov (.t 6)) none,
  .op (some 29) (.slc 1 (.t 27) (some (.t 28)) none) none,
  .op (some 30) (.mov (.t 1)) none,
  .op (some 31) (.copy 5 1 (.t 29) (.t 30)) none,
  .op (some 4) (.mov (.t 31)) none,
  .op (some 5) (.mov (.c .nilIface)) none])
 .ret)))))
def A66:Ann:={ n:=32,own:=[],frz:=[],ord:=[] }
theorem facts66:factsOf Tryz.prog A66 Tryz.f66 = some (c66,32,[(4,none),(5,none)],false):=by kernel_rfl
def c67:SCode:=(.seq (.reg [.op (some 2) (.mov (.c (.slice none 0 0))) none])
 (.seq (.reg [.op (some 4) (.mov (.t 0)) none,
  .op (some 5) (.call 15 [(.t 4)]) none,
  .op (some 3) (.mov (.t 5)) none])
 (.seq (.reg [.op (some 6) (.mov (.t 0)) none,
  .op (some 7) (.call 96 [(.t 6)]) none,
  .op (some 8) (.mov (.t 3)) none,
  .op (some 9) (.bin .shr (.t 8) (.c (.int .u64 24))) none,
  .op (some 10) (.conv .u8 (.t 9)) none,
  .op (some 11) (.mov (.t 3)) none,
  .op (some 12) (.bin .shr (.t 11) (.c (.int .u64 16))) none,
  .op (some 13) (.conv .u8 (.t 12)) none,
  .op (some 14) (.mov (.t 3)) none,
  .op (some 15) (.bin .shr (.t 14) (.c (.int .u64 8))) none,
  .op (some 16) (.conv .u8 (.t 15)) none,
  .op (some 17) (.mov (.t 3)) none,
  .op (some 18) (.conv .u8 (.t 17)) none,
  .op (some 19) (.mkF 5 4 1 [(.t 10),(.t 13),(.t 16),(.t 18)]) none,
  .op (some 20) (.app 5 1 1 [(.int .u8 0)] (.t 7) (.t 19)) none,
  .op (some 2) (.mov (.t 20)) none])
 .ret)))
def A67:Ann:={ n:=21,own:=[],frz:=[],ord:=[] }
theorem facts67:factsOf Tryz.prog A67 Tryz.f67 = some (c67,21,[(2,none)],false):=by kernel_rfl
def c68:SCode:=(.seq (.reg [.op (some 4) (.mov (.c (.int .i64 0))) none])
 (.seq (.reg [.op (some 5) (.mov (.c (.int .i64 7))) none])
 (.seq (.seq (.reg [.op (some 8) (.mov (.t 0)) none,
  .op (some 9) (.len (.t 8)) none,
  .op (some 10) (.mov (.c (.int .i64 0))) none])
 (.block 0
 (.loop [11,12,13,7,14,15,16,17,18,19,20,21,5,22,10]
  (.seq (.reg [.op (some 11) (.bin .lss (.t 10) (.t 9)) none])
   (.seq (.cond (.t 11)
   .skip
   (.exit 0))
   (.seq (.block 1
   (.seq (.reg [.op (some 12) (.idxA 1 (.t 8) (.t 10)) none,
     .op (some 13) (.load false 1 (.t 12)) none,
     .op (some 7) (.mov (.t 13)) none])
    (.reg [.op (some 14) (.mov (.t 5)) none,
     .op (some 15) (.bin .mul (.t 14) (.c (.int .i64 1000003))) none,
     .op (some 16) (.mov (.t 1)) none,
     .op (some 17) (.mov (.t 7)) none,
     .op (some 18) (.callV (.t 16) [(.t 17)]) none,
     .op (some 19) (.bin .add (.t 15) (.t 18)) none,
     .op (some 20) (.bin .add (.t 19) (.c (.int .i64 1))) none,
     .op (some 21) (.bin .rem (.t 20) (.c (.int .i64 2147483647))) none,
     .op (some 5) (.mov (.t 21)) none])))
   (.reg [.op (some 22) (.bin .add (.t 10) (.c (.int .i64 1))) none,
    .op (some 10) (.mov (.t 22)) none])))))))
 (.seq (.reg [.op (some 23) (.mov (.t 5)) none,
  .op (some 4) (.mov (.t 23)) none])
 .ret))))
def A68:Ann:={ n:=24,own:=[],frz:=[],ord:=[] }
theorem facts68:factsOf Tryz.prog A68 Tryz.f68 = some (c68,24,[(4,none)],false):=by kernel_rfl
def c69:SCode:=(.seq (.reg [.op (some 2) (.mov (.c (.int .i64 0))) none])
 (.seq (.reg [.op (some 3) (.mov (.t 0)) none,
  .op (some 4) (.conv .i64 (.t 3)) none,
  .op (some 2) (.mov (.t 4)) none])
 .ret))
def A69:Ann:={ n:=5,own:=[],frz:=[],ord:=[] }
theorem facts69:factsOf Tryz.prog A69 Tryz.f69 = some (c69,5,[(2,none)],false):=by kernel_rfl
def c70:SCode:=(.block 0
 (.seq (.reg [.op (some 7) (.eqN false (.t 5)) none])
  (.cond (.t 7)
  (.reg [.op (some 2) (.mov (.t 5)) none])
  (.seq (.reg [.op (some 8) (.tas 43 (.int .i64 0) (.t 5)) none,
    .op (some 9) (.extr (.t 8) 1) none,
    .op (some 10) (.extr (.t 8) 0) none])
   (.cond (.t 9)
   (.seq (.reg [.op (some 3) (.mov (.t 10)) none])
    (.reg [.op (some 11) (.build [(.string ⟨#[]⟩),(.slice none 0 0),(.slice none 0 0),(.int .i64 0),(.slice none 0 0)] []) none,
     .op (some 12) (.mov (.t 3)) none,
     .op none (.store 5 (.t 0) (.t 11)) none,
     .op none (.store 1 (.t 1) (.t 12)) none]))
   (.seq (.reg [.op (some 4) (.mov (.t 5)) none])
    (.reg [.op (some 6) (.mov (.t 4)) none,
     .pc none (.pan (.t 6)) none])))))))
def A70:Ann:={ n:=13,own:=[],frz:=[],ord:=[],pan:=[(2,1)] }
theorem facts70:factsR Tryz.prog A70 Tryz.f70 = some (c70,5):=by kernel_rfl
def c71:SCode:=(.seq (.reg [.op (some 4) (.mov (.c (.bool false))) none])
 (.seq (.reg [.op (some 5) (.mov (.t 0)) none,
  .op (some 6) (.b2s (.t 5)) none,
  .op (some 7) (.mov (.t 1)) none,
  .op (some 8) (.b2s (.t 7)) none,
  .op (some 9) (.bin .eql (.t 6) (.t 8)) none,
  .op (some 4) (.mov (.t 9)) none])
 .ret))
def A71:Ann:={ n:=10,own:=[],frz:=[],ord:=[] }
theorem facts71:factsOf Tryz.prog A71 Tryz.f71 = some (c71,10,[(4,none)],false):=by kernel_rfl
def c72:SCode:=(.seq (.reg [.op (some 2) (.mov (.c (.pointer none))) none])
 (.seq (.reg [.op (some 3) (.mov (.t 0)) none,
  .op (some 4) (.build [(.slice none 0 0),(.int .i64 0),(.int .i64 0)] [(0,1,(.t 3)),(1,1,(.c (.int .i64 0))),(2,1,(.c (.int .i64 (-1))))]) none,
  .op (some 5) (.box 159 (.t 4)) none,
  .op (some 2) (.mov (.t 5)) none])
 .ret))
def A72:Ann:={ n:=6,own:=[],frz:=[],ord:=[] }
theorem facts72:factsOf Tryz.prog A72 Tryz.f72 = some (c72,6,[(2,none)],false):=by kernel_rfl
def c73:SCode:=(.seq (.reg [.op (some 1) (.mov (.c (.string ⟨#[]⟩))) none])
 (.seq (.reg [.op (some 2) (.load true 1 (.t 0)) none,
  .pc (some 3) (.call 74 [(.t 2)]) none,
  .op (some 4) (.b2s (.t 3)) none,
  .op (some 1) (.mov (.t 4)) none])
 .ret))
def A73:Ann:={ n:=5,own:=[],frz:=[],ord:=[],pan:=[(1,1)] }
theorem facts73:factsOf Tryz.prog A73 Tryz.f73 = some (c73,5,[(1,none)],false):=by kernel_rfl
def c74:SCode:=(.seq (.reg [.op (some 1) (.box 132 (.t 0)) none,
  .op (some 2) (.mov (.c (.slice none 0 0))) none])
 (.seq (.reg [.op (some 5) (.load true 1 (.t 1)) none,
  .pc (some 6) (.call 77 [(.t 5)]) none,
  .op (some 3) (.mov (.t 6)) none])
 (.seq (.seq (.reg [.op (some 7) (.mov (.t 3)) none,
  .op (some 8) (.bin .lss (.t 7) (.c (.int .i64 0))) none,
  .op (some 9) (.mov (.t 8)) none,
  .op (some 10) (.mov (.t 3)) (some (9,false)),
  .op (some 11) (.fieldA 0 (.t 1)) (some (9,false)),
  .op (some 12) (.load false 1 (.t 11)) (some (9,false)),
  .op (some 13) (.call 78 [(.t 12)]) (some (9,false)),
  .op (some 14) (.bin .gtr (.t 10) (.t 13)) (some (9,false)),
  .op (some 15) (.pick (.t 9) (.c (.bool true)) (.t 14)) none])
 (.cond (.t 15)
 (.reg [.op (some 16) (.mkif 43 (.c (.int .i64 16))) none,
   .pc none (.pan (.t 16)) none])
 .skip))
 (.seq (.reg [.op (some 17) (.mov (.t 3)) none,
  .op (some 18) (.makeS 5 1 1 [(.int .u8 0)] (.t 17) (.t 17)) none,
  .op (some 4) (.mov (.t 18)) none])
 (.seq (.reg [.op (some 19) (.fieldA 0 (.t 1)) none,
  .op (some 20) (.load false 1 (.t 19)) none,
  .op (some 21) (.mov (.t 4)) none,
  .op (some 22) (.call 97 [(.t 20),(.t 21)]) none])
 (.seq (.reg [.op (some 23) (.mov (.t 4)) none,
  .op (some 2) (.mov (.t 23)) none])
 .ret))))))
def A74:Ann:={ n:=24,own:=[],frz:=[],ord:=[],pan:=[(1,1),(3,1)] }
theorem facts74:factsOf Tryz.prog A74 Tryz.f74 = some (c74,24,[(2,none)],false):=by kernel_rfl
def c75:SCode:=(.seq (.reg [.op (some 2) (.box 132 (.t 0)) none,
  .op (some 4) (.mov (.c (.slice none 0 0))) none])
 (.seq (.reg [.op (some 7) (.load true 1 (.t 2)) none,
  .pc (some 8) (.call 77 [(.t 7)]) none,
  .op (some 5) (.mov (.t 8)) none])
 (.seq (.seq (.reg [.op (some 9) (.mov (.t 5)) none,
  .op (some 10) (.bin .lss (.t 9) (.c (.int .i64 0))) none,
  .op (some 11) (.mov (.t 10)) none,
  .op (some 12) (.mov (.t 5)) (some (11,false)),
  .op (some 13) (.fieldA 0 (.t 2)) (some (11,false)),
  .op (some 14) (.load false 1 (.t 13)) (some (11,false)),
  .op (some 15) (.call 78 [(.t 14)]) (some (11,false)),
  .op (some 16) (.bin .gtr (.t 12) (.t 15)) (some (11,false)),
  .op (some 17) (.pick (.t 11) (.c (.bool true)) (.t 16)) none])
 (.cond (.t 17)
 (.reg [.op (some 18) (.mkif 43 (.c (.int .i64 16))) none,
   .pc none (.pan (.t 18)) none])
 .skip))
 (.seq (.reg [.op (some 6) (.mov (.c (.slice none 0 0))) none])
 (.seq (.seq (.reg [.op (some 19) (.mov (.t 5)) none,
  .op (some 20) (.mov (.c (.int .i64 0))) none])
 (.block 0
 (.loop [21,22,23,24,25,26,6,27,20]
  (.seq (.reg [.op (some 21) (.bin .lss (.t 20) (.t 19)) none])
   (.seq (.cond (.t 21)
   .skip
   (.exit 0))
   (.seq (.block 1
   (.reg [.op (some 22) (.mov (.t 6)) none,
     .op (some 23) (.mov (.t 1)) none,
     .pc (some 24) (.callV (.t 23) []) none,
     .op (some 25) (.mkF 9 1 1 [(.t 24)]) none,
     .op (some 26) (.app 9 1 16 [(.string ⟨#[]⟩)] (.t 22) (.t 25)) none,
     .op (some 6) (.mov (.t 26)) none]))
   (.reg [.op (some 27) (.bin .add (.t 20) (.c (.int .i64 1))) none,
    .op (some 20) (.mov (.t 27)) none])))))))
 (.seq (.reg [.op (some 28) (.mov (.t 6)) none,
  .op (some 4) (.mov (.t 28)) none])
 .ret))))))
def A75:Ann:={ n:=29,own:=[],frz:=[],ord:=[],pan:=[(1,1),(3,1),(7,2)] }
theorem facts75:factsOf Tryz.prog A75 Tryz.f75 = some (c75,29,[(4,none)],false):=by kernel_rfl
def c76:SCode:=(.seq (.reg [.op (some 2) (.box 132 (.t 0)) none,
  .op (some 4) (.mov (.c (.slice none 0 0))) none])
 (.seq (.reg [.op (some 7) (.load true 1 (.t 2)) none,
  .pc (some 8) (.call 77 [(.t 7)]) none,
  .op (some 5) (.mov (.t 8)) none])
 (.seq (.seq (.reg [.op (some 9) (.mov (.t 5)) none,
  .op (some 10) (.bin .lss (.t 9) (.c (.int .i64 0))) none,
  .op (some 11) (.mov (.t 10)) none,
  .op (some 12) (.mov (.t 5)) (some (11,false)),
  .op (some 13) (.fieldA 0 (.t 2)) (some (11,false)),
  .op (some 14) (.load false 1 (.t 13)) (some (11,false)),
  .op (some 15) (.call 78 [(.t 14)]) (some (11,false)),
  .op (some 16) (.bin .gtr (.t 12) (.t 15)) (some (11,false)),
  .op (some 17) (.pick (.t 11) (.c (.bool true)) (.t 16)) none])
 (.cond (.t 17)
 (.reg [.op (some 18) (.mkif 43 (.c (.int .i64 16))) none,
   .pc none (.pan (.t 18)) none])
 .skip))
 (.seq (.reg [.op (some 6) (.mov (.c (.slice none 0 0))) none])
 (.seq (.seq (.reg [.op (some 19) (.mov (.t 5)) none,
  .op (some 20) (.mov (.c (.int .i64 0))) none])
 (.block 0
 (.loop [21,22,23,24,25,26,6,27,20]
  (.seq (.reg [.op (some 21) (.bin .lss (.t 20) (.t 19)) none])
   (.seq (.cond (.t 21)
   .skip
   (.exit 0))
   (.seq (.block 1
   (.reg [.op (some 22) (.mov (.t 6)) none,
     .op (some 23) (.mov (.t 1)) none,
     .pc (some 24) (.callV (.t 23) []) none,
     .op (some 25) (.mkF 3 1 1 [(.t 24)]) none,
     .op (some 26) (.app 3 1 8 [(.int .i64 0)] (.t 22) (.t 25)) none,
     .op (some 6) (.mov (.t 26)) none]))
   (.reg [.op (some 27) (.bin .add (.t 20) (.c (.int .i64 1))) none,
    .op (some 20) (.mov (.t 27)) none])))))))
 (.seq (.reg [.op (some 28) (.mov (.t 6)) none,
  .op (some 4) (.mov (.t 28)) none])
 .ret))))))
def A76:Ann:={ n:=29,own:=[],frz:=[],ord:=[],pan:=[(1,1),(3,1),(7,2)] }
theorem facts76:factsOf Tryz.prog A76 Tryz.f76 = some (c76,29,[(4,none)],false):=by kernel_rfl
def c77:SCode:=(.seq (.reg [.op (some 1) (.box 132 (.t 0)) none,
  .op (some 2) (.mov (.c (.int .i64 0))) none])
 (.seq (.reg [.op (some 3) (.mov (.c (.slice none 0 0))) none])
 (.seq (.block 0
 (.loop [10,11,12,9,13,14,4,5,15,16,17,18,3,19,20,21,22,23,24,25,26,27,28,29,30,31,32,33,34,35,36,37]
  (.block 1
   (.seq (.reg [.op (some 10) (.fieldA 0 (.t 1)) none,
     .op (some 11) (.load false 1 (.t 10)) none,
     .op (some 12) (.call 98 [(.t 11)]) none,
     .op (some 9) (.mov (.t 12)) none,
     .op (some 13) (.extr (.t 9) 0) none,
     .op (some 14) (.extr (.t 9) 1) none,
     .op (some 4) (.mov (.t 13)) none,
     .op (some 5) (.mov (.t 14)) none])
    (.seq (.reg [.op (some 15) (.mov (.t 3)) none,
     .op (some 16) (.mov (.t 4)) none,
     .op (some 17) (.mkF 5 1 1 [(.t 16)]) none,
     .op (some 18) (.app 5 1 1 [(.int .u8 0)] (.t 15) (.t 17)) none,
     .op (some 3) (.mov (.t 18)) none])
    (.seq (.seq (.reg [.op (some 19) (.mov (.t 5)) none,
     .op (some 20) (.eqN true (.t 19)) none,
     .op (some 21) (.mov (.t 20)) none,
     .op (some 22) (.mov (.t 3)) (some (21,false)),
     .op (some 23) (.len (.t 22)) (some (21,false)),
     .op (some 24) (.bin .gtr (.t 23) (.c (.int .i64 9))) (some (21,false)),
     .op (some 25) (.pick (.t 21) (.c (.bool true)) (.t 24)) none,
     .op (some 26) (.mov (.t 25)) none,
     .op (some 27) (.mov (.t 3)) (some (26,false)),
     .op (some 28) (.len (.t 27)) (some (26,false)),
     .op (some 29) (.bin .gtr (.t 28) (.c (.int .i64 1))) (some (26,false)),
     .op (some 30) (.mov (.t 29)) (some (26,false)),
     .op (some 31) (.mov (.t 4)) (some (30,true)),
     .op (some 32) (.bin .eql (.t 31) (.c (.int .u8 0))) (some (30,true)),
     .op (some 33) (.pick (.t 30) (.t 32) (.c (.bool false))) (some (26,false)),
     .op (some 34) (.pick (.t 26) (.c (.bool true)) (.t 33)) none])
    (.cond (.t 34)
    (.reg [.op (some 35) (.mkif 43 (.c (.int .i64 16))) none,
      .pc none (.pan (.t 35)) none])
    .skip))
    (.seq (.reg [.op (some 36) (.mov (.t 4)) none,
     .op (some 37) (.bin .lss (.t 36) (.c (.int .u8 128))) none])
    (.cond (.t 37)
    (.exit 0)
    .skip))))))))
 (.seq (.reg [.frz 18,
  .op (some 6) (.mov (.c (.int .u64 0))) none])
 (.seq (.seq (.reg [.op (some 38) (.mov (.t 3)) none,
  .op (some 39) (.len (.t 38)) none,
  .op (some 40) (.mov (.c (.int .i64 0))) none])
 (.block 2
 (.loop [41,42,43,44,7,8,45,46,47,48,49,50,51,52,6,53,40]
  (.seq (.reg [.op (some 41) (.bin .lss (.t 40) (.t 39)) none])
   (.seq (.cond (.t 41)
   .skip
   (.exit 2))
   (.seq (.block 3
   (.seq (.reg [.op (some 42) (.mov (.t 40)) none,
     .op (some 43) (.idxA 1 (.t 38) (.t 40)) none,
     .op (some 44) (.load false 1 (.t 43)) none,
     .op (some 7) (.mov (.t 42)) none,
     .op (some 8) (.mov (.t 44)) none])
    (.reg [.op (some 45) (.mov (.t 6)) none,
     .op (some 46) (.mov (.t 8)) none,
     .op (some 47) (.bin .and (.t 46) (.c (.int .u8 127))) none,
     .op (some 48) (.conv .u64 (.t 47)) none,
     .op (some 49) (.mov (.t 7)) none,
     .op (some 50) (.bin .mul (.c (.int .i64 7)) (.t 49)) none,
     .op (some 51) (.bin .shl (.t 48) (.t 50)) none,
     .op (some 52) (.bin .or (.t 45) (.t 51)) none,
     .op (some 6) (.mov (.t 52)) none])))
   (.reg [.op (some 53) (.bin .add (.t 40) (.c (.int .i64 1))) none,
    .op (some 40) (.mov (.t 53)) none])))))))
 (.seq (.reg [.op (some 54) (.mov (.t 6)) none,
  .op (some 55) (.bin .shr (.t 54) (.c (.int .u64 1))) none,
  .op (some 56) (.conv .i64 (.t 55)) none,
  .op (some 57) (.mov (.t 6)) none,
  .op (some 58) (.bin .and (.t 57) (.c (.int .u64 1))) none,
  .op (some 59) (.conv .i64 (.t 58)) none,
  .op (some 60) (.un .neg (.t 59)) none,
  .op (some 61) (.bin .xor (.t 56) (.t 60)) none,
  .op (some 2) (.mov (.t 61)) none])
 .ret))))))
def A77:Ann:={ n:=62,own:=[],frz:=[(7,0,[18])],ord:=[],pan:=[(5,1)] }
theorem facts77:factsOf Tryz.prog A77 Tryz.f77 = some (c77,62,[(2,none)],false):=by kernel_rfl
def c78:SCode:=(.seq (.reg [.op (some 2) (.mov (.c (.int .i64 0))) none])
 (.seq (.seq (.regD [.op (some 3) (.mov (.t 0)) none,
  .op (some 4) (.nilck (.t 3)) none,
  .op (some 5) (.fieldA 1 (.t 4)) none,
  .op (some 6) (.loadD false 1 (.t 5)) none,
  .op (some 7) (.mov (.t 0)) none,
  .op (some 8) (.nilck (.t 7)) none,
  .op (some 9) (.fieldA 0 (.t 8)) none,
  .op (some 10) (.loadD false 1 (.t 9)) none,
  .op (some 11) (.len (.t 10)) none,
  .op (some 12) (.bin .geq (.t 6) (.t 11)) none])
 (.cond (.t 12)
 (.seq (.reg [.op (some 2) (.mov (.c (.int .i64 0))) none])
  .ret)
 .skip))
 (.seq (.regD [.op (some 13) (.mov (.t 0)) none,
  .op (some 14) (.nilck (.t 13)) none,
  .op (some 15) (.fieldA 0 (.t 14)) none,
  .op (some 16) (.loadD false 1 (.t 15)) none,
  .op (some 17) (.len (.t 16)) none,
  .op (some 18) (.mov (.t 0)) none,
  .op (some 19) (.nilck (.t 18)) none,
  .op (some 20) (.fieldA 1 (.t 19)) none,
  .op (some 21) (.loadD false 1 (.t 20)) none,
  .op (some 22) (.bin .sub (.t 17) (.t 21)) none,
  .op (some 2) (.mov (.t 22)) none])
 .ret)))
def A78:Ann:={ n:=23,own:=[],frz:=[],ord:=[(1,[0,1,2,3,4,5,6,7,8,9],[[],[0],[0,1],[0,1,2],[],[4],[4,5],[4,5,6],[4,5,6,7],[0,1,2,3,4,5,6,7,8]]),(3,[0,1,2,3,4,5,6,7,8,9,10],[[],[0],[0,1],[0,1,2],[0,1,2,3],[],[5],[5,6],[5,6,7],[0,1,2,3,4,5,6,7,8],[0,1,2,3,4,5,6,7,8,9]])] }
theorem facts78:factsOf Tryz.prog A78 Tryz.f78 = some (c78,23,[(2,none)],false):=by kernel_rfl
def c79:SCode:=(.seq (.reg [.op (some 4) (.mov (.c (.int .i64 0))) none,
  .op (some 5) (.mov (.c .nilIface)) none])
 (.seq (.reg [.op (some 8) (.mov (.t 0)) none,
  .op (some 9) (.nilck (.t 8)) none,
  .op (some 10) (.fieldA 2 (.t 9)) none,
  .op none (.store 1 (.t 10) (.c (.int .i8 0))) none])
 (.seq (.reg [.op (some 12) (.mov (.t 0)) none,
  .op (some 13) (.mov (.t 1)) none,
  .op (some 14) (.lenS (.t 13)) none,
  .op (some 15) (.call 94 [(.t 12),(.t 14)]) none,
  .op (some 11) (.mov (.t 15)) none,
  .op (some 16) (.extr (.t 11) 0) none,
  .op (some 17) (.extr (.t 11) 1) none,
  .op (some 6) (.mov (.t 16)) none,
  .op (some 7) (.mov (.t 17)) none])
 (.seq (.seq (.reg [.op (some 18) (.mov (.t 7)) none,
  .op (some 19) (.un .not (.t 18)) none])
 (.cond (.t 19)
 (.reg [.op (some 20) (.mov (.t 0)) none,
   .op (some 21) (.mov (.t 1)) none,
   .op (some 22) (.lenS (.t 21)) none,
   .op (some 23) (.call 95 [(.t 20),(.t 22)]) none,
   .op (some 6) (.mov (.t 23)) none])
 .skip))
 (.seq (.reg [.op (some 24) (.mov (.t 0)) none,
  .op (some 25) (.nilck (.t 24)) none,
  .op (some 26) (.fieldA 0 (.t 25)) none,
  .op (some 27) (.load false 1 (.t 26)) none,
  .op (some 28) (.mov (.t 6)) none,
  .op (some 29) (.slc 1 (.t 27) (some (.t 28)) none) none,
  .op (some 30) (.mov (.t 1)) none,
  .op (some 31) (.copy 5 1 (.t 29) (.t 30)) none,
  .op (some 4) (.mov (.t 31)) none,
  .op (some 5) (.mov (.c .nilIface)) none])
 .ret)))))
def A79:Ann:={ n:=32,own:=[],frz:=[],ord:=[] }
theorem facts79:factsOf Tryz.prog A79 Tryz.f79 = some (c79,32,[(4,none),(5,none)],false):=by kernel_rfl
def c80:SCode:=(.seq (.reg [.op (some 8) (.mov (.t 0)) none,
  .op (some 9) (.mov (.t 1)) none,
  .op (some 10) (.len (.t 9)) none,
  .op (some 11) (.mkF 3 1 1 [(.t 10)]) none,
  .op (some 12) (.call 65 [(.t 8),(.t 11)]) none])
 (.seq (.reg [.op (some 13) (.mov (.t 1)) none,
  .op (some 14) (.len (.t 13)) none,
  .op (some 15) (.mov (.c (.int .i64 0))) none])
 (.block 0
 (.loop [16,17,18,7,19,20,21,22,15]
  (.seq (.reg [.op (some 16) (.bin .lss (.t 15) (.t 14)) none])
   (.seq (.cond (.t 16)
   .skip
   (.exit 0))
   (.seq (.block 1
   (.seq (.reg [.op (some 17) (.idxA 2 (.t 13) (.t 15)) none,
     .op (some 18) (.load true 2 (.t 17)) none,
     .op (some 7) (.alloc 103 [(.string ⟨#[]⟩),(.slice none 0 0)]) none,
     .op none (.store 2 (.t 7) (.t 18)) none])
    (.reg [.op (some 19) (.mov (.t 2)) none,
     .op (some 20) (.load true 2 (.t 7)) none,
     .op (some 21) (.callV (.t 19) [(.t 20)]) none])))
   (.reg [.op (some 22) (.bin .add (.t 15) (.c (.int .i64 1))) none,
    .op (some 15) (.mov (.t 22)) none]))))))))
def A80:Ann:={ n:=23,own:=[],frz:=[],ord:=[] }
theorem facts80:factsOf Tryz.prog A80 Tryz.f80 = some (c80,23,[],false):=by kernel_rfl
def c81:SCode:=(.seq (.reg [.op (some 2) (.boxF 103 (.t 0)) none])
 (.seq (.reg [.op (some 3) (.load false 1 (.t 1)) none,
  .op (some 4) (.fieldA 0 (.t 2)) none,
  .op (some 5) (.load false 1 (.t 4)) none,
  .op (some 6) (.mkF 9 1 1 [(.t 5)]) none,
  .op (some 7) (.call 21 [(.t 3),(.t 6)]) none])
 (.reg [.op (some 8) (.load false 1 (.t 1)) none,
  .op (some 9) (.fieldA 1 (.t 2)) none,
  .op (some 10) (.load false 1 (.t 9)) none,
  .op (some 11) (.load false 1 (.t 1)) none,
  .op (some 12) (.mkfn 83 [(.t 11)] []) none,
  .op (some 13) (.call 82 [(.t 8),(.t 10),(.t 12)]) none])))
def A81:Ann:={ n:=14,own:=[2],frz:=[],ord:=[] }
theorem facts81:factsOf Tryz.prog A81 Tryz.f81 = some (c81,14,[],false):=by kernel_rfl
def c82:SCode:=(.seq (.reg [.op (some 8) (.mov (.t 0)) none,
  .op (some 9) (.mov (.t 1)) none,
  .op (some 10) (.len (.t 9)) none,
  .op (some 11) (.mkF 3 1 1 [(.t 10)]) none,
  .op (some 12) (.call 65 [(.t 8),(.t 11)]) none])
 (.seq (.reg [.op (some 13) (.mov (.t 1)) none,
  .op (some 14) (.len (.t 13)) none,
  .op (some 15) (.mov (.c (.int .i64 0))) none])
 (.block 0
 (.loop [16,17,18,7,19,20,21,22,15]
  (.seq (.reg [.op (some 16) (.bin .lss (.t 15) (.t 14)) none])
   (.seq (.cond (.t 16)
   .skip
   (.exit 0))
   (.seq (.block 1
   (.seq (.reg [.op (some 17) (.idxA 3 (.t 13) (.t 15)) none,
     .op (some 18) (.load true 3 (.t 17)) none,
     .op (some 7) (.alloc 33 [(.int .i64 0),(.int .i64 0),(.slice none 0 0)]) none,
     .op none (.store 3 (.t 7) (.t 18)) none])
    (.reg [.op (some 19) (.mov (.t 2)) none,
     .op (some 20) (.load true 3 (.t 7)) none,
     .op (some 21) (.callV (.t 19) [(.t 20)]) none])))
   (.reg [.op (some 22) (.bin .add (.t 15) (.c (.int .i64 1))) none,
    .op (some 15) (.mov (.t 22)) none]))))))))
def A82:Ann:={ n:=23,own:=[],frz:=[],ord:=[] }
theorem facts82:factsOf Tryz.prog A82 Tryz.f82 = some (c82,23,[],false):=by kernel_rfl
def c83:SCode:=(.seq (.reg [.op (some 3) (.boxF 33 (.t 1)) none])
 (.seq (.reg [.op (some 5) (.mov (.t 0)) none,
  .op (some 6) (.fieldA 0 (.t 3)) none,
  .op (some 7) (.load false 1 (.t 6)) none,
  .op (some 8) (.mkF 3 1 1 [(.t 7)]) none,
  .op (some 9) (.call 65 [(.t 5),(.t 8)]) none])
 (.seq (.seq (.regD [.op (some 10) (.fieldA 0 (.t 3)) none,
  .op (some 11) (.loadD false 1 (.t 10)) none,
  .op (some 12) (.bin .eql (.t 11) (.c (.int .i64 2))) none,
  .op (some 13) (.mov (.t 12)) none,
  .op (some 14) (.fieldA 1 (.t 3)) (some (13,true)),
  .op (some 15) (.loadD false 1 (.t 14)) (some (13,true)),
  .op (some 16) (.bin .geq (.t 15) (.c (.int .i64 0))) (some (13,true)),
  .op (some 17) (.pick (.t 13) (.t 16) (.c (.bool false))) none,
  .op (some 18) (.mov (.t 17)) none,
  .op (some 19) (.fieldA 1 (.t 3)) (some (18,true)),
  .op (some 20) (.loadD false 1 (.t 19)) (some (18,true)),
  .op (some 21) (.mov (.t 0)) (some (18,true)),
  .op (some 22) (.nilck (.t 21)) (some (18,true)),
  .op (some 23) (.fieldA 3 (.t 22)) (some (18,true)),
  .op (some 24) (.fieldA 2 (.t 23)) (some (18,true)),
  .op (some 25) (.loadD false 1 (.t 24)) (some (18,true)),
  .op (some 26) (.len (.t 25)) (some (18,true)),
  .op (some 27) (.bin .lss (.t 20) (.t 26)) (some (18,true)),
  .op (some 28) (.pick (.t 18) (.t 27) (.c (.bool false))) none])
 (.cond (.t 28)
 (.seq (.regD [.op (some 29) (.mov (.t 0)) none,
   .op (some 30) (.nilck (.t 29)) none,
   .op (some 31) (.fieldA 3 (.t 30)) none,
   .op (some 32) (.fieldA 2 (.t 31)) none,
   .op (some 33) (.loadD false 1 (.t 32)) none,
   .op (some 34) (.fieldA 1 (.t 3)) none,
   .op (some 35) (.loadD false 1 (.t 34)) none,
   .op (some 36) (.idxA 5 (.t 33) (.t 35)) none,
   .op (some 37) (.loadD true 5 (.t 36)) none,
   .op (some 4) (.allocD 80 [(.string ⟨#[]⟩),(.int .i64 0),(.int .i64 0),(.slice none 0 0),(.int .i64 0)]) none,
   .op none (.storeD 5 (.t 4) (.t 37)) none])
  (.regD [.op (some 38) (.mov (.t 0)) none,
   .op (some 39) (.mov (.t 0)) none,
   .op (some 40) (.nilck (.t 39)) none,
   .op (some 41) (.fieldA 3 (.t 40)) none,
   .op (some 42) (.fieldA 0 (.t 41)) none,
   .op (some 43) (.loadD false 1 (.t 42)) none,
   .op (some 44) (.fieldA 1 (.t 4)) none,
   .op (some 45) (.loadD false 1 (.t 44)) none,
   .op (some 47) (.fieldA 0 (.t 4)) none,
   .op (some 48) (.loadD false 1 (.t 47)) none,
   .op (some 46) (.callD 84 [(.t 43),(.t 45)]) none,
   .op (some 49) (.mkFD 9 2 1 [(.t 46),(.t 48)]) none,
   .op (some 50) (.callO 21 [(.t 38),(.t 49)]) none]))
 (.reg [.op (some 51) (.mov (.t 0)) none,
   .op (some 52) (.fieldA 1 (.t 3)) none,
   .op (some 53) (.load false 1 (.t 52)) none,
   .op (some 54) (.mkF 3 1 1 [(.t 53)]) none,
   .op (some 55) (.call 65 [(.t 51),(.t 54)]) none])))
 (.reg [.op (some 56) (.mov (.t 0)) none,
  .op (some 57) (.fieldA 2 (.t 3)) none,
  .op (some 58) (.load false 1 (.t 57)) none,
  .op (some 59) (.mov (.t 0)) none,
  .op (some 60) (.mkfn 83 [(.t 59)] []) none,
  .op (some 61) (.call 82 [(.t 56),(.t 58),(.t 60)]) none]))))
def A83:Ann:={ n:=62,own:=[3],frz:=[],ord:=[(2,[0,1,2,3,4,5,6,7,8,9,10,11,12,13,14,15,16,17,18],[[],[0],[0,1],[0,1,2],[0,1,2,3],[0,1,2,3,4],[0,1,2,3,4,5],[0,1,2,3,4,5,6],[0,1,2,3,4,5,6,7],[0,1,2,3,4,5,6,7,8],[0,1,2,3,4,5,6,7,8,9],[0,1,2,3,4,5,6,7,8],[0,1,2,3,4,5,6,7,8,11],[0,1,2,3,4,5,6,7,8,11,12],[0,1,2,3,4,5,6,7,8,11,12,13],[0,1,2,3,4,5,6,7,8,11,12,13,14],[0,1,2,3,4,5,6,7,8,11,12,13,14,15],[0,1,2,3,4,5,6,7,8,9,10,11,12,13,14,15,16],[0,1,2,3,4,5,6,7,8,9,10,11,12,13,14,15,16,17]]),(3,[0,1,2,3,4,5,6,7,8,9,10],[[],[0],[0,1],[0,1,2],[0,1,2,3],[],[5],[0,1,2,3,4,5,6],[0,1,2,3,4,5,6,7],[],[0,1,2,3,4,5,6,7,8,9]]),(4,[0,1,2,3,4,5,6,7,9,10,8,11,12],[[],[],[1],[1,2],[1,2,3],[1,2,3,4],[],[6],[1,2,3,4,5,6,7],[],[9],[1,2,3,4,5,6,7,8,9,10],[0,1,2,3,4,5,6,7,8,9,10,11]])],co:=[50] }
theorem facts83:factsOf Tryz.prog A83 Tryz.f83 = some (c83,62,[],false):=by kernel_rfl
def c84:SCode:=(.seq (.reg [.op (some 4) (.mov (.c (.string ⟨#[]⟩))) none])
 (.seq (.seq (.reg [.op (some 5) (.mov (.t 1)) none,
  .op (some 6) (.bin .geq (.t 5) (.c (.int .i64 0))) none,
  .op (some 7) (.mov (.t 6)) none,
  .op (some 8) (.mov (.t 1)) (some (7,true)),
  .op (some 9) (.mov (.t 0)) (some (7,true)),
  .op (some 10) (.len (.t 9)) (some (7,true)),
  .op (some 11) (.bin .lss (.t 8) (.t 10)) (some (7,true)),
  .op (some 12) (.pick (.t 7) (.t 11) (.c (.bool false))) none])
 (.cond (.t 12)
 (.reg [.op (some 13) (.mov (.t 0)) none,
   .op (some 14) (.mov (.t 1)) none,
   .op (some 15) (.idxA 1 (.t 13) (.t 14)) none,
   .op (some 16) (.load false 1 (.t 15)) none,
   .op (some 4) (.mov (.t 16)) none])
 .skip))
 (.seq (.reg [.op (some 17) (.mov (.t 4)) none,
  .op (some 4) (.mov (.t 17)) none])
 .ret)))
def A84:Ann:={ n:=18,own:=[],frz:=[],ord:=[] }
theorem facts84:factsOf Tryz.prog A84 Tryz.f84 = some (c84,18,[(4,none)],false):=by kernel_rfl
def c85:SCode:=(.seq (.reg [.op (some 8) (.mov (.t 0)) none,
  .op (some 9) (.mov (.t 1)) none,
  .op (some 10) (.len (.t 9)) none,
  .op (some 11) (.mkF 3 1 1 [(.t 10)]) none,
  .op (some 12) (.call 65 [(.t 8),(.t 11)]) none])
 (.seq (.reg [.op (some 13) (.mov (.t 1)) none,
  .op (some 14) (.len (.t 13)) none,
  .op (some 15) (.mov (.c (.int .i64 0))) none])
 (.block 0
 (.loop [16,17,18,7,19,20,21,22,15]
  (.seq (.reg [.op (some 16) (.bin .lss (.t 15) (.t 14)) none])
   (.seq (.cond (.t 16)
   .skip
   (.exit 0))
   (.seq (.block 1
   (.seq (.reg [.op (some 17) (.idxA 2 (.t 13) (.t 15)) none,
     .op (some 18) (.load true 2 (.t 17)) none,
     .op (some 7) (.alloc 143 [(.int .i64 0),(.int .i64 0)]) none,
     .op none (.store 2 (.t 7) (.t 18)) none])
    (.reg [.op (some 19) (.mov (.t 2)) none,
     .op (some 20) (.load true 2 (.t 7)) none,
     .op (some 21) (.callV (.t 19) [(.t 20)]) none])))
   (.reg [.op (some 22) (.bin .add (.t 15) (.c (.int .i64 1))) none,
    .op (some 15) (.mov (.t 22)) none]))))))))
def A85:Ann:={ n:=23,own:=[],frz:=[],ord:=[] }
theorem facts85:factsOf Tryz.prog A85 Tryz.f85 = some (c85,23,[],false):=by kernel_rfl
def c86:SCode:=(.seq (.reg [.op (some 3) (.boxF 143 (.t 1)) none])
 (.seq (.reg [.op (some 4) (.mov (.t 0)) none,
  .op (some 5) (.fieldA 0 (.t 3)) none,
  .op (some 6) (.load false 1 (.t 5)) none,
  .op (some 7) (.mkF 3 1 1 [(.t 6)]) none,
  .op (some 8) (.call 65 [(.t 4),(.t 7)]) none])
 (.regD [.op (some 9) (.mov (.t 0)) none,
  .op (some 10) (.mov (.t 0)) none,
  .op (some 11) (.nilck (.t 10)) none,
  .op (some 12) (.fieldA 3 (.t 11)) none,
  .op (some 13) (.fieldA 3 (.t 12)) none,
  .op (some 14) (.loadD false 1 (.t 13)) none,
  .op (some 15) (.fieldA 1 (.t 3)) none,
  .op (some 16) (.loadD false 1 (.t 15)) none,
  .op (some 17) (.callD 84 [(.t 14),(.t 16)]) none,
  .op (some 18) (.mkFD 9 1 1 [(.t 17)]) none,
  .op (some 19) (.callO 21 [(.t 9),(.t 18)]) none])))
def A86:Ann:={ n:=20,own:=[3],frz:=[],ord:=[(2,[0,1,2,3,4,5,6,7,8,9,10],[[],[],[1],[1,2],[1,2,3],[1,2,3,4],[],[6],[1,2,3,4,5,6,7],[1,2,3,4,5,6,7,8],[0,1,2,3,4,5,6,7,8,9]])],co:=[19] }
theorem facts86:factsOf Tryz.prog A86 Tryz.f86 = some (c86,20,[],false):=by kernel_rfl
def c87:SCode:=(.seq (.reg [.op (some 4) (.alloc 36 [(.string ⟨#[]⟩),(.int .i64 0),(.int .i64 0),(.slice none 0 0),(.int .i64 0),(.int .i64 0),(.int .i64 0),(.slice none 0 0),(.slice none 0 0),(.slice none 0 0),(.slice none 0 0)]) none])
 (.seq (.seq (.reg [.op (some 5) (.mov (.t 1)) none,
  .op (some 6) (.bin .geq (.t 5) (.c (.int .i64 0))) none,
  .op (some 7) (.mov (.t 6)) none,
  .op (some 8) (.mov (.t 1)) (some (7,true)),
  .op (some 9) (.mov (.t 0)) (some (7,true)),
  .op (some 10) (.len (.t 9)) (some (7,true)),
  .op (some 11) (.bin .lss (.t 8) (.t 10)) (some (7,true)),
  .op (some 12) (.pick (.t 7) (.t 11) (.c (.bool false))) none])
 (.cond (.t 12)
 (.reg [.op (some 13) (.mov (.t 0)) none,
   .op (some 14) (.mov (.t 1)) none,
   .op (some 15) (.idxA 11 (.t 13) (.t 14)) none,
   .op (some 16) (.load true 11 (.t 15)) none,
   .op none (.store 11 (.t 4) (.t 16)) none])
 .skip))
 (.seq (.reg [.op (some 17) (.load true 11 (.t 4)) none,
  .op none (.store 11 (.t 4) (.t 17)) none])
 .ret)))
def A87:Ann:={ n:=18,own:=[],frz:=[],ord:=[] }
theorem facts87:factsOf Tryz.prog A87 Tryz.f87 = some (c87,18,[(4,some (true,11))],false):=by kernel_rfl
def c88:SCode:=(.reg [.op (some 3) (.load false 1 (.t 1)) none,
  .op (some 4) (.mov (.t 0)) none,
  .op (some 5) (.mkF 3 1 1 [(.t 4)]) none,
  .op (some 6) (.call 65 [(.t 3),(.t 5)]) none])
def A88:Ann:={ n:=7,own:=[],frz:=[],ord:=[] }
theorem facts88:factsOf Tryz.prog A88 Tryz.f88 = some (c88,7,[],false):=by kernel_rfl
def c89:SCode:=(.seq (.reg [.op (some 3) (.box 33 (.t 1)) none,
  .op (some 4) (.mov (.c (.bool false))) none])
 (.seq (.seq (.reg [.op (some 9) (.mov (.t 0)) none,
  .op (some 10) (.nilck (.t 9)) none,
  .op (some 11) (.fieldA 1 (.t 10)) none,
  .op (some 12) (.load false 1 (.t 11)) none,
  .op (some 13) (.eqP false (.t 12) (.c (.pointer none))) none,
  .op (some 14) (.mov (.t 13)) none,
  .op (some 15) (.fieldA 0 (.t 3)) (some (14,false)),
  .op (some 16) (.load false 1 (.t 15)) (some (14,false)),
  .op (some 17) (.bin .neq (.t 16) (.c (.int .i64 2))) (some (14,false)),
  .op (some 18) (.pick (.t 14) (.c (.bool true)) (.t 17)) none])
 (.cond (.t 18)
 (.seq (.reg [.op (some 4) (.mov (.c (.bool false))) none])
  .ret)
 .skip))
 (.seq (.regD [.op (some 20) (.mov (.t 0)) none,
  .op (some 21) (.nilck (.t 20)) none,
  .op (some 22) (.fieldA 1 (.t 21)) none,
  .op (some 23) (.loadD false 1 (.t 22)) none,
  .op (some 24) (.nilck (.t 23)) none,
  .op (some 25) (.fieldA 2 (.t 24)) none,
  .op (some 26) (.loadD false 1 (.t 25)) none,
  .op (some 27) (.fieldA 1 (.t 3)) none,
  .op (some 28) (.loadD false 1 (.t 27)) none,
  .op (some 29) (.callD 99 [(.t 26),(.t 28)]) none,
  .op (some 19) (.mov (.t 29)) none,
  .op (some 30) (.extr (.t 19) 0) none,
  .op (some 31) (.extr (.t 19) 1) none,
  .op (some 5) (.allocD 80 [(.string ⟨#[]⟩),(.int .i64 0),(.int .i64 0),(.slice none 0 0),(.int .i64 0)]) none,
  .op none (.storeD 5 (.t 5) (.t 30)) none,
  .op (some 6) (.mov (.t 31)) none])
 (.seq (.seq (.reg [.op (some 32) (.mov (.t 6)) none])
 (.cond (.t 32)
 (.seq (.regD [.op (some 34) (.mov (.t 0)) none,
   .op (some 35) (.nilck (.t 34)) none,
   .op (some 36) (.fieldA 1 (.t 35)) none,
   .op (some 37) (.loadD false 1 (.t 36)) none,
   .op (some 38) (.nilck (.t 37)) none,
   .op (some 39) (.fieldA 0 (.t 38)) none,
   .op (some 40) (.loadD false 1 (.t 39)) none,
   .op (some 41) (.fieldA 1 (.t 5)) none,
   .op (some 42) (.loadD false 1 (.t 41)) none,
   .op (some 43) (.callD 36 [(.t 40),(.t 42)]) none,
   .op (some 33) (.mov (.t 43)) none,
   .op (some 44) (.extr (.t 33) 0) none,
   .op (some 45) (.extr (.t 33) 1) none,
   .op (some 7) (.mov (.t 44)) none,
   .op (some 8) (.mov (.t 45)) none])
  (.reg [.op (some 46) (.mov (.t 0)) none,
   .op (some 47) (.mov (.t 7)) none,
   .op (some 48) (.fieldA 0 (.t 5)) none,
   .op (some 49) (.load false 1 (.t 48)) none,
   .op (some 50) (.mkF 9 2 1 [(.t 47),(.t 49)]) none,
   .op (some 51) (.call 39 [(.t 46),(.t 50)]) none]))
 .skip))
 (.seq (.reg [.op (some 52) (.mov (.t 6)) none,
  .op (some 4) (.mov (.t 52)) none])
 .ret)))))
def A89:Ann:={ n:=53,own:=[],frz:=[],ord:=[(3,[0,1,2,3,4,5,6,7,8,9,10,11,12,13,14,15],[[],[0],[0,1],[0,1,2],[0,1,2,3],[0,1,2,3,4],[0,1,2,3,4,5],[],[7],[0,1,2,3,4,5,6,7,8],[0,1,2,3,4,5,6,7,8,9],[0,1,2,3,4,5,6,7,8,9,10],[0,1,2,3,4,5,6,7,8,9,10],[],[0,1,2,3,4,5,6,7,8,9,10,11,13],[0,1,2,3,4,5,6,7,8,9,10,11,12,13,14]]),(5,[0,1,2,3,4,5,6,7,8,9,10,11,12,13,14],[[],[0],[0,1],[0,1,2],[0,1,2,3],[0,1,2,3,4],[0,1,2,3,4,5],[],[7],[0,1,2,3,4,5,6,7,8],[0,1,2,3,4,5,6,7,8,9],[0,1,2,3,4,5,6,7,8,9,10],[0,1,2,3,4,5,6,7,8,9,10],[0,1,2,3,4,5,6,7,8,9,10,11],[0,1,2,3,4,5,6,7,8,9,10,11,12,13]])] }
theorem facts89:factsOf Tryz.prog A89 Tryz.f89 = some (c89,53,[(4,none)],false):=by kernel_rfl
def c90:SCode:=(.seq (.reg [.op (some 8) (.mov (.t 0)) none,
  .op (some 9) (.mov (.t 1)) none,
  .op (some 10) (.len (.t 9)) none,
  .op (some 11) (.mkF 3 1 1 [(.t 10)]) none,
  .op (some 12) (.call 44 [(.t 8),(.t 11)]) none])
 (.seq (.reg [.op (some 13) (.mov (.t 1)) none,
  .op (some 14) (.len (.t 13)) none,
  .op (some 15) (.mov (.c (.int .i64 0))) none])
 (.block 0
 (.loop [16,17,18,7,19,20,21,22,15]
  (.seq (.reg [.op (some 16) (.bin .lss (.t 15) (.t 14)) none])
   (.seq (.cond (.t 16)
   .skip
   (.exit 0))
   (.seq (.block 1
   (.seq (.reg [.op (some 17) (.idxA 2 (.t 13) (.t 15)) none,
     .op (some 18) (.load true 2 (.t 17)) none,
     .op (some 7) (.alloc 143 [(.int .i64 0),(.int .i64 0)]) none,
     .op none (.store 2 (.t 7) (.t 18)) none])
    (.reg [.op (some 19) (.mov (.t 2)) none,
     .op (some 20) (.load true 2 (.t 7)) none,
     .op (some 21) (.callV (.t 19) [(.t 20)]) none])))
   (.reg [.op (some 22) (.bin .add (.t 15) (.c (.int .i64 1))) none,
    .op (some 15) (.mov (.t 22)) none]))))))))
def A90:Ann:={ n:=23,own:=[],frz:=[],ord:=[] }
theorem facts90:factsOf Tryz.prog A90 Tryz.f90 = some (c90,23,[],false):=by kernel_rfl
def c91:SCode:=(.seq (.reg [.op (some 2) (.box 143 (.t 0)) none])
 (.seq (.reg [.op (some 3) (.load false 1 (.t 1)) none,
  .op (some 4) (.fieldA 0 (.t 2)) none,
  .op (some 5) (.load false 1 (.t 4)) none,
  .op (some 6) (.mkF 3 1 1 [(.t 5)]) none,
  .op (some 7) (.call 44 [(.t 3),(.t 6)]) none])
 (.reg [.op (some 8) (.load false 1 (.t 1)) none,
  .op (some 9) (.fieldA 1 (.t 2)) none,
  .op (some 10) (.load false 1 (.t 9)) none,
  .op (some 11) (.call 53 [(.t 8),(.t 10)]) none])))
def A91:Ann:={ n:=12,own:=[],frz:=[],ord:=[] }
theorem facts91:factsOf Tryz.prog A91 Tryz.f91 = some (c91,12,[],false):=by kernel_rfl
def c92:SCode:=(.seq (.reg [.op (some 2) (.box 96 (.t 0)) none])
 (.reg [.op (some 4) (.load false 1 (.t 2)) none,
  .op (some 5) (.mov (.t 1)) none,
  .op (some 6) (.mkfn 101 [] [(.t 2)]) none,
  .op (some 7) (.call 100 [(.t 4),(.t 5),(.t 6)]) none]))
def A92:Ann:={ n:=8,own:=[],frz:=[],ord:=[] }
theorem facts92:factsOf Tryz.prog A92 Tryz.f92 = some (c92,8,[],false):=by kernel_rfl
def c93:SCode:=(.seq (.reg [.op (some 4) (.mov (.c .nilIface)) none])
 (.seq (.reg [.op (some 7) (.mov (.t 0)) none,
  .op (some 8) (.nilck (.t 7)) none,
  .op (some 9) (.fieldA 2 (.t 8)) none,
  .op none (.store 1 (.t 9) (.c (.int .i8 0))) none])
 (.seq (.reg [.op (some 11) (.mov (.t 0)) none,
  .op (some 12) (.call 94 [(.t 11),(.c (.int .i64 1))]) none,
  .op (some 10) (.mov (.t 12)) none,
  .op (some 13) (.extr (.t 10) 0) none,
  .op (some 14) (.extr (.t 10) 1) none,
  .op (some 5) (.mov (.t 13)) none,
  .op (some 6) (.mov (.t 14)) none])
 (.seq (.seq (.reg [.op (some 15) (.mov (.t 6)) none,
  .op (some 16) (.un .not (.t 15)) none])
 (.cond (.t 16)
 (.reg [.op (some 17) (.mov (.t 0)) none,
   .op (some 18) (.call 95 [(.t 17),(.c (.int .i64 1))]) none,
   .op (some 5) (.mov (.t 18)) none])
 .skip))
 (.seq (.reg [.op (some 19) (.mov (.t 0)) none,
  .op (some 20) (.nilck (.t 19)) none,
  .op (some 21) (.fieldA 0 (.t 20)) none,
  .op (some 22) (.load false 1 (.t 21)) none,
  .op (some 23) (.mov (.t 5)) none,
  .op (some 24) (.mov (.t 1)) none,
  .op (some 25) (.idxA 1 (.t 22) (.t 23)) none,
  .op none (.store 1 (.t 25) (.t 24)) none])
 (.seq (.reg [.op (some 4) (.mov (.c .nilIface)) none])
 .ret))))))
def A93:Ann:={ n:=26,own:=[],frz:=[],ord:=[] }
theorem facts93:factsOf Tryz.prog A93 Tryz.f93 = some (c93,26,[(4,none)],false):=by kernel_rfl
def c94:SCode:=(.seq (.reg [.op (some 4) (.mov (.c (.int .i64 0))) none,
  .op (some 5) (.mov (.c (.bool false))) none])
 (.seq (.seq (.reg [.op (some 7) (.mov (.t 0)) none,
  .op (some 8) (.nilck (.t 7)) none,
  .op (some 9) (.fieldA 0 (.t 8)) none,
  .op (some 10) (.load false 1 (.t 9)) none,
  .op (some 11) (.len (.t 10)) none,
  .op (some 6) (.mov (.t 11)) none])
 (.seq (.reg [.op (some 12) (.mov (.t 1)) none,
  .op (some 13) (.mov (.t 0)) none,
  .op (some 14) (.nilck (.t 13)) none,
  .op (some 15) (.fieldA 0 (.t 14)) none,
  .op (some 16) (.load false 1 (.t 15)) none,
  .op (some 17) (.capa (.t 16)) none,
  .op (some 18) (.mov (.t 6)) none,
  .op (some 19) (.bin .sub (.t 17) (.t 18)) none,
  .op (some 20) (.bin .leq (.t 12) (.t 19)) none])
 (.cond (.t 20)
 (.seq (.reg [.op (some 21) (.mov (.t 0)) none,
   .op (some 22) (.mov (.t 0)) none,
   .op (some 23) (.nilck (.t 22)) none,
   .op (some 24) (.fieldA 0 (.t 23)) none,
   .op (some 25) (.load false 1 (.t 24)) none,
   .op (some 26) (.mov (.t 6)) none,
   .op (some 27) (.mov (.t 1)) none,
   .op (some 28) (.bin .add (.t 26) (.t 27)) none,
   .op (some 29) (.slc 1 (.t 25) none (some (.t 28))) none,
   .op (some 30) (.nilck (.t 21)) none,
   .op (some 31) (.fieldA 0 (.t 30)) none,
   .op none (.store 1 (.t 31) (.t 29)) none])
  (.seq (.reg [.op (some 32) (.mov (.t 6)) none,
   .op (some 4) (.mov (.t 32)) none,
   .op (some 5) (.mov (.c (.bool true))) none])
  .ret))
 .skip)))
 (.seq (.reg [.op (some 4) (.mov (.c (.int .i64 0))) none,
  .op (some 5) (.mov (.c (.bool false))) none])
 .ret)))
def A94:Ann:={ n:=33,own:=[],frz:=[],ord:=[] }
theorem facts94:factsOf Tryz.prog A94 Tryz.f94 = some (c94,33,[(4,none),(5,none)],false):=by kernel_rfl
def c95:SCode:=(.seq (.reg [.op (some 4) (.mov (.c (.int .i64 0))) none])
 (.seq (.reg [.op (some 9) (.mov (.t 0)) none,
  .op (some 10) (.call 102 [(.t 9)]) none,
  .op (some 5) (.mov (.t 10)) none])
 (.seq (.seq (.reg [.op (some 11) (.mov (.t 5)) none,
  .op (some 12) (.bin .eql (.t 11) (.c (.int .i64 0))) none,
  .op (some 13) (.mov (.t 12)) none,
  .op (some 14) (.mov (.t 0)) (some (13,true)),
  .op (some 15) (.nilck (.t 14)) (some (13,true)),
  .op (some 16) (.fieldA 1 (.t 15)) (some (13,true)),
  .op (some 17) (.load false 1 (.t 16)) (some (13,true)),
  .op (some 18) (.bin .neq (.t 17) (.c (.int .i64 0))) (some (13,true)),
  .op (some 19) (.pick (.t 13) (.t 18) (.c (.bool false))) none])
 (.cond (.t 19)
 (.reg [.op (some 20) (.mov (.t 0)) none,
   .op (some 21) (.call 103 [(.t 20)]) none])
 .skip))
 (.seq (.seq (.reg [.op (some 23) (.mov (.t 0)) none,
  .op (some 24) (.mov (.t 1)) none,
  .op (some 25) (.call 94 [(.t 23),(.t 24)]) none,
  .op (some 22) (.mov (.t 25)) none,
  .op (some 26) (.extr (.t 22) 0) none,
  .op (some 27) (.extr (.t 22) 1) none,
  .op (some 6) (.mov (.t 26)) none,
  .op (some 7) (.mov (.t 27)) none])
 (.seq (.reg [.op (some 28) (.mov (.t 7)) none])
 (.cond (.t 28)
 (.seq (.reg [.op (some 29) (.mov (.t 6)) none,
   .op (some 4) (.mov (.t 29)) none])
  .ret)
 .skip)))
 (.seq (.seq (.reg [.op (some 30) (.mov (.t 0)) none,
  .op (some 31) (.nilck (.t 30)) none,
  .op (some 32) (.fieldA 0 (.t 31)) none,
  .op (some 33) (.load false 1 (.t 32)) none,
  .op (some 34) (.eqS false (.t 33) (.c (.slice none 0 0))) none,
  .op (some 35) (.mov (.t 34)) none,
  .op (some 36) (.mov (.t 1)) (some (35,true)),
  .op (some 37) (.bin .leq (.t 36) (.c (.int .i64 64))) (some (35,true)),
  .op (some 38) (.pick (.t 35) (.t 37) (.c (.bool false))) none])
 (.cond (.t 38)
 (.seq (.reg [.op (some 39) (.mov (.t 0)) none,
   .op (some 40) (.mov (.t 1)) none,
   .op (some 41) (.makeS 5 1 1 [(.int .u8 0)] (.t 40) (.c (.int .i64 64))) none,
   .op (some 42) (.nilck (.t 39)) none,
   .op (some 43) (.fieldA 0 (.t 42)) none,
   .op none (.store 1 (.t 43) (.t 41)) none])
  (.seq (.reg [.op (some 4) (.mov (.c (.int .i64 0))) none])
  .ret))
 .skip))
 (.seq (.reg [.op (some 44) (.mov (.t 0)) none,
  .op (some 45) (.nilck (.t 44)) none,
  .op (some 46) (.fieldA 0 (.t 45)) none,
  .op (some 47) (.load false 1 (.t 46)) none,
  .op (some 48) (.capa (.t 47)) none,
  .op (some 8) (.mov (.t 48)) none])
 (.seq (.seq (.reg [.op (some 49) (.mov (.t 1)) none,
  .op (some 50) (.mov (.t 8)) none,
  .op (some 51) (.bin .quo (.t 50) (.c (.int .i64 2))) none,
  .op (some 52) (.mov (.t 5)) none,
  .op (some 53) (.bin .sub (.t 51) (.t 52)) none,
  .op (some 54) (.bin .leq (.t 49) (.t 53)) none])
 (.cond (.t 54)
 (.regD [.op (some 55) (.mov (.t 0)) none,
   .op (some 56) (.nilck (.t 55)) none,
   .op (some 57) (.fieldA 0 (.t 56)) none,
   .op (some 58) (.loadD false 1 (.t 57)) none,
   .op (some 59) (.mov (.t 0)) none,
   .op (some 60) (.nilck (.t 59)) none,
   .op (some 61) (.fieldA 0 (.t 60)) none,
   .op (some 62) (.loadD false 1 (.t 61)) none,
   .op (some 63) (.mov (.t 0)) none,
   .op (some 64) (.nilck (.t 63)) none,
   .op (some 65) (.fieldA 1 (.t 64)) none,
   .op (some 66) (.loadD false 1 (.t 65)) none,
   .op (some 67) (.slc 1 (.t 62) (some (.t 66)) none) none,
   .op (some 68) (.copyX 5 1 (.t 58) (.t 67)) none])
 (.seq (.reg [.op (some 69) (.mov (.t 8)) none,
   .op (some 70) (.mov (.t 8)) none,
   .op (some 71) (.bin .sub (.c (.int .i64 9223372036854775807)) (.t 70)) none,
   .op (some 72) (.mov (.t 1)) none,
   .op (some 73) (.bin .sub (.t 71) (.t 72)) none,
   .op (some 74) (.bin .gtr (.t 69) (.t 73)) none])
  (.cond (.t 74)
  (.reg [.op (some 75) (.dead) none,
    .op none (.pan (.t 75)) none])
  (.regX [.op (some 76) (.mov (.t 0)) none,
    .op (some 77) (.mov (.t 0)) none,
    .op (some 78) (.nilck (.t 77)) none,
    .op (some 79) (.fieldA 0 (.t 78)) none,
    .op (some 80) (.loadD false 1 (.t 79)) none,
    .op (some 81) (.mov (.t 0)) none,
    .op (some 82) (.nilck (.t 81)) none,
    .op (some 83) (.fieldA 1 (.t 82)) none,
    .op (some 84) (.loadD false 1 (.t 83)) none,
    .op (some 85) (.slc 1 (.t 80) (some (.t 84)) none) none,
    .op (some 86) (.mov (.t 0)) none,
    .op (some 87) (.nilck (.t 86)) none,
    .op (some 88) (.fieldA 1 (.t 87)) none,
    .op (some 89) (.loadD false 1 (.t 88)) none,
    .op (some 90) (.mov (.t 1)) none,
    .op (some 91) (.bin .add (.t 89) (.t 90)) none,
    .pc (some 92) (.call 104 [(.t 85),(.t 91)]) none,
    .op (some 93) (.nilck (.t 76)) none,
    .op (some 94) (.fieldA 0 (.t 93)) none,
    .op none (.storeD 1 (.t 94) (.t 92)) none])))))
 (.seq (.reg [.op (some 95) (.mov (.t 0)) none,
  .op (some 96) (.nilck (.t 95)) none,
  .op (some 97) (.fieldA 1 (.t 96)) none,
  .op none (.store 1 (.t 97) (.c (.int .i64 0))) none])
 (.seq (.reg [.op (some 98) (.mov (.t 0)) none,
  .op (some 99) (.mov (.t 0)) none,
  .op (some 100) (.nilck (.t 99)) none,
  .op (some 101) (.fieldA 0 (.t 100)) none,
  .op (some 102) (.load false 1 (.t 101)) none,
  .op (some 103) (.mov (.t 5)) none,
  .op (some 104) (.mov (.t 1)) none,
  .op (some 105) (.bin .add (.t 103) (.t 104)) none,
  .op (some 106) (.slc 1 (.t 102) none (some (.t 105))) none,
  .op (some 107) (.nilck (.t 98)) none,
  .op (some 108) (.fieldA 0 (.t 107)) none,
  .op none (.store 1 (.t 108) (.t 106)) none])
 (.seq (.reg [.op (some 109) (.mov (.t 5)) none,
  .op (some 4) (.mov (.t 109)) none])
 .ret))))))))))
def A95:Ann:={ n:=110,own:=[],frz:=[],ord:=[(12,[0,1,2,3,4,5,6,7,8,9,10,11,12,13],[[],[0],[0,1],[0,1,2],[],[4],[4,5],[4,5,6],[],[8],[8,9],[8,9,10],[4,5,6,7,8,9,10,11],[0,1,2,3,4,5,6,7,8,9,10,11,12]]),(15,[0,1,2,3,4,5,6,7,8,9,10,11,12,13,14,15,16,17,18,19],[[],[],[1],[1,2],[1,2,3],[],[5],[5,6],[5,6,7],[1,2,3,4,5,6,7,8],[],[10],[10,11],[10,11,12],[],[10,11,12,13,14],[1,2,3,4,5,6,7,8,9,10,11,12,13,14,15],[0,1,2,3,4,5,6,7,8,9,10,11,12,13,14,15,16],[0,1,2,3,4,5,6,7,8,9,10,11,12,13,14,15,16,17],[0,1,2,3,4,5,6,7,8,9,10,11,12,13,14,15,16,17,18]])],co:=[68],px:=[92] }
theorem facts95:factsOf Tryz.prog A95 Tryz.f95 = some (c95,110,[(4,none)],false):=by kernel_rfl
def c97:SCode:=(.seq (.reg [.op (some 4) (.mov (.c (.int .i64 0))) none,
  .op (some 5) (.mov (.c .nilIface)) none])
 (.seq (.seq (.regD [.op (some 6) (.mov (.t 0)) none,
  .op (some 7) (.nilck (.t 6)) none,
  .op (some 8) (.fieldA 1 (.t 7)) none,
  .op (some 9) (.loadD false 1 (.t 8)) none,
  .op (some 10) (.mov (.t 0)) none,
  .op (some 11) (.nilck (.t 10)) none,
  .op (some 12) (.fieldA 0 (.t 11)) none,
  .op (some 13) (.loadD false 1 (.t 12)) none,
  .op (some 14) (.len (.t 13)) none,
  .op (some 15) (.bin .geq (.t 9) (.t 14)) none])
 (.cond (.t 15)
 (.seq (.regD [.op (some 16) (.gload 1) none,
   .op (some 4) (.mov (.c (.int .i64 0))) none,
   .op (some 5) (.mov (.t 16)) none])
  .ret)
 .skip))
 (.seq (.reg [.op (some 17) (.mov (.t 0)) none,
  .op (some 18) (.nilck (.t 17)) none,
  .op (some 19) (.fieldA 2 (.t 18)) none,
  .op none (.store 1 (.t 19) (.c (.int .i64 (-1)))) none])
 (.seq (.regD [.op (some 20) (.mov (.t 1)) none,
  .op (some 21) (.mov (.t 0)) none,
  .op (some 22) (.nilck (.t 21)) none,
  .op (some 23) (.fieldA 0 (.t 22)) none,
  .op (some 24) (.loadD false 1 (.t 23)) none,
  .op (some 25) (.mov (.t 0)) none,
  .op (some 26) (.nilck (.t 25)) none,
  .op (some 27) (.fieldA 1 (.t 26)) none,
  .op (some 28) (.loadD false 1 (.t 27)) none,
  .op (some 29) (.slc 1 (.t 24) (some (.t 28)) none) none,
  .op (some 30) (.copyX 5 1 (.t 20) (.t 29)) none,
  .op (some 4) (.mov (.t 30)) none])
 (.seq (.reg [.op (some 31) (.mov (.t 0)) none,
  .op (some 32) (.nilck (.t 31)) none,
  .op (some 33) (.fieldA 1 (.t 32)) none,
  .op (some 34) (.load false 1 (.t 33)) none,
  .op (some 35) (.mov (.t 4)) none,
  .op (some 36) (.bin .add (.t 34) (.t 35)) none,
  .op (some 37) (.nilck (.t 31)) none,
  .op (some 38) (.fieldA 1 (.t 37)) none,
  .op none (.store 1 (.t 38) (.t 36)) none])
 .ret)))))
def A97:Ann:={ n:=39,own:=[],frz:=[],ord:=[(1,[0,1,2,3,4,5,6,7,8,9],[[],[0],[0,1],[0,1,2],[],[4],[4,5],[4,5,6],[4,5,6,7],[0,1,2,3,4,5,6,7,8]]),(2,[0,1,2],[[],[],[0,1]]),(4,[0,1,2,3,4,5,6,7,8,9,10,11],[[],[],[1],[1,2],[1,2,3],[],[5],[5,6],[5,6,7],[1,2,3,4,5,6,7,8],[0,1,2,3,4,5,6,7,8,9],[0,1,2,3,4,5,6,7,8,9,10]])],co:=[30] }
theorem facts97:factsOf Tryz.prog A97 Tryz.f97 = some (c97,39,[(4,none),(5,none)],false):=by kernel_rfl
def c98:SCode:=(.seq (.reg [.op (some 2) (.mov (.c (.int .u8 0))) none,
  .op (some 3) (.mov (.c .nilIface)) none])
 (.seq (.reg [.op (some 5) (.mov (.t 0)) none,
  .op (some 6) (.nilck (.t 5)) none,
  .op (some 7) (.fieldA 2 (.t 6)) none,
  .op none (.store 1 (.t 7) (.c (.int .i64 (-1)))) none])
 (.seq (.seq (.regD [.op (some 8) (.mov (.t 0)) none,
  .op (some 9) (.nilck (.t 8)) none,
  .op (some 10) (.fieldA 1 (.t 9)) none,
  .op (some 11) (.loadD false 1 (.t 10)) none,
  .op (some 12) (.mov (.t 0)) none,
  .op (some 13) (.nilck (.t 12)) none,
  .op (some 14) (.fieldA 0 (.t 13)) none,
  .op (some 15) (.loadD false 1 (.t 14)) none,
  .op (some 16) (.len (.t 15)) none,
  .op (some 17) (.bin .geq (.t 11) (.t 16)) none])
 (.cond (.t 17)
 (.seq (.regD [.op (some 18) (.gload 1) none,
   .op (some 2) (.mov (.c (.int .u8 0))) none,
   .op (some 3) (.mov (.t 18)) none])
  .ret)
 .skip))
 (.seq (.regD [.op (some 19) (.mov (.t 0)) none,
  .op (some 20) (.nilck (.t 19)) none,
  .op (some 21) (.fieldA 0 (.t 20)) none,
  .op (some 22) (.loadD false 1 (.t 21)) none,
  .op (some 23) (.mov (.t 0)) none,
  .op (some 24) (.nilck (.t 23)) none,
  .op (some 25) (.fieldA 1 (.t 24)) none,
  .op (some 26) (.loadD false 1 (.t 25)) none,
  .op (some 27) (.idxA 1 (.t 22) (.t 26)) none,
  .op (some 28) (.loadD false 1 (.t 27)) none,
  .op (some 4) (.mov (.t 28)) none])
 (.seq (.reg [.op (some 29) (.mov (.t 0)) none,
  .op (some 30) (.nilck (.t 29)) none,
  .op (some 31) (.fieldA 1 (.t 30)) none,
  .op (some 32) (.load false 1 (.t 31)) none,
  .op (some 33) (.bin .add (.t 32) (.c (.int .i64 1))) none,
  .op (some 34) (.nilck (.t 29)) none,
  .op (some 35) (.fieldA 1 (.t 34)) none,
  .op none (.store 1 (.t 35) (.t 33)) none])
 (.seq (.reg [.op (some 36) (.mov (.t 4)) none,
  .op (some 2) (.mov (.t 36)) none,
  .op (some 3) (.mov (.c .nilIface)) none])
 .ret))))))
def A98:Ann:={ n:=37,own:=[],frz:=[],ord:=[(2,[0,1,2,3,4,5,6,7,8,9],[[],[0],[0,1],[0,1,2],[],[4],[4,5],[4,5,6],[4,5,6,7],[0,1,2,3,4,5,6,7,8]]),(3,[0,1,2],[[],[],[0,1]]),(4,[0,1,2,3,4,5,6,7,8,9,10],[[],[0],[0,1],[0,1,2],[],[4],[4,5],[4,5,6],[0,1,2,3,4,5,6,7],[0,1,2,3,4,5,6,7,8],[0,1,2,3,4,5,6,7,8,9]])] }
theorem facts98:factsOf Tryz.prog A98 Tryz.f98 = some (c98,37,[(2,none),(3,none)],false):=by kernel_rfl
def c99:SCode:=(.seq (.reg [.op (some 4) (.alloc 80 [(.string ⟨#[]⟩),(.int .i64 0),(.int .i64 0),(.slice none 0 0),(.int .i64 0)]) none,
  .op (some 5) (.mov (.c (.bool false))) none])
 (.seq (.seq (.reg [.op (some 7) (.mov (.t 1)) none,
  .op (some 8) (.bin .lss (.t 7) (.c (.int .i64 0))) none,
  .op (some 9) (.mov (.t 8)) none,
  .op (some 10) (.mov (.t 1)) (some (9,false)),
  .op (some 11) (.mov (.t 0)) (some (9,false)),
  .op (some 12) (.len (.t 11)) (some (9,false)),
  .op (some 13) (.bin .geq (.t 10) (.t 12)) (some (9,false)),
  .op (some 14) (.pick (.t 9) (.c (.bool true)) (.t 13)) none])
 (.cond (.t 14)
 (.seq (.reg [.op (some 6) (.alloc 80 [(.string ⟨#[]⟩),(.int .i64 0),(.int .i64 0),(.slice none 0 0),(.int .i64 0)]) none])
  (.seq (.reg [.op (some 15) (.load true 5 (.t 6)) none,
   .op none (.store 5 (.t 4) (.t 15)) none,
   .op (some 5) (.mov (.c (.bool false))) none])
  .ret))
 .skip))
 (.seq (.reg [.op (some 16) (.mov (.t 0)) none,
  .op (some 17) (.mov (.t 1)) none,
  .op (some 18) (.idxA 5 (.t 16) (.t 17)) none,
  .op (some 19) (.load true 5 (.t 18)) none,
  .op none (.store 5 (.t 4) (.t 19)) none,
  .op (some 5) (.mov (.c (.bool true))) none])
 .ret)))
def A99:Ann:={ n:=20,own:=[],frz:=[],ord:=[] }
theorem facts99:factsOf Tryz.prog A99 Tryz.f99 = some (c99,20,[(4,some (true,5)),(5,none)],false):=by kernel_rfl
def c100:SCode:=(.seq (.reg [.op (some 8) (.mov (.t 0)) none,
  .op (some 9) (.mov (.t 1)) none,
  .op (some 10) (.len (.t 9)) none,
  .op (some 11) (.mkF 3 1 1 [(.t 10)]) none,
  .op (some 12) (.call 44 [(.t 8),(.t 11)]) none])
 (.seq (.reg [.op (some 13) (.mov (.t 1)) none,
  .op (some 14) (.len (.t 13)) none,
  .op (some 15) (.mov (.c (.int .i64 0))) none])
 (.block 0
 (.loop [16,17,18,7,19,20,21,22,15]
  (.seq (.reg [.op (some 16) (.bin .lss (.t 15) (.t 14)) none])
   (.seq (.cond (.t 16)
   .skip
   (.exit 0))
   (.seq (.block 1
   (.seq (.reg [.op (some 17) (.idxA 1 (.t 13) (.t 15)) none,
     .op (some 18) (.load false 1 (.t 17)) none,
     .op (some 7) (.mov (.t 18)) none])
    (.reg [.op (some 19) (.mov (.t 2)) none,
     .op (some 20) (.mov (.t 7)) none,
     .op (some 21) (.callV (.t 19) [(.t 20)]) none])))
   (.reg [.op (some 22) (.bin .add (.t 15) (.c (.int .i64 1))) none,
    .op (some 15) (.mov (.t 22)) none]))))))))
def A100:Ann:={ n:=23,own:=[],frz:=[],ord:=[] }
theorem facts100:factsOf Tryz.prog A100 Tryz.f100 = some (c100,23,[],false):=by kernel_rfl
def c101:SCode:=(.reg [.op (some 3) (.load false 1 (.t 1)) none,
  .op (some 4) (.mov (.t 0)) none,
  .op (some 5) (.mkF 3 1 1 [(.t 4)]) none,
  .op (some 6) (.call 44 [(.t 3),(.t 5)]) none])
def A101:Ann:={ n:=7,own:=[],frz:=[],ord:=[] }
theorem facts101:factsOf Tryz.prog A101 Tryz.f101 = some (c101,7,[],false):=by kernel_rfl
def c102:SCode:=(.seq (.reg [.op (some 2) (.mov (.c (.int .i64 0))) none])
 (.seq (.regD [.op (some 3) (.mov (.t 0)) none,
  .op (some 4) (.nilck (.t 3)) none,
  .op (some 5) (.fieldA 0 (.t 4)) none,
  .op (some 6) (.loadD false 1 (.t 5)) none,
  .op (some 7) (.len (.t 6)) none,
  .op (some 8) (.mov (.t 0)) none,
  .op (some 9) (.nilck (.t 8)) none,
  .op (some 10) (.fieldA 1 (.t 9)) none,
  .op (some 11) (.loadD false 1 (.t 10)) none,
  .op (some 12) (.bin .sub (.t 7) (.t 11)) none,
  .op (some 2) (.mov (.t 12)) none])
 .ret))
def A102:Ann:={ n:=13,own:=[],frz:=[],ord:=[(1,[0,1,2,3,4,5,6,7,8,9,10],[[],[0],[0,1],[0,1,2],[0,1,2,3],[],[5],[5,6],[5,6,7],[0,1,2,3,4,5,6,7,8],[0,1,2,3,4,5,6,7,8,9]])] }
theorem facts102:factsOf Tryz.prog A102 Tryz.f102 = some (c102,13,[(2,none)],false):=by kernel_rfl
end Go.Fr.Tryz
