/- Part of the proofs of the statements of this seat. -/
import Derived.Test.YthfdbepkalpplaaUnCode
set_option maxRecDepth 10000
set_option linter.unusedVariables false
set_option linter.unusedSimpArgs false
namespace Go.Fr.Try
open Go Go.RowKit Go.Proofs Go.Fr Go.Fr.T
def WK:ax:=(jS (jR [nE 2 0 0]) (jS (jR [ai 11 0,cO 12 11,.op (some 13) (.makeS 3 1 8 [(.int .i64 0)] (.t 12) (.t 12)) none,ai 3 13]) (jS (jS (jR [ai 14 0,cO 15 14,CT 16 15 1,ai 4 16]) (jB 0 (jL [17,18,21,22,23,24,5,25,26,27,28,29,30,31,19,20,4] (jS (jS (jR [ai 17 4,mY 18 17 0]) (jC 18 .skip (jX 0))) (jS (jB 1 (jS (jR [ai 21 0,ai 22 4,wg 23 0 0 0 0 0 1 9 1 1 22,fE 24 69 21 23,eO 5 32 0 0 0 0,eG 3 5 24]) (jS (jR [cq 25 3 5,js 26 55 25]) (jC 26 (jR [ai 27 3,aY 28 1 5,bF 29 1 28,ai 30 4,cH 31 1 27 29,eG 1 31 30]) .skip)))) (jR [ai 19 4,CT 20 19 1,ai 4 20])))))) (jS (jR [nE 6 0 0]) (jS (jS (jR [eY 7 0]) (jB 2 (jL [32,33,34,35,38,39,40,41,42,43,44,45,6,36,37,7] (jS (jS (jR [ai 32 7,ai 33 0,cO 34 33,eD 35 32 34]) (jC 35 .skip (jX 2))) (jS (jB 3 (jR [ai 38 6,ai 39 3,ai 40 7,cH 41 1 39 40,bF 42 1 41,wg 43 0 0 0 0 0 1 9 1 1 42,xu 44 32 1 3 43,Et 45 32 3 40 0 0 0 0 38 44,ai 6 45])) (jR [ai 36 7,dR 37 36 1,ai 7 37])))))) (jS (jR [.frz 13,.frz 45,nE 8 0 0]) (jS (jS (jR [eY 9 0]) (jB 4 (jL [46,47,48,49,52,53,54,55,56,57,10,58,59,60,61,62,63,64,65,66,67,68,69,70,8,50,51,9] (jS (jS (jR [ai 46 9,ai 47 0,cO 48 47,eD 49 46 48]) (jC 49 .skip (jX 4))) (jS (jB 5 (jS (jR [ai 52 6,ai 53 0,ai 54 9,wg 55 0 0 0 0 0 1 9 1 1 54,fE 56 124 53 55,fE 57 123 52 56,eO 10 32 0 0 0 0,eG 3 10 57]) (jS (jS (jR [cq 58 3 10,js 59 55 58,ai 60 59,fk 61 1 10 60,eT 62 1 61 60,eP 63 9 60,AJ 64 62 63 60,eS 65 60 64]) (jC 65 (jR [Jr 66 0 0 0 0,eG 3 10 66]) .skip)) (jR [ai 67 8,cq 68 3 10,xu 69 32 1 3 68,Et 70 32 3 40 0 0 0 0 67 69,ai 8 70])))) (jR [ai 50 9,dR 51 50 1,ai 9 51])))))) (jS (jR [ai 71 8,ai 2 71]) .ret))))))))
def WL:cJ:={n:=72,own:=[],frz:=[(13,0,[13,45])],ord:=[]}
theorem JX:au Try.prog WL Try.f120=some (WK,72,[(2,none)],false):=by kernel_rfl
end Go.Fr.Try
