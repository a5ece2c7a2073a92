/- Part of the proofs of the statements of this seat. -/
import Derived.Test.YthfdbepkalpplaaGreatVnCode
set_option maxRecDepth 10000
set_option linter.unusedVariables false
set_option linter.unusedSimpArgs false
namespace Go.Fr.Tryz
open Go Go.RowKit Go.Proofs Go.Fr Go.Fr.T
def Yk:au:=(jS (jR [nM 2 0 0]) (jS (jR [aj 11 0,dS 12 11,.op (some 13) (.makeS 3 1 8 [(.int .i64 0)] (.t 12) (.t 12)) none,aj 3 13]) (jS (jS (jR [aj 14 0,dS 15 14,D7 16 15 1,aj 4 16]) (jB 0 (jL [17,18,21,22,23,24,5,25,26,27,28,29,30,31,19,20,4] (jS (jS (jR [aj 17 4,mS 18 17 0]) (jC 18 .skip (jX 0))) (jS (jB 1 (jS (jR [aj 21 0,aj 22 4,yZ 23 0 0 0 0 0 1 9 1 1 22,gT 24 99 21 23,fD 5 33 0 0 0 0,eO 3 5 24]) (jS (jR [cU 25 3 5,jH 26 98 25]) (jC 26 (jR [aj 27 3,aY 28 1 5,bD 29 1 28,aj 30 4,dG 31 1 27 29,eO 1 31 30]) .skip)))) (jR [aj 19 4,D7 20 19 1,aj 4 20])))))) (jS (jR [nM 6 0 0]) (jS (jS (jR [fJ 7 0]) (jB 2 (jL [32,33,34,35,38,39,40,41,42,43,44,45,6,36,37,7] (jS (jS (jR [aj 32 7,aj 33 0,dS 34 33,fE 35 32 34]) (jC 35 .skip (jX 2))) (jS (jB 3 (jR [aj 38 6,aj 39 3,aj 40 7,dG 41 1 39 40,bD 42 1 41,yZ 43 0 0 0 0 0 1 9 1 1 42,tZ 44 33 1 3 43,FW 45 33 3 40 0 0 0 0 38 44,aj 6 45])) (jR [aj 36 7,eK 37 36 1,aj 7 37])))))) (jS (jR [.frz 13,.frz 45,nM 8 0 0]) (jS (jS (jR [fJ 9 0]) (jB 4 (jL [46,47,48,49,52,53,54,55,56,57,10,58,59,60,61,62,63,64,65,66,67,68,69,70,8,50,51,9] (jS (jS (jR [aj 46 9,aj 47 0,dS 48 47,fE 49 46 48]) (jC 49 .skip (jX 4))) (jS (jB 5 (jS (jR [aj 52 6,aj 53 0,aj 54 9,yZ 55 0 0 0 0 0 1 9 1 1 54,gT 56 103 53 55,gT 57 102 52 56,fD 10 33 0 0 0 0,eO 3 10 57]) (jS (jS (jR [cU 58 3 10,jH 59 98 58,aj 60 59,eY 61 1 10 60,fF 62 1 61 60,cD 63 9 60,Aj 64 62 63 60,fe 65 60 64]) (jC 65 (jR [I9 66 0 0 0 0,eO 3 10 66]) .skip)) (jR [aj 67 8,cU 68 3 10,tZ 69 33 1 3 68,FW 70 33 3 40 0 0 0 0 67 69,aj 8 70])))) (jR [aj 50 9,eK 51 50 1,aj 9 51])))))) (jS (jR [aj 71 8,aj 2 71]) .ret))))))))
def Yl:cI:={n:=72,own:=[],frz:=[(13,0,[13,45])],ord:=[]}
theorem MF:ax Tryz.prog Yl Tryz.f94=some (Yk,72,[(2,none)],false):=by kernel_rfl
end Go.Fr.Tryz
