/- Part of the proofs of the statements of this seat. -/
import Derived.Test.YthfdbepkalpplaaGreatVnCode
set_option maxRecDepth 10000
set_option linter.unusedVariables false
set_option linter.unusedSimpArgs false
namespace Go.Fr.Tryz
open Go Go.RowKit Go.Proofs Go.Fr Go.Fr.T
def WW:au:=(jR [fS 4 29 0,fS 5 30 1,fS 7 33 3,N8 8 36 0 0 0 0 0,Oh 9 43 0])
def c10:au:=(jS (jR [Oh 10 3 0,Lb 1 10 0]) (jS (jR [.op (some 11) (.alloc 67 [(.slice none 0 0)]) none]) (jS (jR [K5 12 68]) (jS (jR [.op (some 14) (.mkfn 29 [] [(.t 10),(.t 11),(.t 5),(.t 4),(.t 12)]) none,eO 1 12 14]) (jS (jR [bD 15 1 12,aj 16 2,cU 17 3 7,.op (some 18) (.build [(.int .i64 0),(.int .i64 0),(.int .i64 0),(.slice none 0 0)] [(0,1,(.t 16)),(1,3,(.t 17))]) none,.pc (some 19) (.callV (.t 15) [(.t 18)]) none,eO 4 8 19,Lb 1 9 0]) .ret)))))
def A10:cI:={n:=20,own:=[4,5,7],frz:=[],ord:=[],pan:=[(6,4)]}
theorem Px:Cp Tryz.prog A10 Tryz.f10=some (WW,c10,28,[8,9],13,[(8,some (true,4)),(9,some (false,1))]):=by kernel_rfl
def WX:au:=(jS (jR [fS 1 29 0,fJ 2 0,fJ 3 0,fJ 4 0]) (jS (jS (jR [aY 8 5 1,bD 9 1 8,dS 10 9,fJ 11 0]) (jB 0 (jL [12,13,14,15,6,5,17,18,19,20,16,21,22,2,3,4,24,25,26,23,27,28,2,3,4,29,30,31,32,33,34,7,35,36,37,38,2,3,4,39,11] (jS (jR [fE 12 11 10]) (jS (jC 12 .skip (jX 0)) (jS (jB 1 (jS (jR [aj 13 11,dG 14 8 9 11,cU 15 8 14,Rl 6 57 0 0 0 0 0 0 0 0 0 0,aj 5 13,eO 8 6 15]) (jS (jB 2 (jS (jR [cU 17 8 1,cU 18 8 6,gT 19 37 17 18,iV 20 19,aj 16 20]) (jC 16 (jS (jR [aj 21 5,aj 22 5,fJ 2 1,aj 3 21,aj 4 22]) .ret) (jS (jR [cU 24 8 1,cU 25 8 6,gT 26 38 24 25,aj 23 26]) (jC 23 (jS (jR [aj 27 5,aj 28 5,fJ 2 9,aj 3 27,aj 4 28]) .ret) .skip))))) (jS (jR [.frz 6,aY 29 5 1,bD 30 1 29,aj 31 5,.op (some 32) (.slc 8 (.t 30) none (some (.t 31))) none,I8 33 40 6,gT 34 39 32 33,aj 7 34]) (jS (jR [aj 35 7,mS 36 35 0]) (jC 36 (jS (jR [aj 37 7,aj 38 5,fJ 2 10,aj 3 37,aj 4 38]) .ret) .skip)))))) (jR [eK 39 11 1,aj 11 39]))))))) (jS (jR [fJ 2 0,fJ 3 0,fJ 4 0]) .ret)))
def WY:cI:={n:=40,own:=[1],frz:=[(8,0,[6])],ord:=[]}
theorem Lm:ax Tryz.prog WY Tryz.f16=some (WX,40,[(2,none),(3,none),(4,none)],false):=by kernel_rfl
def c28:au:=(jB 0 (jS (jR [.op (some 7) (.eqN false (.t 5)) none]) (jC 7 (jR [aj 2 5]) (jS (jR [.op (some 8) (.tas 43 (.int .i64 0) (.t 5)) none,cC 9 8 1,cC 10 8 0]) (jC 9 (jS (jR [aj 3 10]) (jR [K2 11 0 0 0 0 0,aj 12 3,eO 4 0 11,eO 1 1 12])) (jS (jR [aj 4 5]) (jR [aj 6 4,.op none (.pan (.t 6)) none])))))))
def A28:cI:={n:=13,own:=[],frz:=[],ord:=[]}
theorem Py:Cr Tryz.prog A28 Tryz.f28=some (c28,5):=by kernel_rfl
def WZ:au:=(jS (jR [fS 2 29 0,fS 3 57 1,dM 4]) (jS (jS (jR [aY 7 3 2,bD 8 1 7,aY 9 0 3,bD 10 1 9,gT 11 58 8 10,iV 12 11,aj 13 12,cg 14 1 3 13,dc 15 1 14 13,D5 16 15 0 13,cJ 17 13 16,aj 18 17,cg 19 4 3 18,nK 20 3 19 18,yX 21 59 20 18,oE 22 21 18,cJ 23 18 22,aj 24 23,nK 25 8 2 24,cg 26 2 3 24,dc 27 1 26 24,cg 28 4 3 24,nK 29 3 28 24,.op (some 30) (.call 18 [(.t 25),(.t 27),(.t 29)]) (some (24,false)),oE 31 30 24,cJ 32 24 31]) (jC 32 (jS (jR [dM 4]) .ret) .skip)) (jS (jR [aY 33 2 3,bD 34 1 33,.op (some 35) (.makeS 4 1 1 [(.bool false)] (.t 34) (.t 34)) none,.op (some 5) (.alloc 96 [(.slice none 0 0)]) none,eO 1 5 35]) (jS (jR [aY 36 4 3,cU 37 3 36,I8 38 61 5,gT 39 60 37 38]) (jS (jR [.frz 35,.frz 5,K7 40 62 5 2,aj 6 40]) (jS (jR [bD 41 1 5,.op (some 42) (.call 64 [(.t 41),(.c (.bool false))]) none,iV 43 42,aj 44 43,eY 45 3 3 44,fF 46 1 45 44,cD 47 6 44,KU 48 65 46 47 44,Cu 49 48 44,fe 50 44 49,aj 4 50]) .ret))))))
def W4:cI:={n:=51,own:=[2,3],frz:=[(5,0,[35,5])],ord:=[]}
theorem Ln:ax Tryz.prog W4 Tryz.f37=some (WZ,51,[(4,none)],false):=by kernel_rfl
end Go.Fr.Tryz
