/- Part of the proofs of the statements of this seat. -/
import Derived.Test.YtnlegbokpofcaaaDoorFW3
import Derived.Test.YtnlegbokpofcaaaDoorProg
set_option maxRecDepth 10000
set_option linter.unusedVariables false
set_option linter.unusedSimpArgs false
namespace Go.Fr.Tryd
open Go Go.RowKit Go.Proofs Go.Fr Go.Fr.T
abbrev jS:=aJ.seq
abbrev jC(a:Nat):=aJ.cond (.t a)
abbrev jR:=aJ.reg
abbrev jD:=aJ.regD
abbrev jL:=aJ.loop
abbrev jB:=aJ.block
abbrev jX:=aJ.exit
abbrev ah(a b:Nat):ak:=.op (some a) (.mov (.t b)) none
abbrev fA(a b:Nat):ak:=.op (some a) (.nilck (.t b)) none
abbrev gB(a b:Nat):ak:=.op (some a) (.len (.t b)) none
abbrev gD(a b c:Nat):ak:=.op (some a) (.load false b (.t c)) none
abbrev gL(a b c:Nat):ak:=.op (some a) (.fieldA b (.t c)) none
abbrev iB(a b c d:Nat):ak:=.op (some a) (.fieldA b (.t c)) (some (d,true))
abbrev jb(a b c:Nat):ak:=.op (some a) (.pick (.t b) (.t c) (.c (.bool false))) none
abbrev jc(a:Nat)(b:Int):ak:=.op (some a) (.mov (.c (.int .i64 b))) none
abbrev jI(a b c d:Nat):ak:=.op (some a) (.load false b (.t c)) (some (d,true))
abbrev jJ(a:Nat):ak:=.op (some a) (.mov (.c (.bool false))) none
abbrev eM(a b c:Nat):ak:=.op none (.store a (.t b) (.t c)) none
abbrev eX(a b c:Nat):ak:=.op (some a) (.mov (.t b)) (some (c,true))
abbrev gM(a b:Nat)(c:Int):ak:=.op (some a) (.bin .add (.t b) (.c (.int .i64 c))) none
abbrev gN(a b c d:Nat):ak:=.op (some a) (.idxA b (.t c) (.t d)) none
abbrev iH(a b c:Nat):ak:=.op (some a) (.load true b (.t c)) none
abbrev i9(a b c d:Nat):ak:=.op (some a) (.call b [(.t c),(.t d)]) none
abbrev jz(a b c:Nat):ak:=.op (some a) (.bin .lss (.t b) (.t c)) none
abbrev jK(a b c:Nat):ak:=.op (some a) (.extr (.t b) c) none
abbrev lD(a b c:Nat):ak:=.op (some a) (.boxF b (.t c)) none
abbrev mE(a b c:Nat):ak:=.op (some a) (.call b [(.t c)]) none
abbrev mM(a b c:Nat):ak:=.op (some a) (.bin .neq (.t b) (.t c)) none
abbrev m7(a b c:Nat):ak:=.op (some a) (.mov (.c (.slice none b c))) none
abbrev nN(a b c:Nat):ak:=.op (some a) (.mov (.t b)) (some (c,false))
abbrev oH(a b c d:Nat):ak:=.op (some a) (.bin .eql (.t b) (.t c)) (some (d,true))
abbrev oW(a b:Nat):ak:=.op (some a) (.un .not (.t b)) none
abbrev qd(a b c:Nat):ak:=.pc (some a) (.call b [(.t c)]) none
abbrev tK(a b c:Nat):ak:=.op (some a) (.pick (.t b) (.c (.bool true)) (.t c)) none
abbrev tL(a b c:Nat):ak:=.op (some a) (.loadD false b (.t c)) none
abbrev tM(a b c d e:Nat):ak:=.op (some a) (.mkF b c d [(.t e)]) none
abbrev tN(a b:Nat):ak:=.op (some a) (.conv .u8 (.t b)) none
abbrev uH(a b c d e:Nat):ak:=.pc (some a) (.call b [(.t c),(.t d),(.fn e)]) none
abbrev wH(a:Nat):ak:=.op (some a) (.mov (.c (.bool true))) none
abbrev xO(a b c d:Nat):ak:=.pc (some a) (.call b [(.t c),(.t d)]) none
abbrev xP(a b c d:Nat):ak:=.pc (some a) (.callV (.t b) [(.t c),(.t d)]) none
abbrev zZ(a b:Nat)(c:Int)(d:Nat):ak:=.op (some a) (.bin .eql (.t b) (.c (.int .i64 c))) (some (d,true))
abbrev z5(a b c d:Nat)(e:Int)(f g:Nat):ak:=.op (some a) (.app b c d [(.int .u8 e)] (.t f) (.t g)) none
abbrev z6(a b c:Nat):ak:=.op (some a) (.bin .eql (.t b) (.t c)) none
abbrev z7(a b c d e f:Nat):ak:=.op (some a) (.call b [(.t c),(.t d),(.fn e)]) (some (f,true))
abbrev BG(a b c d e:Nat):ak:=.op (some a) (.call b [(.t c),(.t d)]) (some (e,true))
abbrev BH(a b c d e:Nat):ak:=.op (some a) (.call b [(.t c),(.t d),(.t e)]) none
abbrev BI(a b c d:Nat):ak:=.op (some a) (.callV (.t b) [(.t c),(.t d)]) none
abbrev CT(a b c:Nat):ak:=.op (some a) (.len (.t b)) (some (c,true))
abbrev CU(a b c d e f:Nat)(g:Int)(h i j k l m n o p q:Nat)(r s t:Int):ak:=.op (some a) (.alloc b [(.slice none c d),(.slice none e f),(.int .i64 g),(.slice none h i),(.slice none j k),(.slice none l m),(.slice none n o),(.slice none p q),(.int .i64 r),(.int .i64 s),(.int .i64 t)]) none
abbrev Ff(a b c:Nat):ak:=.op (some a) (.len (.t b)) (some (c,false))
abbrev Fg(a b c:Nat):ak:=.op (some a) (.b2s (.t b)) (some (c,true))
abbrev Fh(a b:Nat)(c:Int):ak:=.op (some a) (.bin .lss (.t b) (.c (.int .i64 c))) none
abbrev Fj(a:Nat)(b:Int)(c:Nat):ak:=.op (some a) (.bin .mul (.c (.int .i64 b)) (.t c)) none
abbrev Fl(a b:Nat)(c:Int):ak:=.op (some a) (.bin .geq (.t b) (.c (.int .i64 c))) none
abbrev Fm(a b:Nat)(c:Int):ak:=.op (some a) (.bin .rem (.t b) (.c (.int .i64 c))) none
abbrev Fp(a b:Nat)(c:Int):ak:=.op (some a) (.bin .shr (.t b) (.c (.int .u64 c))) none
abbrev Fq(a b c:Nat):ak:=.op (some a) (.nilck (.t b)) (some (c,true))
abbrev Ht(a b:Nat):ak:=.op (some a) (.call b []) none
abbrev Hu(a b:Nat)(c:Int):ak:=.op (some a) (.bin .gtr (.t b) (.c (.int .i64 c))) none
abbrev Hv(a b:Nat)(c:Int)(d:Nat):ak:=.op (some a) (.bin .gtr (.t b) (.c (.int .i64 c))) (some (d,false))
abbrev Hw(a b c:Nat):ak:=.op (some a) (.b2sD (.t b)) (some (c,true))
abbrev Hy(a b:Nat)(c:Int)(d:Nat):ak:=.op (some a) (.bin .leq (.t b) (.c (.int .i64 c))) (some (d,true))
abbrev Hz(a b c d:Nat):ak:=.op (some a) (.loadD true b (.t c)) (some (d,true))
abbrev HA(a b c:Nat):ak:=.op (some a) (.box b (.t c)) none
abbrev HB(a b c:Nat):ak:=.op (some a) (.bin .sub (.t b) (.t c)) none
abbrev HC(a b:Nat)(c:Int):ak:=.op (some a) (.bin .quo (.t b) (.c (.int .i64 c))) none
abbrev HE(a b c:Nat):ak:=.op (some a) (.mkif b (.t c)) none
abbrev HF(a b c:Nat):ak:=.op (some a) (.bin .add (.t b) (.t c)) none
abbrev JV(a b c d e:Nat):ak:=.op (some a) (.callD b [(.t c),(.t d)]) (some (e,true))
abbrev JW(a b c d:Nat):ak:=.op (some a) (.bin .leq (.t b) (.t c)) (some (d,true))
abbrev JX(a b c d e:Nat)(f:Int)(g h i j k l m n o p:Nat)(q r s:Int):ak:=.op (some a) (.build [(.slice none b c),(.slice none d e),(.int .i64 f),(.slice none g h),(.slice none i j),(.slice none k l),(.slice none m n),(.slice none o p),(.int .i64 q),(.int .i64 r),(.int .i64 s)] []) none
abbrev JY(a b:Nat)(c:Int):ak:=.op none (.store a (.t b) (.c (.int .i64 c))) none
abbrev JZ(a b c d:Nat):ak:=.op (some a) (.slc b (.t c) none (some (.t d))) none
abbrev J0(a b c:Nat):ak:=.op (some a) (.loadD true b (.t c)) none
abbrev J1(a:Nat):ak:=.op (some a) (.mov (.c .nilIface)) none
abbrev J2(a b c d:Nat):ak:=.op (some a) (.slc b (.t c) (some (.t d)) none) none
abbrev J3(a b:Nat)(c:Int):ak:=.op (some a) (.bin .eql (.t b) (.c (.int .i64 c))) none
abbrev J4(a b c d:Nat):ak:=.op (some a) (.load true b (.t c)) (some (d,true))
abbrev Ni(a b c d:Nat):ak:=.op (some a) (.bin .neq (.t b) (.t c)) (some (d,false))
abbrev Nj(a b c:Nat):ak:=.op (some a) (.mm false [(.t b),(.t c)]) none
abbrev Nk(a b:Nat)(c:Int):ak:=.op (some a) (.call b [(.c (.int .i64 c))]) none
abbrev Nl(a b:Nat):ak:=.op (some a) (.alloc b [(.pointer none)]) none
abbrev Nm(a b:Nat)(c:Int):ak:=.op (some a) (.alloc b [(.int .i64 c)]) none
abbrev Nn(a b c d:Nat):ak:=.op (some a) (.load false b (.t c)) (some (d,false))
abbrev Np(a b c d e:Nat):ak:=.op (some a) (.call b [(.t c),(.t d)]) (some (e,false))
abbrev Nq(a b c:Nat)(d e:Int):ak:=.op (some a) (.build [(.slice none b c),(.int .i64 d),(.int .i8 e)] []) none
abbrev Nr(a b c d:Nat):ak:=.op (some a) (.callO b [(.t c),(.t d)]) none
abbrev Ns(a b:Nat)(c:Int):ak:=.op (some a) (.bin .sub (.t b) (.c (.int .i64 c))) none
abbrev Nt(a b:Nat)(c d e f g:Int)(h i j k:Nat):ak:=.op (some a) (.alloc b [(.int .i64 c),(.int .i64 d),(.int .i64 e),(.int .i64 f),(.int .i64 g),(.slice none h i),(.slice none j k)]) none
abbrev Nu(a b:Nat):ak:=.op (some a) (.conv .i64 (.t b)) none
abbrev Nv(a:Nat):ak:=.pc none (.pan (.t a)) none
abbrev OO(a b:Nat)(c:Int)(d:Nat):ak:=.op (some a) (.bin .neq (.t b) (.c (.int .i64 c))) (some (d,true))
abbrev OP(a b c d e f:Nat):ak:=.op (some a) (.slc b (.t c) (some (.t d)) (some (.t e))) (some (f,false))
abbrev OQ(a b:Nat)(c d:Int):ak:=.op (some a) (.call b [(.c (.int .i64 c)),(.c (.int .u8 d))]) none
abbrev OT(a b c:Nat):ak:=.op (some a) (.bin .mul (.c (.int .i64 (-b))) (.t c)) none
abbrev OU(a b:Nat)(c:Int)(d:Nat):ak:=.op (some a) (.bin .eql (.t b) (.c (.int .i64 c))) (some (d,false))
abbrev OV(a b:Nat)(c d:Int)(e f:Nat)(g:Int):ak:=.op (some a) (.alloc b [(.string ⟨#[]⟩),(.int .i64 c),(.int .i64 d),(.slice none e f),(.int .i64 g)]) none
abbrev OW(a b c d:Nat)(e f:Int)(g h i j:Nat)(k:Int)(l m n o:Nat):ak:=.op (some a) (.alloc b [(.string ⟨#[]⟩),(.slice none c d),(.int .i64 e),(.int .i64 f),(.slice none g h),(.slice none i j),(.int .i64 k),(.slice none l m),(.slice none n o)]) none
abbrev OX(a b c d:Nat):ak:=.op (some a) (.alloc b [(.string ⟨#[]⟩),(.slice none c d)]) none
abbrev OY(a b:Nat)(c d:Int)(e f:Nat):ak:=.op (some a) (.alloc b [(.int .i64 c),(.int .i64 d),(.slice none e f)]) none
abbrev OZ(a b c d:Nat)(e f:Int)(g h:Nat):ak:=.op (some a) (.alloc b [(.slice none c d),(.int .i64 e),(.int .i64 f),(.slice none g h)]) none
abbrev O0(a b:Nat)(c d e:Int)(f g:Nat)(h i:Int)(j k:Nat):ak:=.op (some a) (.alloc b [(.int .i64 c),(.int .i64 d),(.int .i64 e),(.slice none f g),(.int .i64 h),(.int .i64 i),(.slice none j k)]) none
abbrev O1(a b c:Nat):ak:=.op (some a) (.bin .geq (.t b) (.c (.int .i64 (-c)))) none
def c3:aJ:=(jS (jR [jJ 6]) (jS (jR [Ht 14 6,ah 7 14]) (jS (jS (jR [ah 15 0,gB 16 15,Hu 17 16 3000,ah 18 17,nN 19 1 18,Ff 20 19 18,Hv 21 20 3000 18,tK 22 18 21,ah 23 22,nN 24 2 23,Ff 25 24 23,Hv 26 25 3000 23,tK 27 23 26]) (jC 27 (jS (jR [ah 28 7,ah 6 28]) .ret) .skip)) (jS (jR [ah 30 0,ah 31 0,ah 32 1,i9 33 8 31 32,i9 34 7 30 33,ah 29 34,jK 35 29 0,jK 36 29 1,ah 8 35,ah 9 36]) (jS (jR [ah 38 8,ah 39 1,ah 40 2,i9 41 8 39 40,i9 42 7 38 41,ah 37 42,jK 43 37 0,jK 44 37 1,ah 10 43,ah 11 44]) (jS (jR [ah 46 10,ah 47 2,ah 48 0,i9 49 8 47 48,i9 50 7 46 49,ah 45 50,jK 51 45 0,jK 52 45 1,ah 12 51,ah 13 52]) (jS (jR [ah 53 7,ah 54 53,eX 55 9 54,zZ 56 55 0 54,jb 57 54 56,ah 58 57,eX 59 11 58,zZ 60 59 0 58,jb 61 58 60,ah 62 61,eX 63 13 62,zZ 64 63 0 62,jb 65 62 64,ah 66 65,eX 67 8 66,Fg 68 67 66,eX 69 1 66,Fg 70 69 66,oH 71 68 70 66,jb 72 66 71,ah 73 72,eX 74 10 73,Fg 75 74 73,eX 76 2 73,Fg 77 76 73,oH 78 75 77 73,jb 79 73 78,ah 80 79,eX 81 12 80,Fg 82 81 80,eX 83 0 80,Fg 84 83 80,oH 85 82 84 80,jb 86 80 85,ah 6 86]) .ret)))))))
def c4:aJ:=(jS (jR [jJ 6]) (jS (jR [Ht 12 6,ah 7 12]) (jS (jS (jR [ah 13 0,gB 14 13,Hu 15 14 3000,ah 16 15,nN 17 1 16,Ff 18 17 16,Hv 19 18 3000 16,tK 20 16 19,ah 21 20,nN 22 2 21,Ff 23 22 21,Hv 24 23 3000 21,tK 25 21 24]) (jC 25 (jS (jR [ah 26 7,ah 6 26]) .ret) .skip)) (jS (jR [ah 28 2,ah 29 0,ah 30 1,i9 31 8 29 30,i9 32 7 28 31,ah 27 32,jK 33 27 0,jK 34 27 1,ah 8 33,ah 9 34]) (jS (jS (jR [ah 35 0,gB 36 35,ah 37 2,gB 38 37,mM 39 36 38,ah 40 39,nN 41 0 40,.op (some 42) (.call 9 [(.t 41)]) (some (40,false)),nN 43 2 40,.op (some 44) (.call 9 [(.t 43)]) (some (40,false)),Ni 45 42 44 40,tK 46 40 45,ah 47 46,eX 48 9 47,OO 49 48 17 47,jb 50 47 49]) (jC 50 (jS (jR [jJ 6]) .ret) .skip)) (jS (jR [ah 52 0,ah 53 2,i9 54 7 52 53,ah 51 54,jK 55 51 0,jK 56 51 1,ah 10 55,ah 11 56]) (jS (jS (jR [ah 57 11,.op (some 58) (.bin .neq (.t 57) (.c (.int .i64 0))) none]) (jC 58 (jS (jR [ah 59 7,ah 60 59,eX 61 10 60,CT 62 61 60,zZ 63 62 0 60,jb 64 60 63,ah 6 64]) .ret) .skip)) (jS (jD [ah 65 7,ah 66 65,eX 67 0 66,eX 68 10 66,eX 71 2 66,Hw 72 71 66,JV 69 8 67 68 66,Hw 70 69 66,oH 73 70 72 66,jb 74 66 73,ah 6 74]) .ret))))))))
def c5:aJ:=(jS (jR [jJ 4]) (jS (jR [Ht 10 6,ah 5 10]) (jS (jS (jR [ah 11 0,gB 12 11,Hu 13 12 3000,ah 14 13,nN 15 1 14,Ff 16 15 14,Hv 17 16 3000 14,tK 18 14 17]) (jC 18 (jS (jR [ah 19 5,ah 4 19]) .ret) .skip)) (jS (jR [jc 6 0]) (jS (jS (jR [jc 7 0]) (jB 0 (jL [20,21,22,23,26,27,28,29,30,8,31,32,33,34,35,36,37,38,39,40,41,42,43,44,45,46,47,48,49,6,24,25,7] (jS (jS (jR [ah 20 7,ah 21 1,gB 22 21,jz 23 20 22]) (jC 23 .skip (jX 0))) (jS (jB 1 (jS (jR [ah 26 7,gM 27 26 32,ah 28 1,gB 29 28,Nj 30 27 29,ah 8 30]) (jS (jD [ah 31 8,ah 32 0,gB 33 32,.op (some 34) (.bin .gtr (.t 31) (.t 33)) none,ah 35 34,nN 36 0 35,nN 37 7 35,nN 38 8 35,OP 39 1 36 37 38 35,.op (some 40) (.b2sD (.t 39)) (some (35,false)),nN 41 1 35,nN 42 7 35,nN 43 8 35,OP 44 1 41 42 43 35,.op (some 45) (.b2sD (.t 44)) (some (35,false)),Ni 46 40 45 35,tK 47 35 46]) (jC 47 (jR [ah 48 6,gM 49 48 1,ah 6 49]) .skip)))) (jR [ah 24 7,gM 25 24 32,ah 7 25])))))) (jS (jR [ah 50 0,ah 51 1,i9 52 8 50 51,gB 53 52,ah 9 53]) (jS (jR [ah 54 5,ah 55 54,eX 56 9 55,eX 57 6 55,.op (some 58) (.bin .mul (.c (.int .i64 42)) (.t 57)) (some (55,true)),.op (some 59) (.bin .add (.c (.int .i64 40)) (.t 58)) (some (55,true)),JW 60 56 59 55,jb 61 55 60,ah 62 61,eX 63 6 62,zZ 64 63 0 62,eX 65 64 62,nN 66 9 65,nN 67 6 65,.op (some 68) (.bin .mul (.c (.int .i64 32)) (.t 67)) (some (65,false)),.op (some 69) (.bin .sub (.t 68) (.c (.int .i64 32))) (some (65,false)),nN 70 1 65,Ff 71 70 65,.op (some 72) (.mm false [(.t 69),(.t 71)]) (some (65,false)),.op (some 73) (.bin .gtr (.t 66) (.t 72)) (some (65,false)),.op (some 74) (.pick (.t 65) (.c (.bool true)) (.t 73)) (some (62,true)),jb 75 62 74,ah 76 75,eX 77 0 76,eX 78 0 76,BG 79 8 77 78 76,CT 80 79 76,Hy 81 80 28 76,jb 82 76 81,ah 4 82]) .ret)))))))
def A5:cQ:={n:=83,own:=[],frz:=[],ord:=[(9,.range 17,[[],[],[1],[0,1,2],.range 4,.range 5,.range 5,.range 5,.range 8,.range 9,.range 5,.range 5,.range 5,[0,1,2,3,4,10,11,12],[0,1,2,3,4,10,11,12,13],.range 15,.range 16])]}
theorem Nw:aD Tryd.prog A5 Tryd.f5=some (c5,83,[(4,none)],false):=by kernel_rfl
def c6:aJ:=(jS (jR [jJ 0]) (jS (jR [.op (some 17) (.mkF 5 11 1 [(.c (.int .u8 76)),(.c (.int .u8 83)),(.c (.int .u8 1)),(.c (.int .u8 0)),(.c (.int .u8 0)),(.c (.int .u8 0)),(.c (.int .u8 0)),(.c (.int .u8 0)),(.c (.int .u8 0)),(.c (.int .u8 0)),(.c (.int .u8 0))]) none,ah 1 17]) (jS (jR [JX 18 0 0 0 0 0 0 0 0 0 0 0 0 0 0 0 0 0 0,mE 19 10 18,ah 2 19]) (jS (jR [.op (some 21) (.build [(.slice none 0 0),(.slice none 0 0),(.int .i64 0)] [(2,1,(.c (.int .i64 5)))]) none,Ht 22 12,mE 23 10 22,i9 24 11 21 23,ah 20 24,jK 25 20 0,jK 26 20 1,CU 3 44 0 0 0 0 0 0 0 0 0 0 0 0 0 0 0 0 0 0,eM 11 3 25,ah 4 26]) (jS (jR [Ht 27 12,CU 5 44 0 0 0 0 0 0 0 0 0 0 0 0 0 0 0 0 0 0,eM 11 5 27]) (jS (jR [gL 28 0 5,gL 29 2 28,JY 1 29 5]) (jS (jR [.op (some 31) (.build [(.slice none 0 0),(.slice none 0 0),(.int .i64 0)] []) none,ah 32 1,.op (some 33) (.mkF 5 4 1 [(.c (.int .u8 0)),(.c (.int .u8 0)),(.c (.int .u8 0)),(.c (.int .u8 0))]) none,z5 34 5 1 1 0 32 33,i9 35 11 31 34,ah 30 35,jK 36 30 0,jK 37 30 1,CU 6 44 0 0 0 0 0 0 0 0 0 0 0 0 0 0 0 0 0 0,eM 11 6 36,ah 7 37]) (jS (jR [OQ 38 13 40 1,ah 8 38]) (jS (jR [OQ 39 13 40 1,ah 9 39]) (jS (jR [ah 40 9,.op (some 41) (.idxA 1 (.t 40) (.c (.int .i64 39))) none,.op none (.store 1 (.t 41) (.c (.int .u8 2))) none]) (jS (jR [ah 42 8,ah 43 9,i9 44 8 42 43,ah 10 44]) (jS (jR [ah 46 8,ah 47 10,i9 48 7 46 47,ah 45 48,jK 49 45 0,jK 50 45 1,ah 11 49,ah 12 50]) (jS (jR [ah 52 9,ah 53 10,i9 54 7 52 53,ah 51 54,jK 55 51 0,jK 56 51 1,ah 13 55,ah 14 56]) (jS (jR [Nk 57 14 40,ah 58 8,mE 59 9 58,mE 60 14 59,z5 61 5 1 1 0 57 60,Nk 62 14 40,z5 63 5 1 1 0 61 62,ah 64 9,mE 65 9 64,mE 66 14 65,z5 67 5 1 1 0 63 66,.op (some 68) (.mkF 5 2 1 [(.c (.int .u8 2)),(.c (.int .u8 4))]) none,z5 69 5 1 1 0 67 68,ah 15 69]) (jS (jS (jR [.frz 19]) (jD [ah 70 2,.op (some 71) (.b2sD (.t 70)) none,ah 73 1,ah 75 1,.op (some 72) (.mkFD 5 0 1 []) none,.op (some 74) (.appD 5 1 1 [(.int .u8 0)] (.t 72) (.t 73)) none,.op (some 76) (.callD 15 [(.t 75)]) none,.op (some 77) (.appD 5 1 1 [(.int .u8 0)] (.t 74) (.t 76)) none,.op (some 78) (.b2sR (.t 77)) none,z6 79 71 78,ah 80 79,eX 81 4 80,zZ 82 81 0 80,jb 83 80 82,ah 84 83,Hz 85 11 3 84,Hz 86 11 5 84,JV 87 16 85 86 84,jb 88 84 87,ah 89 88,Hz 90 11 3 89,.op (some 91) (.callD 12 []) (some (89,true)),JV 92 16 90 91 89,.op (some 93) (.un .not (.t 92)) (some (89,true)),jb 94 89 93,ah 95 94,eX 96 7 95,zZ 97 96 17 95,jb 98 95 97,ah 16 98])) (jS (jD [ah 99 16,ah 100 99,eX 101 10 100,Hw 102 101 100,eX 103 15 100,.op (some 104) (.mkFD 5 8 1 [(.c (.int .u8 1)),(.c (.int .u8 1)),(.c (.int .u8 1)),(.c (.int .u8 1)),(.c (.int .u8 1)),(.c (.int .u8 1)),(.c (.int .u8 1)),(.c (.int .u8 2))]) (some (100,true)),.op (some 105) (.appD 5 1 1 [(.int .u8 0)] (.t 103) (.t 104)) (some (100,true)),.op (some 106) (.b2sR (.t 105)) (some (100,true)),oH 107 102 106 100,jb 108 100 107,ah 109 108,eX 110 12 109,zZ 111 110 0 109,jb 112 109 111,ah 113 112,eX 114 11 113,Hw 115 114 113,eX 116 9 113,Hw 117 116 113,oH 118 115 117 113,jb 119 113 118,ah 120 119,eX 121 14 120,zZ 122 121 17 120,jb 123 120 122,ah 0 123]) .ret))))))))))))))))
def A6:cQ:={n:=124,own:=[],frz:=[(14,0,[19])],ord:=[(14,[0,1,3,5,2,4,6,7,8,9,10,11,12,13,14,15,16,17,18,19,20,21,22,23,24,25,26,27,28,29],[[],[0],[],[],[2,3],[],[2,3,4,5],[2,3,4,5,6],[2,3,4,5,6,7],.range 9,.range 10,.range 11,.range 12,.range 13,.range 14,.range 15,.range 15,.range 17,.range 18,.range 19,.range 20,.range 20,.range 22,.range 23,.range 24,.range 25,.range 26,.range 27,.range 28,.range 29]),(15,.range 26,[[],[0],[0,1],[0,1,2],[0,1],[0,1],[0,1,4,5],[0,1,4,5,6],.range 8,.range 9,.range 10,.range 11,.range 12,.range 13,.range 14,.range 15,.range 16,.range 15,[0,1,2,3,4,5,6,7,8,9,10,11,12,13,14,17],.range 19,.range 20,.range 21,.range 22,.range 23,.range 24,.range 25])],fl:=[77,105]}
theorem Nx:aD Tryd.prog A6 Tryd.f6=some (c6,124,[(0,none)],false):=by kernel_rfl
def c7:aJ:=(jS (jR [lD 2 22 0,m7 4 0 0,jc 5 0]) (jS (jR [ah 10 1,.op (some 11) (.build [(.slice none 0 0)] [(0,1,(.t 10))]) none,HA 12 54 11,Nl 6 52,eM 1 6 12]) (jS (jR [Nm 7 3 0,Nm 8 3 0]) (jS (jS (jR [.op (some 13) (.mkfn 18 [] [(.t 6),(.t 7),(.t 8)]) none,mE 14 17 13,oW 15 14]) (jC 15 (jS (jR [m7 4 0 0,jc 5 16]) .ret) .skip)) (jS (jS (jD [tL 16 1 7,tL 17 1 2,gB 18 17,mM 19 16 18,ah 20 19,.op (some 21) (.loadD false 1 (.t 8)) (some (20,false)),.op (some 22) (.loadD false 1 (.t 2)) (some (20,false)),.op (some 23) (.callD 9 [(.t 22)]) (some (20,false)),Ni 24 21 23 20,tK 25 20 24]) (jC 25 (jS (jR [m7 4 0 0,jc 5 17]) .ret) .skip)) (jS (jR [.op (some 9) (.alloc 22 [(.slice none 0 0)]) none]) (jS (jS (jR [.op (some 26) (.mkfn 20 [] [(.t 6),(.t 2),(.t 9)]) none,mE 27 17 26,oW 28 27,ah 29 28,Nn 30 1 2 29,Nn 31 1 9 29,Np 32 8 30 31 29,nN 33 1 29,Np 34 22 32 33 29,.op (some 35) (.un .not (.t 34)) (some (29,false)),tK 36 29 35]) (jC 36 (jS (jR [m7 4 0 0,jc 5 16]) .ret) .skip)) (jS (jR [gD 37 1 9,ah 4 37,jc 5 0]) .ret))))))))
def A7:cQ:={n:=38,own:=[2],frz:=[],ord:=[(5,.range 10,[[],[],[1],[0,1,2],.range 4,.range 5,.range 5,[0,1,2,3,4,6],.range 8,.range 9])]}
theorem Ny:aD Tryd.prog A7 Tryd.f7=some (c7,38,[(4,none),(5,none)],false):=by kernel_rfl
def c8:aJ:=(jS (jR [m7 4 0 0]) (jS (jR [m7 5 0 0]) (jS (jS (jR [ah 13 1,gB 14 13,mE 15 23 14,jc 16 0]) (jB 0 (jL [17,18,6,19,20,21,22,23,24,25,26,27,28,29,30,5,31,16] (jS (jR [jz 17 16 15]) (jS (jC 17 .skip (jX 0)) (jS (jB 1 (jS (jR [ah 18 16,ah 6 18]) (jS (jR [ah 19 0,ah 20 6,i9 21 25 19 20,ah 22 1,ah 23 6,i9 24 25 22 23,i9 25 24 21 24,oW 26 25]) (jC 26 (jR [ah 27 5,ah 28 6,tM 29 3 1 1 28,.op (some 30) (.app 3 1 8 [(.int .i64 0)] (.t 27) (.t 29)) none,ah 5 30]) .skip)))) (jR [gM 31 16 1,ah 16 31]))))))) (jS (jR [.frz 30,Nq 32 0 0 0 0,HA 33 66 32,ah 7 33]) (jS (jS (jR [ah 34 0,gB 35 34,ah 36 0,mE 37 9 36,ah 38 1,gB 39 38,ah 40 1,mE 41 9 40,ah 42 5,gB 43 42,.op (some 44) (.mkF 3 5 1 [(.t 35),(.t 37),(.t 39),(.t 41),(.t 43)]) none,gB 45 44,jc 46 0]) (jB 2 (jL [47,48,49,9,50,51,52,53,46] (jS (jR [jz 47 46 45]) (jS (jC 47 .skip (jX 2)) (jS (jB 3 (jS (jR [gN 48 1 44 46,gD 49 1 48,ah 9 49]) (jR [ah 50 7,ah 51 9,i9 52 26 50 51]))) (jR [gM 53 46 1,ah 46 53]))))))) (jS (jR [.op (some 10) (.mov (.c (.int .i64 (-1)))) none]) (jS (jS (jR [ah 54 5,gB 55 54,jc 56 0]) (jB 4 (jL [57,58,59,12,60,61,62,63,64,65,66,67,68,69,70,71,72,10,73,56] (jS (jR [jz 57 56 55]) (jS (jC 57 .skip (jX 4)) (jS (jB 5 (jS (jR [gN 58 1 54 56,gD 59 1 58,ah 12 59]) (jS (jR [ah 60 7,ah 61 12,ah 62 10,HB 63 61 62,i9 64 26 60 63]) (jS (jD [ah 65 7,fA 66 65,gL 67 0 66,ah 68 1,ah 69 12,.op (some 70) (.callD 25 [(.t 68),(.t 69)]) none,Nr 71 27 67 70]) (jR [ah 72 12,ah 10 72]))))) (jR [gM 73 56 1,ah 56 73]))))))) (jS (jR [ah 74 7,fA 75 74,gL 76 0 75,mE 77 28 76,ah 4 77]) .ret))))))))
def A8:cQ:={n:=78,own:=[],frz:=[(8,0,[30])],ord:=[(19,.range 7,[[],[0],[0,1],[],[],[3,4],.range 6])],co:=[71]}
theorem Nz:aD Tryd.prog A8 Tryd.f8=some (c8,78,[(4,none)],false):=by kernel_rfl
def c9:aJ:=(jS (jR [jc 2 0]) (jS (jR [ah 3 0,.op (some 4) (.call 29 [(.t 3),(.fn 30)]) none,ah 2 4]) .ret))
def A9:cQ:={n:=5,own:=[],frz:=[],ord:=[]}
theorem NA:aD Tryd.prog A9 Tryd.f9=some (c9,5,[(2,none)],false):=by kernel_rfl
def c10:aJ:=(jS (jR [lD 1 44 0,m7 2 0 0]) (jS (jR [Nq 4 0 0 0 0,HA 5 66 4,Nl 3 60,eM 1 3 5]) (jS (jD [tL 6 1 3,fA 7 6,gL 8 0 7,.op (some 9) (.callD 31 []) none,Nr 10 27 8 9]) (jS (jS (jR [.op (some 11) (.mkfn 32 [] [(.t 3),(.t 1)]) none,mE 12 17 11,oW 13 12]) (jC 13 (jS (jR [m7 2 0 0]) .ret) .skip)) (jS (jR [gD 14 1 3,fA 15 14,gL 16 0 15,mE 17 28 16,mE 18 34 17,ah 2 18]) .ret)))))
def SK:cQ:={n:=19,own:=[1],frz:=[],ord:=[(2,.range 5,[[],[0],[0,1],[],.range 4])],co:=[10]}
theorem J5:aD Tryd.prog SK Tryd.f10=some (c10,19,[(2,none)],false):=by kernel_rfl
def c11:aJ:=(jS (jR [lD 2 35 0,CU 4 44 0 0 0 0 0 0 0 0 0 0 0 0 0 0 0 0 0 0,jc 5 0]) (jS (jS (jR [ah 9 1,gB 10 9,Fh 11 10 7,ah 12 11,nN 13 1 12,.op (some 14) (.call 31 []) (some (12,false)),Np 15 24 13 14 12,.op (some 16) (.un .not (.t 15)) (some (12,false)),tK 17 12 16]) (jC 17 (jS (jR [JX 18 0 0 0 0 0 0 0 0 0 0 0 0 0 0 0 0 0 0,eM 11 4 18,jc 5 16]) .ret) .skip)) (jS (jR [ah 19 1,ah 20 1,gB 21 20,Ns 22 21 4,JZ 23 1 19 22,ah 6 23]) (jS (jS (jR [ah 24 6,mE 25 34 24,ah 26 1,i9 27 22 25 26,oW 28 27]) (jC 28 (jS (jR [JX 29 0 0 0 0 0 0 0 0 0 0 0 0 0 0 0 0 0 0,eM 11 4 29,jc 5 17]) .ret) .skip)) (jS (jR [ah 30 6,.op (some 31) (.slc 1 (.t 30) (some (.c (.int .i64 3))) none) none,.op (some 32) (.build [(.slice none 0 0)] [(0,1,(.t 31))]) none,HA 33 54 32,Nl 7 52,eM 1 7 33]) (jS (jR [iH 34 3 2,.op (some 35) (.build [(.slice none 0 0),(.slice none 0 0),(.int .i64 0),(.slice none 0 0),(.slice none 0 0),(.slice none 0 0),(.slice none 0 0),(.slice none 0 0),(.int .i64 0),(.int .i64 0),(.int .i64 0)] [(0,3,(.t 34))]) none,CU 8 44 0 0 0 0 0 0 0 0 0 0 0 0 0 0 0 0 0 0,eM 11 8 35]) (jS (jS (jR [.op (some 36) (.mkfn 35 [] [(.t 7),(.t 8)]) none,mE 37 17 36,oW 38 37]) (jC 38 (jS (jR [JX 39 0 0 0 0 0 0 0 0 0 0 0 0 0 0 0 0 0 0,eM 11 4 39,jc 5 16]) .ret) .skip)) (jS (jR [iH 40 11 8,eM 11 4 40,jc 5 0]) .ret))))))))
def SL:cQ:={n:=41,own:=[2],frz:=[],ord:=[]}
theorem J6:aD Tryd.prog SL Tryd.f11=some (c11,41,[(4,some (true,11)),(5,none)],false):=by kernel_rfl
def c12:aJ:=(jS (jR [CU 0 44 0 0 0 0 0 0 0 0 0 0 0 0 0 0 0 0 0 0]) (jS (jR [.op (some 3) (.build [(.int .i64 0),(.int .i64 0),(.int .i64 0),(.int .i64 0),(.slice none 0 0),(.bool false),(.slice none 0 0),(.slice none 0 0)] [(0,1,(.c (.int .i64 1))),(3,1,(.c (.int .i64 (-3))))]) none,.op (some 4) (.mkF 3 2 1 [(.c (.int .i64 0)),(.c (.int .i64 (-1)))]) none,.op (some 5) (.mkF 3 1 1 [(.c (.int .i64 0))]) none,.op (some 6) (.build [(.int .i64 0),(.int .i64 0),(.int .i64 0),(.int .i64 0),(.slice none 0 0),(.bool false),(.slice none 0 0),(.slice none 0 0)] [(0,1,(.c (.int .i64 6))),(6,1,(.t 4)),(7,1,(.t 5)),(5,1,(.c (.bool true)))]) none,.op (some 7) (.mkF 80 2 8 [(.t 3),(.t 6)]) none,.op (some 8) (.mkF 3 2 1 [(.c (.int .i64 4)),(.c (.int .i64 5))]) none,.op (some 9) (.build [(.int .i64 0),(.int .i64 0),(.int .i64 0),(.int .i64 0),(.int .i64 0),(.slice none 0 0),(.slice none 0 0)] [(0,1,(.c (.int .i64 1))),(5,1,(.t 7)),(6,1,(.t 8))]) none,Nt 1 82 0 0 0 0 0 0 0 0 0,eM 7 1 9]) (jS (jR [iH 10 7 1,tM 11 82 1 7 10,.op (some 12) (.build [(.int .i64 0),(.int .i64 0),(.bool false),(.bool false),(.bool false)] [(1,1,(.c (.int .i64 1))),(3,1,(.c (.bool true)))]) none,tM 13 85 1 5 12,.op (some 14) (.build [(.int .i64 0),(.slice none 0 0),(.slice none 0 0),(.int .i64 0),(.int .i64 0),(.int .i64 0),(.slice none 0 0)] [(1,1,(.t 11)),(2,1,(.t 13)),(4,1,(.c (.int .i64 6))),(5,1,(.c (.int .i64 2)))]) none,tM 15 88 1 7 14,.op (some 16) (.build [(.int .i64 0),(.int .i64 0)] [(0,1,(.c (.int .i64 0))),(1,1,(.c (.int .i64 7)))]) none,tM 17 90 1 2 16,.op (some 18) (.build [(.slice none 0 0),(.slice none 0 0),(.int .i64 0),(.slice none 0 0),(.slice none 0 0),(.slice none 0 0),(.slice none 0 0),(.slice none 0 0),(.int .i64 0),(.int .i64 0),(.int .i64 0)] [(5,1,(.t 15)),(7,1,(.t 17)),(8,1,(.c (.int .i64 1)))]) none,CU 2 44 0 0 0 0 0 0 0 0 0 0 0 0 0 0 0 0 0 0,eM 11 2 18]) (jS (jR [.op (some 19) (.build [(.int .i64 0),(.int .i64 0),(.int .i64 0),(.int .i64 0),(.slice none 0 0),(.bool false),(.slice none 0 0),(.slice none 0 0)] [(0,1,(.c (.int .i64 2))),(1,1,(.c (.int .i64 2)))]) none,.op (some 20) (.build [(.bool false),(.int .i64 0),(.int .i64 0),(.int .i64 0),(.int .i64 0),(.int .i64 0),(.slice none 0 0),(.bool false),(.slice none 0 0),(.slice none 0 0)] [(0,1,(.c (.bool true))),(1,1,(.c (.int .i64 (-1)))),(2,8,(.t 19))]) none,tM 21 92 1 10 20,gL 22 3 2,gL 23 0 22,eM 1 23 21]) (jS (jR [.op (some 24) (.mkF 78 1 1 [(.c (.slice none 0 0))]) none,gL 25 6 2,eM 1 25 24]) (jS (jR [iH 26 11 2,eM 11 0 26]) .ret))))))
def SM:cQ:={n:=27,own:=[],frz:=[],ord:=[]}
theorem J7:aD Tryd.prog SM Tryd.f12=some (c12,27,[(0,some (true,11))],false):=by kernel_rfl
def c13:aJ:=(jS (jR [m7 4 0 0]) (jS (jR [ah 7 0,.op (some 8) (.makeS 5 1 1 [(.int .u8 0)] (.t 7) (.t 7)) none,ah 5 8]) (jS (jS (jR [jc 6 0]) (jB 0 (jL [9,10,11,14,15,16,17,12,13,6] (jS (jS (jR [ah 9 6,ah 10 0,jz 11 9 10]) (jC 11 .skip (jX 0))) (jS (jB 1 (jR [ah 14 5,ah 15 6,ah 16 1,gN 17 1 14 15,eM 1 17 16])) (jR [ah 12 6,gM 13 12 1,ah 6 13])))))) (jS (jR [ah 18 5,ah 4 18]) .ret))))
def SN:cQ:={n:=19,own:=[],frz:=[],ord:=[]}
theorem J8:aD Tryd.prog SN Tryd.f13=some (c13,19,[(4,none)],false):=by kernel_rfl
def c14:aJ:=(jS (jR [m7 2 0 0]) (jS (jR [ah 5 0,Fj 6 2 5,ah 3 6]) (jS (jS (jR [ah 7 0,Fh 8 7 0]) (jC 8 (jR [ah 9 0,OT 10 2 9,Ns 11 10 1,ah 3 11]) .skip)) (jS (jR [m7 4 0 0]) (jS (jB 0 (jL [12,13,14,15,16,17,18,19,20,4,21,22,3] (jS (jS (jR [ah 12 3,Fl 13 12 128]) (jC 13 .skip (jX 0))) (jB 1 (jS (jR [ah 14 4,ah 15 3,Fm 16 15 128,.op (some 17) (.bin .add (.c (.int .i64 128)) (.t 16)) none,tN 18 17,tM 19 5 1 1 18,z5 20 5 1 1 0 14 19,ah 4 20]) (jR [ah 21 3,HC 22 21 128,ah 3 22])))))) (jS (jR [ah 23 4,ah 24 3,tN 25 24,tM 26 5 1 1 25,z5 27 5 1 1 0 23 26,ah 2 27]) .ret))))))
def SQ:cQ:={n:=28,own:=[],frz:=[],ord:=[]}
theorem J9:aD Tryd.prog SQ Tryd.f14=some (c14,28,[(2,none)],false):=by kernel_rfl
def c15:aJ:=(jS (jR [m7 2 0 0]) (jS (jR [ah 4 0,mE 5 37 4,ah 3 5]) (jS (jR [ah 6 3,Fp 7 6 24,tN 8 7,ah 9 3,Fp 10 9 16,tN 11 10,ah 12 3,Fp 13 12 8,tN 14 13,ah 15 3,tN 16 15,.op (some 17) (.mkF 5 4 1 [(.t 8),(.t 11),(.t 14),(.t 16)]) none,ah 2 17]) .ret)))
def SR:cQ:={n:=18,own:=[],frz:=[],ord:=[]}
theorem Ka:aD Tryd.prog SR Tryd.f15=some (c15,18,[(2,none)],false):=by kernel_rfl
def c16:aJ:=(jS (jR [lD 2 44 0,lD 3 44 1,jJ 4]) (jS (jR [.op (some 5) (.mov (.fn 38)) none]) (jS (jD [gL 6 0 2,J0 7 3 6,gL 8 0 3,J0 9 3 8,.op (some 10) (.callD 39 [(.t 7),(.t 9)]) none,ah 11 10,eX 12 5 11,Hz 13 11 2 11,eX 15 5 11,Hz 16 11 3 11,.op (some 14) (.callVD (.t 12) [(.t 13)]) (some (11,true)),.op (some 17) (.callVD (.t 15) [(.t 16)]) (some (11,true)),JV 18 22 14 17 11,jb 19 11 18,ah 4 19]) .ret)))
def SS:cQ:={n:=20,own:=[2,3],frz:=[],ord:=[(2,[0,1,2,3,4,5,6,7,9,10,8,11,12,13,14],[[],[0],[],[2],.range 4,.range 5,.range 6,.range 6,.range 8,.range 6,.range 6,.range 11,.range 12,.range 13,.range 14])]}
theorem Kb:aD Tryd.prog SS Tryd.f16=some (c16,20,[(4,none)],false):=by kernel_rfl
def Qn:aJ:=(jR [.op (some 2) (.alloc 4 [(.bool false)]) none])
def c17:aJ:=(jS (jR [ah 4 0,.pc (some 5) (.callV (.t 4) []) none]) (jS (jR [.op none (.store 1 (.t 2) (.c (.bool true))) none]) .ret))
def SW:cQ:={n:=6,own:=[],frz:=[],ord:=[],pan:=[(2,1)]}
theorem uY:CR Tryd.prog SW Tryd.f17=some (Qn,c17,40,[2],3,[(2,some (false,1))]):=by kernel_rfl
def c18:aJ:=(.regX [.op (some 3) (.loadK 1000 false 1 (.t 0)) none,.op (some 5) (.loadK 1000 false 1 (.t 0)) none,.pc (some 4) (.call 19 [(.t 3)]) none,.pc (some 6) (.call 19 [(.t 5)]) none,.op none (.storeD 1 (.t 1) (.t 4)) none,.op none (.storeD 1 (.t 2) (.t 6)) none])
def SX:cQ:={n:=7,own:=[],frz:=[],ord:=[(0,[0,2,1,3,4,5],[[],[0],[],[0,1,2],.range 4,.range 5])],px:=[4,6],bk:=[(0,1000)]}
theorem Kc:aD Tryd.prog SX Tryd.f18=some (c18,7,[],false):=by kernel_rfl
def c19:aJ:=(jS (jR [jc 2 0]) (jS (jR [jc 3 0]) (jS (jS (jR [jc 6 0]) (jB 0 (jL [7,8,4,9,10,11,12,13,5,14,15,16,17,18,19,20,3,21,22,23,24,25,26,27,28,29,30,31,32,33,34,35,2,36,6] (jS (jR [Fh 7 6 6]) (jS (jC 7 .skip (jX 0)) (jS (jB 1 (jS (jR [ah 8 6,ah 4 8]) (jS (jR [ah 9 0,.pc (some 10) (.call 41 [(.t 9),(.c (.int .i64 1))]) none,.op (some 11) (.idxA 1 (.t 10) (.c (.int .i64 0))) none,gD 12 1 11,Nu 13 12,ah 5 13]) (jS (jR [ah 14 3,ah 15 5,Fm 16 15 128,ah 17 4,Fj 18 7 17,.op (some 19) (.bin .shl (.t 16) (.t 18)) none,.op (some 20) (.bin .or (.t 14) (.t 19)) none,ah 3 20]) (jS (jR [ah 21 5,Fh 22 21 128]) (jC 22 (jS (jR [ah 23 5,Hu 24 23 0,ah 25 24,nN 26 4 25,OU 27 26 0 25,tK 28 25 27,qd 29 36 28]) (jS (jR [ah 30 3,HC 31 30 2,ah 32 3,Fm 33 32 2,.op (some 34) (.un .neg (.t 33)) none,.op (some 35) (.bin .xor (.t 31) (.t 34)) none,ah 2 35]) .ret)) .skip)))))) (jR [gM 36 6 1,ah 6 36]))))))) (jR [.op (some 37) (.build [] []) none,HE 38 98 37,Nv 38]))))
def SY:cQ:={n:=39,own:=[],frz:=[],ord:=[],pan:=[(5,1),(8,6),(11,2)]}
theorem Ke:aD Tryd.prog SY Tryd.f19=some (c19,39,[(2,none)],false):=by kernel_rfl
def SZ:aJ:=(jR [gD 3 1 0,gD 4 1 1,xO 5 21 3 4,eM 1 2 5])
def S0:cQ:={n:=6,own:=[],frz:=[],ord:=[],pan:=[(0,2)]}
theorem Kf:aD Tryd.prog S0 Tryd.f20=some (SZ,6,[],false):=by kernel_rfl
def c21:aJ:=(jS (jR [m7 4 0 0]) (jS (jR [ah 10 0,qd 11 19 10,ah 12 0,qd 13 19 12,ah 14 0,qd 15 19 14,ah 5 11,ah 6 13,ah 7 15]) (jS (jR [ah 16 5,Fl 17 16 0,ah 18 17,eX 19 5 18,eX 20 1 18,CT 21 20 18,eX 22 0 18,Fq 23 22 18,iB 24 0 23 18,jI 25 1 24 18,CT 26 25 18,.op (some 27) (.bin .add (.t 21) (.t 26)) (some (18,true)),JW 28 19 27 18,jb 29 18 28,ah 30 29,eX 31 7 30,.op (some 32) (.bin .geq (.t 31) (.c (.int .i64 0))) (some (30,true)),jb 33 30 32,qd 34 36 33]) (jS (jR [ah 35 5,.op (some 36) (.makeS 5 1 1 [(.int .u8 0)] (.t 35) (.t 35)) none,ah 8 36]) (jS (jR [ah 37 8,ah 38 1,.op (some 39) (.copy 5 1 (.t 37) (.t 38)) none]) (jS (jR [.op (some 9) (.mov (.c (.int .i64 (-1)))) none]) (jS (jS (jR [ah 40 7,jc 41 0]) (jB 0 (jL [42,43,44,45,46,9,47,48,49,50,51,52,53,54,55,56,57,58,59,60,61,62,63,64,65,66,67,41] (jS (jR [jz 42 41 40]) (jS (jC 42 .skip (jX 0)) (jS (jB 1 (jS (jR [ah 43 9,ah 44 0,qd 45 19 44,HF 46 43 45,ah 9 46]) (jS (jR [ah 47 9,Fl 48 47 0,ah 49 48,eX 50 9 49,eX 51 5 49,.op (some 52) (.call 23 [(.t 51)]) (some (49,true)),.op (some 53) (.bin .lss (.t 50) (.t 52)) (some (49,true)),jb 54 49 53,qd 55 36 54]) (.regX [.op (some 56) (.mov (.t 8)) none,.op (some 57) (.mov (.t 9)) none,.op (some 58) (.bin .mul (.c (.int .i64 32)) (.t 57)) none,.op (some 59) (.slc 1 (.t 56) (some (.t 58)) none) none,.op (some 60) (.mov (.t 0)) none,.op (some 61) (.mov (.t 8)) none,.op (some 62) (.mov (.t 9)) none,.op (some 63) (.callD 25 [(.t 61),(.t 62)]) none,.op (some 64) (.len (.t 63)) none,.pc (some 65) (.call 41 [(.t 60),(.t 64)]) none,.op (some 66) (.copyX 5 1 (.t 59) (.t 65)) none])))) (jR [gM 67 41 1,ah 41 67]))))))) (jS (jR [ah 68 8,ah 4 68]) .ret))))))))
def S1:cQ:={n:=69,own:=[],frz:=[],ord:=[(10,.range 11,[[],[],[1],[0,1,2],[],[],[],[5,6],[5,6,7],[4,5,6,7,8],.range 10])],co:=[66],pan:=[(1,1),(1,3),(1,5),(2,18),(8,2),(9,8)],px:=[65]}
theorem Kg:aD Tryd.prog S1 Tryd.f21=some (c21,69,[(4,none)],false):=by kernel_rfl
def S2:aJ:=(jS (jR [jJ 4]) (jS (jR [ah 5 0,.op (some 6) (.b2s (.t 5)) none,ah 7 1,.op (some 8) (.b2s (.t 7)) none,z6 9 6 8,ah 4 9]) .ret))
def S3:cQ:={n:=10,own:=[],frz:=[],ord:=[]}
theorem Kh:aD Tryd.prog S3 Tryd.f22=some (S2,10,[(4,none)],false):=by kernel_rfl
def S5:aJ:=(jS (jR [jc 2 0]) (jS (jR [ah 3 0,gM 4 3 31,HC 5 4 32,ah 2 5]) .ret))
def S6:cQ:={n:=6,own:=[],frz:=[],ord:=[]}
theorem Ki:aD Tryd.prog S6 Tryd.f23=some (S5,6,[(2,none)],false):=by kernel_rfl
def S7:aJ:=(jS (jR [jJ 4]) (jS (jR [ah 5 0,gB 6 5,ah 7 1,gB 8 7,.op (some 9) (.bin .geq (.t 6) (.t 8)) none,ah 10 9,eX 11 0 10,eX 12 1 10,CT 13 12 10,.op (some 14) (.slc 1 (.t 11) none (some (.t 13))) (some (10,true)),eX 15 1 10,BG 16 22 14 15 10,jb 17 10 16,ah 4 17]) .ret))
def S8:cQ:={n:=18,own:=[],frz:=[],ord:=[]}
theorem Kj:aD Tryd.prog S8 Tryd.f24=some (S7,18,[(4,none)],false):=by kernel_rfl
def S9:aJ:=(jS (jR [m7 4 0 0]) (jS (jR [ah 5 0,ah 6 1,Fj 7 32 6,ah 8 0,gB 9 8,Nj 10 7 9,ah 11 1,Fj 12 32 11,gM 13 12 32,ah 14 0,gB 15 14,Nj 16 13 15,.op (some 17) (.slc 1 (.t 5) (some (.t 10)) (some (.t 16))) none,ah 4 17]) .ret))
def Ta:cQ:={n:=18,own:=[],frz:=[],ord:=[]}
theorem DJ:aD Tryd.prog Ta Tryd.f25=some (S9,18,[(4,none)],false):=by kernel_rfl
def Tc:aJ:=(jS (jR [ah 5 1,Fj 6 2 5,ah 4 6]) (jS (jS (jR [ah 7 1,Fh 8 7 0]) (jC 8 (jR [ah 9 1,OT 10 2 9,Ns 11 10 1,ah 4 11]) .skip)) (jS (jB 0 (jL [12,13,16,17,18,19,20,21,22,23,14,15,4] (jS (jS (jR [ah 12 4,Fl 13 12 128]) (jC 13 .skip (jX 0))) (jS (jB 1 (jR [ah 16 0,fA 17 16,gL 18 0 17,ah 19 4,Fm 20 19 128,.op (some 21) (.bin .add (.c (.int .i64 128)) (.t 20)) none,tN 22 21,i9 23 42 18 22])) (jR [ah 14 4,HC 15 14 128,ah 4 15]))))) (jR [ah 24 0,fA 25 24,gL 26 0 25,ah 27 4,tN 28 27,i9 29 42 26 28]))))
def Td:cQ:={n:=30,own:=[],frz:=[],ord:=[]}
theorem Kk:aD Tryd.prog Td Tryd.f26=some (Tc,30,[],false):=by kernel_rfl
def Te:aJ:=(jS (jR [jc 4 0,J1 5]) (jS (jR [ah 8 0,fA 9 8,gL 10 2 9,.op none (.store 1 (.t 10) (.c (.int .i8 0))) none]) (jS (jR [ah 12 0,ah 13 1,gB 14 13,i9 15 43 12 14,ah 11 15,jK 16 11 0,jK 17 11 1,ah 6 16,ah 7 17]) (jS (jS (jR [ah 18 7,oW 19 18]) (jC 19 (jR [ah 20 0,ah 21 1,gB 22 21,i9 23 44 20 22,ah 6 23]) .skip)) (jS (jR [ah 24 0,fA 25 24,gL 26 0 25,gD 27 1 26,ah 28 6,J2 29 1 27 28,ah 30 1,.op (some 31) (.copy 5 1 (.t 29) (.t 30)) none,ah 4 31,J1 5]) .ret)))))
def Tf:cQ:={n:=32,own:=[],frz:=[],ord:=[]}
theorem Kl:aD Tryd.prog Tf Tryd.f27=some (Te,32,[(4,none),(5,none)],false):=by kernel_rfl
def Tg:aJ:=(jS (jR [m7 2 0 0]) (jS (jD [ah 3 0,fA 4 3,gL 5 0 4,tL 6 1 5,ah 7 0,fA 8 7,gL 9 1 8,tL 10 1 9,J2 11 1 6 10,ah 2 11]) .ret))
def Ti:cQ:={n:=12,own:=[],frz:=[],ord:=[(1,.range 10,[[],[0],[0,1],[0,1,2],[],[4],[4,5],[4,5,6],.range 8,.range 9])]}
theorem Km:aD Tryd.prog Ti Tryd.f28=some (Tg,12,[(2,none)],false):=by kernel_rfl
def Tj:aJ:=(jS (jR [jc 4 0]) (jS (jR [jc 5 7]) (jS (jS (jR [ah 8 0,gB 9 8,jc 10 0]) (jB 0 (jL [11,12,13,7,14,15,16,17,18,19,20,21,5,22,10] (jS (jR [jz 11 10 9]) (jS (jC 11 .skip (jX 0)) (jS (jB 1 (jS (jR [gN 12 1 8 10,gD 13 1 12,ah 7 13]) (jR [ah 14 5,.op (some 15) (.bin .mul (.t 14) (.c (.int .i64 1000003))) none,ah 16 1,ah 17 7,.op (some 18) (.callV (.t 16) [(.t 17)]) none,HF 19 15 18,gM 20 19 1,Fm 21 20 2147483647,ah 5 21]))) (jR [gM 22 10 1,ah 10 22]))))))) (jS (jR [ah 23 5,ah 4 23]) .ret))))
def Tl:cQ:={n:=24,own:=[],frz:=[],ord:=[]}
theorem Kn:aD Tryd.prog Tl Tryd.f29=some (Tj,24,[(4,none)],false):=by kernel_rfl
def Tm:aJ:=(jS (jR [jc 2 0]) (jS (jR [ah 3 0,Nu 4 3,ah 2 4]) .ret))
def Tn:cQ:={n:=5,own:=[],frz:=[],ord:=[]}
theorem Ko:aD Tryd.prog Tn Tryd.f30=some (Tm,5,[(2,none)],false):=by kernel_rfl
def Tp:aJ:=(jS (jR [m7 0 0 0]) (jS (jR [.op (some 1) (.mkF 5 3 1 [(.c (.int .u8 76)),(.c (.int .u8 83)),(.c (.int .u8 1))]) none,ah 0 1]) .ret))
def Tq:cQ:={n:=2,own:=[],frz:=[],ord:=[]}
theorem Kq:aD Tryd.prog Tq Tryd.f31=some (Tp,2,[(0,none)],false):=by kernel_rfl
def c32:aJ:=(jR [gD 2 1 0,HE 3 60 2,xO 4 33 3 1])
def Tr:cQ:={n:=5,own:=[],frz:=[],ord:=[],pan:=[(0,2)]}
theorem Kr:aD Tryd.prog Tr Tryd.f32=some (c32,5,[],false):=by kernel_rfl
def Tt:aJ:=(jS (jR [ah 4 0,ah 5 1,fA 6 5,gL 7 3 6,gL 8 0 7,uH 9 45 4 8 46]) (jS (jR [ah 10 0,ah 11 1,fA 12 11,gL 13 3 12,gL 14 1 13,uH 15 47 10 14 48]) (jS (jR [ah 16 0,ah 17 1,fA 18 17,gL 19 5 18,uH 20 49 16 19 50]) (jS (jR [ah 21 0,ah 22 1,fA 23 22,gL 24 6 23,uH 25 51 21 24 52]) (jS (jR [ah 26 0,ah 27 1,fA 28 27,gL 29 7 28,uH 30 53 26 29 54]) (.regX [.op (some 31) (.mov (.t 0)) none,.op (some 32) (.mov (.t 1)) none,.op (some 33) (.nilck (.t 32)) none,.op (some 34) (.fieldA 8 (.t 33)) none,.op (some 35) (.mov (.t 1)) none,.op (some 36) (.nilck (.t 35)) none,.op (some 37) (.fieldA 9 (.t 36)) none,.op (some 38) (.mov (.t 1)) none,.op (some 39) (.nilck (.t 38)) none,.op (some 40) (.fieldA 10 (.t 39)) none,.op (some 41) (.mkFD 122 3 1 [(.t 34),(.t 37),(.t 40)]) none,.pc (some 42) (.call 55 [(.t 31),(.t 41)]) none]))))))
def Tv:cQ:={n:=43,own:=[],frz:=[],ord:=[(5,.range 12,[[],[],[1],[1,2],[],[4],[4,5],[],[7],[7,8],[1,2,3,4,5,6,7,8,9],.range 11])],pan:=[(0,5),(1,5),(2,4),(3,4),(4,4)],px:=[42]}
theorem DK:aD Tryd.prog Tv Tryd.f33=some (Tt,43,[],false):=by kernel_rfl
def Tw:aJ:=(jS (jR [m7 2 0 0]) (jS (jR [ah 4 0,mE 5 9 4,ah 3 5]) (jS (jR [ah 6 0,mE 7 56 6,ah 8 3,Fp 9 8 24,tN 10 9,ah 11 3,Fp 12 11 16,tN 13 12,ah 14 3,Fp 15 14 8,tN 16 15,ah 17 3,tN 18 17,.op (some 19) (.mkF 5 4 1 [(.t 10),(.t 13),(.t 16),(.t 18)]) none,z5 20 5 1 1 0 7 19,ah 2 20]) .ret)))
def Tx:cQ:={n:=21,own:=[],frz:=[],ord:=[]}
theorem Ks:aD Tryd.prog Tx Tryd.f34=some (Tw,21,[(2,none)],false):=by kernel_rfl
def Tz:aJ:=(jS (jR [gD 2 1 0,HE 3 52 2,xO 4 33 3 1]) (jR [gD 5 1 0,fA 6 5,gL 7 0 6,gD 8 1 7,gB 9 8,J3 10 9 0,qd 11 36 10]))
def TA:cQ:={n:=12,own:=[],frz:=[],ord:=[],pan:=[(0,2),(1,6)]}
theorem Kt:aD Tryd.prog TA Tryd.f35=some (Tz,12,[],false):=by kernel_rfl
def TB:aJ:=(jS (jR [ah 2 0,oW 3 2]) (jC 3 (jR [.op (some 4) (.build [] []) none,HE 5 98 4,Nv 5]) .skip))
def TD:cQ:={n:=6,own:=[],frz:=[],ord:=[],pan:=[(1,2)]}
theorem Ku:aD Tryd.prog TD Tryd.f36=some (TB,6,[],false):=by kernel_rfl
def TF:aJ:=(jS (jR [jc 2 0]) (jS (jR [jc 3 7]) (jS (jS (jR [jc 4 0]) (jB 0 (jL [5,6,7,8,11,12,13,14,15,16,17,18,19,20,3,9,10,4] (jS (jS (jR [ah 5 4,ah 6 0,gB 7 6,jz 8 5 7]) (jC 8 .skip (jX 0))) (jS (jB 1 (jR [ah 11 3,.op (some 12) (.bin .mul (.t 11) (.c (.int .i64 1000003))) none,ah 13 0,ah 14 4,gN 15 1 13 14,gD 16 1 15,Nu 17 16,HF 18 12 17,gM 19 18 1,Fm 20 19 2147483647,ah 3 20])) (jR [ah 9 4,gM 10 9 1,ah 4 10])))))) (jS (jR [ah 21 3,ah 2 21]) .ret))))
def TG:cQ:={n:=22,own:=[],frz:=[],ord:=[]}
theorem Kv:aD Tryd.prog TG Tryd.f37=some (TF,22,[(2,none)],false):=by kernel_rfl
def TH:aJ:=(jS (jR [lD 1 44 0,m7 2 0 0]) (jS (jR [Nq 4 0 0 0 0,HA 5 95 4,ah 3 5]) (jS (jR [ah 6 3,HE 7 94 6,i9 8 33 7 1]) (jS (jR [ah 9 3,fA 10 9,gL 11 0 10,mE 12 28 11,ah 2 12]) .ret))))
def TI:cQ:={n:=13,own:=[1],frz:=[],ord:=[]}
theorem Kw:aD Tryd.prog TI Tryd.f38=some (TH,13,[(2,none)],false):=by kernel_rfl
def TJ:aJ:=(jS (jR [lD 2 35 0,lD 3 35 1,jJ 4]) (jS (jR [gL 5 2 2,gD 6 1 5,gL 7 2 3,gD 8 1 7,z6 9 6 8,ah 10 9,iB 11 0 2 10,jI 12 1 11 10,iB 13 0 3 10,jI 14 1 13 10,z7 15 57 12 14 58 10,jb 16 10 15,ah 17 16,iB 18 1 2 17,jI 19 1 18 17,iB 20 1 3 17,jI 21 1 20 17,z7 22 59 19 21 60 17,jb 23 17 22,ah 4 23]) .ret))
def TM:cQ:={n:=24,own:=[2,3],frz:=[],ord:=[]}
theorem Kx:aD Tryd.prog TM Tryd.f39=some (TJ,24,[(4,none)],false):=by kernel_rfl
def TN:aJ:=(jS (jR [ah 5 1,.op (some 6) (.eqN true (.t 5)) none]) (jC 6 (jS (jS (jR [ah 8 1,.op (some 9) (.tas 98 (.agg #[]) (.t 8)) none,ah 7 9,jK 10 7 0,jK 11 7 1,.op (some 2) (.alloc 98 []) none,eM 0 2 10,ah 3 11]) (jS (jR [ah 12 3,oW 13 12]) (jC 13 (jR [ah 14 1,Nv 14]) .skip))) (jR [.op none (.store 1 (.t 0) (.c (.bool false))) none])) .skip))
def TP:cQ:={n:=15,own:=[],frz:=[],ord:=[],pan:=[(4,1)]}
theorem Ky:zX Tryd.prog TP Tryd.f40=some (TN,4,1):=by kernel_rfl
def TQ:aJ:=(jS (jR [m7 4 0 0]) (jS (jR [ah 6 1,Fl 7 6 0,ah 8 7,eX 9 1 8,eX 10 0 8,Fq 11 10 8,iB 12 0 11 8,jI 13 1 12 8,CT 14 13 8,JW 15 9 14 8,jb 16 8 15,qd 17 36 16]) (jS (jR [ah 18 0,fA 19 18,gL 20 0 19,gD 21 1 20,ah 22 1,JZ 23 1 21 22,ah 5 23]) (jS (jR [ah 24 0,ah 25 0,fA 26 25,gL 27 0 26,gD 28 1 27,ah 29 1,J2 30 1 28 29,fA 31 24,gL 32 0 31,eM 1 32 30]) (jS (jR [ah 33 5,ah 4 33]) .ret)))))
def TR:cQ:={n:=34,own:=[],frz:=[],ord:=[],pan:=[(1,11)]}
theorem Kz:aD Tryd.prog TR Tryd.f41=some (TQ,34,[(4,none)],false):=by kernel_rfl
def TT:aJ:=(jS (jR [J1 4]) (jS (jR [ah 7 0,fA 8 7,gL 9 2 8,.op none (.store 1 (.t 9) (.c (.int .i8 0))) none]) (jS (jR [ah 11 0,.op (some 12) (.call 43 [(.t 11),(.c (.int .i64 1))]) none,ah 10 12,jK 13 10 0,jK 14 10 1,ah 5 13,ah 6 14]) (jS (jS (jR [ah 15 6,oW 16 15]) (jC 16 (jR [ah 17 0,.op (some 18) (.call 44 [(.t 17),(.c (.int .i64 1))]) none,ah 5 18]) .skip)) (jS (jR [ah 19 0,fA 20 19,gL 21 0 20,gD 22 1 21,ah 23 5,ah 24 1,gN 25 1 22 23,eM 1 25 24]) (jS (jR [J1 4]) .ret))))))
def TU:cQ:={n:=26,own:=[],frz:=[],ord:=[]}
theorem KA:aD Tryd.prog TU Tryd.f42=some (TT,26,[(4,none)],false):=by kernel_rfl
def TV:aJ:=(jS (jR [jc 4 0,jJ 5]) (jS (jS (jR [ah 7 0,fA 8 7,gL 9 0 8,gD 10 1 9,gB 11 10,ah 6 11]) (jS (jR [ah 12 1,ah 13 0,fA 14 13,gL 15 0 14,gD 16 1 15,.op (some 17) (.capa (.t 16)) none,ah 18 6,HB 19 17 18,.op (some 20) (.bin .leq (.t 12) (.t 19)) none]) (jC 20 (jS (jR [ah 21 0,ah 22 0,fA 23 22,gL 24 0 23,gD 25 1 24,ah 26 6,ah 27 1,HF 28 26 27,JZ 29 1 25 28,fA 30 21,gL 31 0 30,eM 1 31 29]) (jS (jR [ah 32 6,ah 4 32,wH 5]) .ret)) .skip))) (jS (jR [jc 4 0,jJ 5]) .ret)))
def TW:cQ:={n:=33,own:=[],frz:=[],ord:=[]}
theorem KC:aD Tryd.prog TW Tryd.f43=some (TV,33,[(4,none),(5,none)],false):=by kernel_rfl
def TY:aJ:=(jS (jR [jc 4 0]) (jS (jR [ah 9 0,mE 10 61 9,ah 5 10]) (jS (jS (jR [ah 11 5,J3 12 11 0,ah 13 12,eX 14 0 13,Fq 15 14 13,iB 16 1 15 13,jI 17 1 16 13,OO 18 17 0 13,jb 19 13 18]) (jC 19 (jR [ah 20 0,mE 21 62 20]) .skip)) (jS (jS (jR [ah 23 0,ah 24 1,i9 25 43 23 24,ah 22 25,jK 26 22 0,jK 27 22 1,ah 6 26,ah 7 27]) (jS (jR [ah 28 7]) (jC 28 (jS (jR [ah 29 6,ah 4 29]) .ret) .skip))) (jS (jS (jR [ah 30 0,fA 31 30,gL 32 0 31,gD 33 1 32,.op (some 34) (.eqS false (.t 33) (.c (.slice none 0 0))) none,ah 35 34,eX 36 1 35,Hy 37 36 64 35,jb 38 35 37]) (jC 38 (jS (jR [ah 39 0,ah 40 1,.op (some 41) (.makeS 5 1 1 [(.int .u8 0)] (.t 40) (.c (.int .i64 64))) none,fA 42 39,gL 43 0 42,eM 1 43 41]) (jS (jR [jc 4 0]) .ret)) .skip)) (jS (jR [ah 44 0,fA 45 44,gL 46 0 45,gD 47 1 46,.op (some 48) (.capa (.t 47)) none,ah 8 48]) (jS (jS (jR [ah 49 1,ah 50 8,HC 51 50 2,ah 52 5,HB 53 51 52,.op (some 54) (.bin .leq (.t 49) (.t 53)) none]) (jC 54 (jD [ah 55 0,fA 56 55,gL 57 0 56,tL 58 1 57,ah 59 0,fA 60 59,gL 61 0 60,tL 62 1 61,ah 63 0,fA 64 63,gL 65 1 64,tL 66 1 65,J2 67 1 62 66,.op (some 68) (.copyX 5 1 (.t 58) (.t 67)) none]) (jS (jR [ah 69 8,ah 70 8,.op (some 71) (.bin .sub (.c (.int .i64 9223372036854775807)) (.t 70)) none,ah 72 1,HB 73 71 72,.op (some 74) (.bin .gtr (.t 69) (.t 73)) none]) (jC 74 (jR [.op (some 75) (.dead) none,.op none (.pan (.t 75)) none]) (.regX [.op (some 76) (.mov (.t 0)) none,.op (some 77) (.mov (.t 0)) none,.op (some 78) (.nilck (.t 77)) none,.op (some 79) (.fieldA 0 (.t 78)) none,.op (some 80) (.loadD false 1 (.t 79)) none,.op (some 81) (.mov (.t 0)) none,.op (some 82) (.nilck (.t 81)) none,.op (some 83) (.fieldA 1 (.t 82)) none,.op (some 84) (.loadD false 1 (.t 83)) none,.op (some 85) (.slc 1 (.t 80) (some (.t 84)) none) none,.op (some 86) (.mov (.t 0)) none,.op (some 87) (.nilck (.t 86)) none,.op (some 88) (.fieldA 1 (.t 87)) none,.op (some 89) (.loadD false 1 (.t 88)) none,.op (some 90) (.mov (.t 1)) none,.op (some 91) (.bin .add (.t 89) (.t 90)) none,.pc (some 92) (.call 63 [(.t 85),(.t 91)]) none,.op (some 93) (.nilck (.t 76)) none,.op (some 94) (.fieldA 0 (.t 93)) none,.op none (.storeD 1 (.t 94) (.t 92)) none]))))) (jS (jR [ah 95 0,fA 96 95,gL 97 1 96,JY 1 97 0]) (jS (jR [ah 98 0,ah 99 0,fA 100 99,gL 101 0 100,gD 102 1 101,ah 103 5,ah 104 1,HF 105 103 104,JZ 106 1 102 105,fA 107 98,gL 108 0 107,eM 1 108 106]) (jS (jR [ah 109 5,ah 4 109]) .ret))))))))))
def T9:cQ:={n:=110,own:=[],frz:=[],ord:=[(12,.range 14,[[],[0],[0,1],[0,1,2],[],[4],[4,5],[4,5,6],[],[8],[8,9],[8,9,10],[4,5,6,7,8,9,10,11],.range 13]),(15,.range 20,[[],[],[1],[1,2],[1,2,3],[],[5],[5,6],[5,6,7],[1,2,3,4,5,6,7,8],[],[10],[10,11],[10,11,12],[],[10,11,12,13,14],[1,2,3,4,5,6,7,8,9,10,11,12,13,14,15],.range 17,.range 18,.range 19])],co:=[68],px:=[92]}
theorem DL:aD Tryd.prog T9 Tryd.f44=some (TY,110,[(4,none)],false):=by kernel_rfl
def Ua:aJ:=(jS (jS (.regX [.op (some 8) (.mov (.t 0)) none,.op (some 9) (.mov (.t 1)) none,.op (some 10) (.nilck (.t 9)) none,.op (some 11) (.loadD false 1 (.t 10)) none,.op (some 12) (.len (.t 11)) none,.op (some 13) (.mkmv "leasehold/snapshot.size" (.t 8)) none,.op (some 14) (.nilck (.t 13)) none,.op (some 15) (.mov (.t 8)) none,.pc (some 16) (.callV (.mt "leasehold/snapshot.size" 15) [(.t 12)]) none,.op (some 6) (.mov (.t 16)) none]) (jS (jR [ah 17 6,ah 18 1,fA 19 18,gD 20 1 19,gB 21 20,mM 22 17 21]) (jC 22 (jR [ah 23 1,ah 24 6,.op (some 25) (.makeS 92 10 128 [(.bool false),(.int .i64 0),(.int .i64 0),(.int .i64 0),(.int .i64 0),(.int .i64 0),(.slice none 0 0),(.bool false),(.slice none 0 0),(.slice none 0 0)] (.t 24) (.t 24)) none,fA 26 23,eM 1 26 25]) .skip))) (jS (jR [ah 27 1,fA 28 27,gD 29 1 28,gB 30 29,jc 31 0]) (jB 0 (jL [32,33,7,34,35,36,37,38,39,40,41,42,31] (jS (jR [jz 32 31 30]) (jS (jC 32 .skip (jX 0)) (jS (jB 1 (jS (jR [ah 33 31,ah 7 33]) (jR [ah 34 2,ah 35 0,ah 36 1,fA 37 36,gD 38 1 37,ah 39 7,gN 40 10 38 39,xP 41 34 35 40]))) (jR [gM 42 31 1,ah 31 42]))))))))
def Ub:cQ:={n:=43,own:=[],frz:=[],ord:=[(0,.range 10,[[],[],[1],[1,2],[1,2,3],[0],[0,5],[0,5,6],.range 8,.range 9])],pan:=[(6,7)],px:=[16]}
theorem DM:aD Tryd.prog Ub Tryd.f45=some (Ua,43,[],false):=by kernel_rfl
def Uc:aJ:=(jS (jR [ah 4 0,ah 5 1,fA 6 5,gL 7 0 6,tM 8 140 1 1 7,xO 9 64 4 8]) (jS (jR [ah 10 0,ah 11 1,fA 12 11,gL 13 1 12,tM 14 122 1 1 13,xO 15 55 10 14]) (jR [ah 16 0,ah 17 1,fA 18 17,gL 19 2 18,xO 20 65 16 19])))
def Ud:cQ:={n:=21,own:=[],frz:=[],ord:=[],pan:=[(0,5),(1,5),(2,4)]}
theorem DN:aD Tryd.prog Ud Tryd.f46=some (Uc,21,[],false):=by kernel_rfl
def Ue:aJ:=(jS (jS (.regX [.op (some 8) (.mov (.t 0)) none,.op (some 9) (.mov (.t 1)) none,.op (some 10) (.nilck (.t 9)) none,.op (some 11) (.loadD false 1 (.t 10)) none,.op (some 12) (.len (.t 11)) none,.op (some 13) (.mkmv "leasehold/snapshot.size" (.t 8)) none,.op (some 14) (.nilck (.t 13)) none,.op (some 15) (.mov (.t 8)) none,.pc (some 16) (.callV (.mt "leasehold/snapshot.size" 15) [(.t 12)]) none,.op (some 6) (.mov (.t 16)) none]) (jS (jR [ah 17 6,ah 18 1,fA 19 18,gD 20 1 19,gB 21 20,mM 22 17 21]) (jC 22 (jR [ah 23 1,ah 24 6,.op (some 25) (.makeS 4 1 1 [(.bool false)] (.t 24) (.t 24)) none,fA 26 23,eM 1 26 25]) .skip))) (jS (jR [ah 27 1,fA 28 27,gD 29 1 28,gB 30 29,jc 31 0]) (jB 0 (jL [32,33,7,34,35,36,37,38,39,40,41,42,31] (jS (jR [jz 32 31 30]) (jS (jC 32 .skip (jX 0)) (jS (jB 1 (jS (jR [ah 33 31,ah 7 33]) (jR [ah 34 2,ah 35 0,ah 36 1,fA 37 36,gD 38 1 37,ah 39 7,gN 40 1 38 39,xP 41 34 35 40]))) (jR [gM 42 31 1,ah 31 42]))))))))
def Uf:cQ:={n:=43,own:=[],frz:=[],ord:=[(0,.range 10,[[],[],[1],[1,2],[1,2,3],[0],[0,5],[0,5,6],.range 8,.range 9])],pan:=[(6,7)],px:=[16]}
theorem DP:aD Tryd.prog Uf Tryd.f47=some (Ue,43,[],false):=by kernel_rfl
def Ug:aJ:=(jR [ah 4 0,ah 5 1,tM 6 140 1 1 5,xO 7 64 4 6])
def Uh:cQ:={n:=8,own:=[],frz:=[],ord:=[],pan:=[(0,3)]}
theorem DQ:aD Tryd.prog Uh Tryd.f48=some (Ug,8,[],false):=by kernel_rfl
def c49:aJ:=(jS (jS (.regX [.op (some 8) (.mov (.t 0)) none,.op (some 9) (.mov (.t 1)) none,.op (some 10) (.nilck (.t 9)) none,.op (some 11) (.loadD false 1 (.t 10)) none,.op (some 12) (.len (.t 11)) none,.op (some 13) (.mkmv "leasehold/snapshot.size" (.t 8)) none,.op (some 14) (.nilck (.t 13)) none,.op (some 15) (.mov (.t 8)) none,.pc (some 16) (.callV (.mt "leasehold/snapshot.size" 15) [(.t 12)]) none,.op (some 6) (.mov (.t 16)) none]) (jS (jR [ah 17 6,ah 18 1,fA 19 18,gD 20 1 19,gB 21 20,mM 22 17 21]) (jC 22 (jR [ah 23 1,ah 24 6,.op (some 25) (.makeS 88 7 104 [(.int .i64 0),(.slice none 0 0),(.slice none 0 0),(.int .i64 0),(.int .i64 0),(.int .i64 0),(.slice none 0 0)] (.t 24) (.t 24)) none,fA 26 23,eM 1 26 25]) .skip))) (jS (jR [ah 27 1,fA 28 27,gD 29 1 28,gB 30 29,jc 31 0]) (jB 0 (jL [32,33,7,34,35,36,37,38,39,40,41,42,31] (jS (jR [jz 32 31 30]) (jS (jC 32 .skip (jX 0)) (jS (jB 1 (jS (jR [ah 33 31,ah 7 33]) (jR [ah 34 2,ah 35 0,ah 36 1,fA 37 36,gD 38 1 37,ah 39 7,gN 40 7 38 39,xP 41 34 35 40]))) (jR [gM 42 31 1,ah 31 42]))))))))
def Ui:cQ:={n:=43,own:=[],frz:=[],ord:=[(0,.range 10,[[],[],[1],[1,2],[1,2,3],[0],[0,5],[0,5,6],.range 8,.range 9])],pan:=[(6,7)],px:=[16]}
theorem DR:aD Tryd.prog Ui Tryd.f49=some (c49,43,[],false):=by kernel_rfl
def Uj:aJ:=(jS (jR [ah 4 0,ah 5 1,fA 6 5,gL 7 0 6,tM 8 122 1 1 7,xO 9 55 4 8]) (jS (jR [ah 10 0,ah 11 1,fA 12 11,gL 13 1 12,uH 14 66 10 13 67]) (jS (jR [ah 15 0,ah 16 1,fA 17 16,gL 18 2 17,uH 19 68 15 18 69]) (jS (.regX [.op (some 20) (.mov (.t 0)) none,.op (some 21) (.mov (.t 1)) none,.op (some 22) (.nilck (.t 21)) none,.op (some 23) (.fieldA 3 (.t 22)) none,.op (some 24) (.mov (.t 1)) none,.op (some 25) (.nilck (.t 24)) none,.op (some 26) (.fieldA 4 (.t 25)) none,.op (some 27) (.mov (.t 1)) none,.op (some 28) (.nilck (.t 27)) none,.op (some 29) (.fieldA 5 (.t 28)) none,.op (some 30) (.mkFD 122 3 1 [(.t 23),(.t 26),(.t 29)]) none,.pc (some 31) (.call 55 [(.t 20),(.t 30)]) none]) (jR [ah 32 0,ah 33 1,fA 34 33,gL 35 6 34,uH 36 70 32 35 71])))))
def Uk:cQ:={n:=37,own:=[],frz:=[],ord:=[(3,.range 12,[[],[],[1],[1,2],[],[4],[4,5],[],[7],[7,8],[1,2,3,4,5,6,7,8,9],.range 11])],pan:=[(0,5),(1,4),(2,4),(4,4)],px:=[31]}
theorem DS:aD Tryd.prog Uk Tryd.f50=some (Uj,37,[],false):=by kernel_rfl
def c51:aJ:=(jS (jS (.regX [.op (some 8) (.mov (.t 0)) none,.op (some 9) (.mov (.t 1)) none,.op (some 10) (.nilck (.t 9)) none,.op (some 11) (.loadD false 1 (.t 10)) none,.op (some 12) (.len (.t 11)) none,.op (some 13) (.mkmv "leasehold/snapshot.size" (.t 8)) none,.op (some 14) (.nilck (.t 13)) none,.op (some 15) (.mov (.t 8)) none,.pc (some 16) (.callV (.mt "leasehold/snapshot.size" 15) [(.t 12)]) none,.op (some 6) (.mov (.t 16)) none]) (jS (jR [ah 17 6,ah 18 1,fA 19 18,gD 20 1 19,gB 21 20,mM 22 17 21]) (jC 22 (jR [ah 23 1,ah 24 6,.op (some 25) (.makeS 78 1 24 [(.slice none 0 0)] (.t 24) (.t 24)) none,fA 26 23,eM 1 26 25]) .skip))) (jS (jR [ah 27 1,fA 28 27,gD 29 1 28,gB 30 29,jc 31 0]) (jB 0 (jL [32,33,7,34,35,36,37,38,39,40,41,42,31] (jS (jR [jz 32 31 30]) (jS (jC 32 .skip (jX 0)) (jS (jB 1 (jS (jR [ah 33 31,ah 7 33]) (jR [ah 34 2,ah 35 0,ah 36 1,fA 37 36,gD 38 1 37,ah 39 7,gN 40 1 38 39,xP 41 34 35 40]))) (jR [gM 42 31 1,ah 31 42]))))))))
def Ul:cQ:={n:=43,own:=[],frz:=[],ord:=[(0,.range 10,[[],[],[1],[1,2],[1,2,3],[0],[0,5],[0,5,6],.range 8,.range 9])],pan:=[(6,7)],px:=[16]}
theorem DT:aD Tryd.prog Ul Tryd.f51=some (c51,43,[],false):=by kernel_rfl
def Um:aJ:=(jR [ah 4 0,ah 5 1,uH 6 72 4 5 65])
def Un:cQ:={n:=7,own:=[],frz:=[],ord:=[],pan:=[(0,2)]}
theorem DU:aD Tryd.prog Un Tryd.f52=some (Um,7,[],false):=by kernel_rfl
def Uo:aJ:=(jS (jS (.regX [.op (some 8) (.mov (.t 0)) none,.op (some 9) (.mov (.t 1)) none,.op (some 10) (.nilck (.t 9)) none,.op (some 11) (.loadD false 1 (.t 10)) none,.op (some 12) (.len (.t 11)) none,.op (some 13) (.mkmv "leasehold/snapshot.size" (.t 8)) none,.op (some 14) (.nilck (.t 13)) none,.op (some 15) (.mov (.t 8)) none,.pc (some 16) (.callV (.mt "leasehold/snapshot.size" 15) [(.t 12)]) none,.op (some 6) (.mov (.t 16)) none]) (jS (jR [ah 17 6,ah 18 1,fA 19 18,gD 20 1 19,gB 21 20,mM 22 17 21]) (jC 22 (jR [ah 23 1,ah 24 6,.op (some 25) (.makeS 90 2 16 [(.int .i64 0),(.int .i64 0)] (.t 24) (.t 24)) none,fA 26 23,eM 1 26 25]) .skip))) (jS (jR [ah 27 1,fA 28 27,gD 29 1 28,gB 30 29,jc 31 0]) (jB 0 (jL [32,33,7,34,35,36,37,38,39,40,41,42,31] (jS (jR [jz 32 31 30]) (jS (jC 32 .skip (jX 0)) (jS (jB 1 (jS (jR [ah 33 31,ah 7 33]) (jR [ah 34 2,ah 35 0,ah 36 1,fA 37 36,gD 38 1 37,ah 39 7,gN 40 2 38 39,xP 41 34 35 40]))) (jR [gM 42 31 1,ah 31 42]))))))))
def Uq:cQ:={n:=43,own:=[],frz:=[],ord:=[(0,.range 10,[[],[],[1],[1,2],[1,2,3],[0],[0,5],[0,5,6],.range 8,.range 9])],pan:=[(6,7)],px:=[16]}
theorem DV:aD Tryd.prog Uq Tryd.f53=some (Uo,43,[],false):=by kernel_rfl
def Ur:aJ:=(.regX [.op (some 4) (.mov (.t 0)) none,.op (some 5) (.mov (.t 1)) none,.op (some 6) (.nilck (.t 5)) none,.op (some 7) (.fieldA 0 (.t 6)) none,.op (some 8) (.mov (.t 1)) none,.op (some 9) (.nilck (.t 8)) none,.op (some 10) (.fieldA 1 (.t 9)) none,.op (some 11) (.mkFD 122 2 1 [(.t 7),(.t 10)]) none,.pc (some 12) (.call 55 [(.t 4),(.t 11)]) none])
def Us:cQ:={n:=13,own:=[],frz:=[],ord:=[(0,.range 9,[[],[],[1],[1,2],[],[4],[4,5],[1,2,3,4,5,6],.range 8])],px:=[12]}
theorem DW:aD Tryd.prog Us Tryd.f54=some (Ur,13,[],false):=by kernel_rfl
def Ut:aJ:=(jS (jR [ah 6 1,gB 7 6,jc 8 0]) (jB 0 (jL [9,10,11,5,12,13,14,15,8] (jS (jR [jz 9 8 7]) (jS (jC 9 .skip (jX 0)) (jS (jB 1 (jS (jR [gN 10 1 6 8,gD 11 1 10,ah 5 11]) (jR [ah 12 0,ah 13 5,.pc (some 14) (.callV (.mt "leasehold/snapshot.num" 12) [(.t 13)]) none]))) (jR [gM 15 8 1,ah 8 15])))))))
def Uu:cQ:={n:=16,own:=[],frz:=[],ord:=[],pan:=[(3,2)]}
theorem DX:aD Tryd.prog Uu Tryd.f55=some (Ut,16,[],false):=by kernel_rfl
def Uv:aJ:=(jS (jR [m7 2 0 0]) (jS (jS (jR [ah 3 0,.op (some 4) (.eqS false (.t 3) (.c (.slice none 0 0))) none]) (jC 4 (jS (jR [m7 2 0 0]) .ret) .skip)) (jS (jR [.op (some 5) (.mkR 5 0 1 []) none,ah 6 0,z5 7 5 1 1 0 5 6,ah 2 7]) .ret)))
def Uw:cQ:={n:=8,own:=[5],frz:=[],ord:=[]}
theorem DY:aD Tryd.prog Uw Tryd.f56=some (Uv,8,[(2,none)],false):=by kernel_rfl
def Ux:aJ:=(jS (jR [jJ 6]) (jS (jR [ah 7 0,ah 8 1,ah 9 2,BH 10 73 7 8 9,ah 6 10]) .ret))
def Uy:cQ:={n:=11,own:=[],frz:=[],ord:=[]}
theorem KD:aD Tryd.prog Uy Tryd.f57=some (Ux,11,[(6,none)],false):=by kernel_rfl
def Uz:aJ:=(jS (jR [lD 2 127 0,lD 3 127 1,jJ 4]) (jS (jR [gL 5 0 2,gD 6 1 5,gL 7 0 3,gD 8 1 7,z6 9 6 8,ah 10 9,iB 11 1 2 10,jI 12 1 11 10,iB 13 1 3 10,jI 14 1 13 10,oH 15 12 14 10,jb 16 10 15,ah 17 16,iB 18 2 2 17,jI 19 1 18 17,iB 20 2 3 17,jI 21 1 20 17,oH 22 19 21 17,jb 23 17 22,ah 24 23,iB 25 4 2 24,jI 26 1 25 24,iB 27 4 3 24,jI 28 1 27 24,oH 29 26 28 24,jb 30 24 29,ah 31 30,iB 32 3 2 31,jI 33 1 32 31,iB 34 3 3 31,jI 35 1 34 31,z7 36 74 33 35 75 31,jb 37 31 36,ah 4 37]) .ret))
def UA:cQ:={n:=38,own:=[2,3],frz:=[],ord:=[]}
theorem KE:aD Tryd.prog UA Tryd.f58=some (Uz,38,[(4,none)],false):=by kernel_rfl
def UB:aJ:=(jS (jR [jJ 6]) (jS (jR [ah 7 0,ah 8 1,ah 9 2,BH 10 78 7 8 9,ah 6 10]) .ret))
def UC:cQ:={n:=11,own:=[],frz:=[],ord:=[]}
theorem KF:aD Tryd.prog UC Tryd.f59=some (UB,11,[(6,none)],false):=by kernel_rfl
def UD:aJ:=(jS (jR [lD 2 136 0,lD 3 136 1,jJ 4]) (jS (jR [gL 5 0 2,gD 6 1 5,gL 7 0 3,gD 8 1 7,z6 9 6 8,ah 10 9,iB 11 1 2 10,jI 12 1 11 10,iB 13 1 3 10,jI 14 1 13 10,z7 15 76 12 14 77 10,jb 16 10 15,ah 17 16,iB 18 2 2 17,J4 19 3 18 17,iB 20 2 3 17,J4 21 3 20 17,BG 22 77 19 21 17,jb 23 17 22,ah 24 23,iB 25 5 2 24,jI 26 1 25 24,iB 27 5 3 24,jI 28 1 27 24,BG 29 79 26 28 24,jb 30 24 29,ah 31 30,iB 32 6 2 31,jI 33 1 32 31,iB 34 6 3 31,jI 35 1 34 31,oH 36 33 35 31,jb 37 31 36,ah 38 37,iB 39 7 2 38,jI 40 1 39 38,iB 41 7 3 38,jI 42 1 41 38,z7 43 80 40 42 81 38,jb 44 38 43,ah 45 44,iB 46 8 2 45,jI 47 1 46 45,iB 48 8 3 45,jI 49 1 48 45,z7 50 82 47 49 83 45,jb 51 45 50,ah 4 51]) .ret))
def UE:cQ:={n:=52,own:=[2,3],frz:=[],ord:=[]}
theorem KG:aD Tryd.prog UE Tryd.f60=some (UD,52,[(4,none)],false):=by kernel_rfl
def UF:aJ:=(jS (jR [jc 2 0]) (jS (jD [ah 3 0,fA 4 3,gL 5 0 4,tL 6 1 5,gB 7 6,ah 8 0,fA 9 8,gL 10 1 9,tL 11 1 10,HB 12 7 11,ah 2 12]) .ret))
def UG:cQ:={n:=13,own:=[],frz:=[],ord:=[(1,.range 11,[[],[0],[0,1],[0,1,2],.range 4,[],[5],[5,6],[5,6,7],.range 9,.range 10])]}
theorem KH:aD Tryd.prog UG Tryd.f61=some (UF,13,[(2,none)],false):=by kernel_rfl
def UH:aJ:=(jS (jR [ah 7 1,gB 8 7,jc 9 0]) (jB 0 (jL [10,11,12,5,6,13,14,15,16,17,18,19,20,21,22,23,24,25,26,27,28,29,9] (jS (jR [jz 10 9 8]) (jS (jC 10 .skip (jX 0)) (jS (jB 1 (jS (jR [gN 11 1 7 9,gD 12 1 11,ah 5 12]) (jS (jR [Nm 6 3 0,JY 1 6 0]) (jS (jS (jR [ah 13 5,fA 14 13,gD 15 1 14]) (jC 15 (jR [JY 1 6 1]) .skip)) (jS (jR [ah 16 0,.pc (some 17) (.callV (.mt "leasehold/snapshot.num" 16) [(.t 6)]) none]) (jS (jR [gD 18 1 6,J3 19 18 0,ah 20 19,Nn 21 1 6 20,OU 22 21 1 20,tK 23 20 22,qd 24 36 23]) (jR [ah 25 5,gD 26 1 6,J3 27 26 1,fA 28 25,eM 1 28 27]))))))) (jR [gM 29 9 1,ah 9 29])))))))
def UI:cQ:={n:=30,own:=[],frz:=[],ord:=[],pan:=[(6,1),(7,6)]}
theorem DZ:aD Tryd.prog UI Tryd.f64=some (UH,30,[],false):=by kernel_rfl
def UJ:aJ:=(jR [Nk 4 85 60,ah 5 0,ah 6 1,xP 7 4 5 6])
def UK:cQ:={n:=8,own:=[],frz:=[],ord:=[],pan:=[(0,3)]}
theorem D3:aD Tryd.prog UK Tryd.f65=some (UJ,8,[],false):=by kernel_rfl
def UL:aJ:=(jS (jS (.regX [.op (some 8) (.mov (.t 0)) none,.op (some 9) (.mov (.t 1)) none,.op (some 10) (.nilck (.t 9)) none,.op (some 11) (.loadD false 1 (.t 10)) none,.op (some 12) (.len (.t 11)) none,.op (some 13) (.mkmv "leasehold/snapshot.size" (.t 8)) none,.op (some 14) (.nilck (.t 13)) none,.op (some 15) (.mov (.t 8)) none,.pc (some 16) (.callV (.mt "leasehold/snapshot.size" 15) [(.t 12)]) none,.op (some 6) (.mov (.t 16)) none]) (jS (jR [ah 17 6,ah 18 1,fA 19 18,gD 20 1 19,gB 21 20,mM 22 17 21]) (jC 22 (jR [ah 23 1,ah 24 6,.op (some 25) (.makeS 82 7 88 [(.int .i64 0),(.int .i64 0),(.int .i64 0),(.int .i64 0),(.int .i64 0),(.slice none 0 0),(.slice none 0 0)] (.t 24) (.t 24)) none,fA 26 23,eM 1 26 25]) .skip))) (jS (jR [ah 27 1,fA 28 27,gD 29 1 28,gB 30 29,jc 31 0]) (jB 0 (jL [32,33,7,34,35,36,37,38,39,40,41,42,31] (jS (jR [jz 32 31 30]) (jS (jC 32 .skip (jX 0)) (jS (jB 1 (jS (jR [ah 33 31,ah 7 33]) (jR [ah 34 2,ah 35 0,ah 36 1,fA 37 36,gD 38 1 37,ah 39 7,gN 40 7 38 39,xP 41 34 35 40]))) (jR [gM 42 31 1,ah 31 42]))))))))
def UM:cQ:={n:=43,own:=[],frz:=[],ord:=[(0,.range 10,[[],[],[1],[1,2],[1,2,3],[0],[0,5],[0,5,6],.range 8,.range 9])],pan:=[(6,7)],px:=[16]}
theorem D4:aD Tryd.prog UM Tryd.f66=some (UL,43,[],false):=by kernel_rfl
def UN:aJ:=(jS (.regX [.op (some 4) (.mov (.t 0)) none,.op (some 5) (.mov (.t 1)) none,.op (some 6) (.nilck (.t 5)) none,.op (some 7) (.fieldA 0 (.t 6)) none,.op (some 8) (.mov (.t 1)) none,.op (some 9) (.nilck (.t 8)) none,.op (some 10) (.fieldA 1 (.t 9)) none,.op (some 11) (.mov (.t 1)) none,.op (some 12) (.nilck (.t 11)) none,.op (some 13) (.fieldA 2 (.t 12)) none,.op (some 14) (.mov (.t 1)) none,.op (some 15) (.nilck (.t 14)) none,.op (some 16) (.fieldA 3 (.t 15)) none,.op (some 17) (.mov (.t 1)) none,.op (some 18) (.nilck (.t 17)) none,.op (some 19) (.fieldA 4 (.t 18)) none,.op (some 20) (.mkFD 122 5 1 [(.t 7),(.t 10),(.t 13),(.t 16),(.t 19)]) none,.pc (some 21) (.call 55 [(.t 4),(.t 20)]) none]) (jS (jR [ah 22 0,ah 23 1,fA 24 23,gL 25 5 24,xO 26 52 22 25]) (jR [ah 27 0,ah 28 1,fA 29 28,gL 30 6 29,uH 31 70 27 30 71])))
def UO:cQ:={n:=32,own:=[],frz:=[],ord:=[(0,.range 18,[[],[],[1],[1,2],[],[4],[4,5],[],[7],[7,8],[],[10],[10,11],[],[13],[13,14],[1,2,3,4,5,6,7,8,9,10,11,12,13,14,15],.range 17])],pan:=[(1,4),(2,4)],px:=[21]}
theorem D5:aD Tryd.prog UO Tryd.f67=some (UN,32,[],false):=by kernel_rfl
def UQ:aJ:=(jS (jS (.regX [.op (some 8) (.mov (.t 0)) none,.op (some 9) (.mov (.t 1)) none,.op (some 10) (.nilck (.t 9)) none,.op (some 11) (.loadD false 1 (.t 10)) none,.op (some 12) (.len (.t 11)) none,.op (some 13) (.mkmv "leasehold/snapshot.size" (.t 8)) none,.op (some 14) (.nilck (.t 13)) none,.op (some 15) (.mov (.t 8)) none,.pc (some 16) (.callV (.mt "leasehold/snapshot.size" 15) [(.t 12)]) none,.op (some 6) (.mov (.t 16)) none]) (jS (jR [ah 17 6,ah 18 1,fA 19 18,gD 20 1 19,gB 21 20,mM 22 17 21]) (jC 22 (jR [ah 23 1,ah 24 6,.op (some 25) (.makeS 85 5 24 [(.int .i64 0),(.int .i64 0),(.bool false),(.bool false),(.bool false)] (.t 24) (.t 24)) none,fA 26 23,eM 1 26 25]) .skip))) (jS (jR [ah 27 1,fA 28 27,gD 29 1 28,gB 30 29,jc 31 0]) (jB 0 (jL [32,33,7,34,35,36,37,38,39,40,41,42,31] (jS (jR [jz 32 31 30]) (jS (jC 32 .skip (jX 0)) (jS (jB 1 (jS (jR [ah 33 31,ah 7 33]) (jR [ah 34 2,ah 35 0,ah 36 1,fA 37 36,gD 38 1 37,ah 39 7,gN 40 5 38 39,xP 41 34 35 40]))) (jR [gM 42 31 1,ah 31 42]))))))))
def UR:cQ:={n:=43,own:=[],frz:=[],ord:=[(0,.range 10,[[],[],[1],[1,2],[1,2,3],[0],[0,5],[0,5,6],.range 8,.range 9])],pan:=[(6,7)],px:=[16]}
theorem D6:aD Tryd.prog UR Tryd.f68=some (UQ,43,[],false):=by kernel_rfl
def UU:aJ:=(jS (.regX [.op (some 4) (.mov (.t 0)) none,.op (some 5) (.mov (.t 1)) none,.op (some 6) (.nilck (.t 5)) none,.op (some 7) (.fieldA 0 (.t 6)) none,.op (some 8) (.mov (.t 1)) none,.op (some 9) (.nilck (.t 8)) none,.op (some 10) (.fieldA 1 (.t 9)) none,.op (some 11) (.mkFD 122 2 1 [(.t 7),(.t 10)]) none,.pc (some 12) (.call 55 [(.t 4),(.t 11)]) none]) (.regX [.op (some 13) (.mov (.t 0)) none,.op (some 14) (.mov (.t 1)) none,.op (some 15) (.nilck (.t 14)) none,.op (some 16) (.fieldA 2 (.t 15)) none,.op (some 17) (.mov (.t 1)) none,.op (some 18) (.nilck (.t 17)) none,.op (some 19) (.fieldA 3 (.t 18)) none,.op (some 20) (.mov (.t 1)) none,.op (some 21) (.nilck (.t 20)) none,.op (some 22) (.fieldA 4 (.t 21)) none,.op (some 23) (.mkFD 140 3 1 [(.t 16),(.t 19),(.t 22)]) none,.pc (some 24) (.call 64 [(.t 13),(.t 23)]) none]))
def UW:cQ:={n:=25,own:=[],frz:=[],ord:=[(0,.range 9,[[],[],[1],[1,2],[],[4],[4,5],[1,2,3,4,5,6],.range 8]),(1,.range 12,[[],[],[1],[1,2],[],[4],[4,5],[],[7],[7,8],[1,2,3,4,5,6,7,8,9],.range 11])],px:=[12,24]}
theorem D7:aD Tryd.prog UW Tryd.f69=some (UU,25,[],false):=by kernel_rfl
def UX:aJ:=(jS (jS (.regX [.op (some 8) (.mov (.t 0)) none,.op (some 9) (.mov (.t 1)) none,.op (some 10) (.nilck (.t 9)) none,.op (some 11) (.loadD false 1 (.t 10)) none,.op (some 12) (.len (.t 11)) none,.op (some 13) (.mkmv "leasehold/snapshot.size" (.t 8)) none,.op (some 14) (.nilck (.t 13)) none,.op (some 15) (.mov (.t 8)) none,.pc (some 16) (.callV (.mt "leasehold/snapshot.size" 15) [(.t 12)]) none,.op (some 6) (.mov (.t 16)) none]) (jS (jR [ah 17 6,ah 18 1,fA 19 18,gD 20 1 19,gB 21 20,mM 22 17 21]) (jC 22 (jR [ah 23 1,ah 24 6,.op (some 25) (.makeS 3 1 8 [(.int .i64 0)] (.t 24) (.t 24)) none,fA 26 23,eM 1 26 25]) .skip))) (jS (jR [ah 27 1,fA 28 27,gD 29 1 28,gB 30 29,jc 31 0]) (jB 0 (jL [32,33,7,34,35,36,37,38,39,40,41,42,31] (jS (jR [jz 32 31 30]) (jS (jC 32 .skip (jX 0)) (jS (jB 1 (jS (jR [ah 33 31,ah 7 33]) (jR [ah 34 2,ah 35 0,ah 36 1,fA 37 36,gD 38 1 37,ah 39 7,gN 40 1 38 39,xP 41 34 35 40]))) (jR [gM 42 31 1,ah 31 42]))))))))
def UY:cQ:={n:=43,own:=[],frz:=[],ord:=[(0,.range 10,[[],[],[1],[1,2],[1,2,3],[0],[0,5],[0,5,6],.range 8,.range 9])],pan:=[(6,7)],px:=[16]}
theorem D8:aD Tryd.prog UY Tryd.f70=some (UX,43,[],false):=by kernel_rfl
def UZ:aJ:=(jR [ah 4 0,ah 5 1,.pc (some 6) (.callV (.mt "leasehold/snapshot.num" 4) [(.t 5)]) none])
def U0:cQ:={n:=7,own:=[],frz:=[],ord:=[],pan:=[(0,2)]}
theorem D9:aD Tryd.prog U0 Tryd.f71=some (UZ,7,[],false):=by kernel_rfl
def U1:aJ:=(jS (jS (.regX [.op (some 8) (.mov (.t 0)) none,.op (some 9) (.mov (.t 1)) none,.op (some 10) (.nilck (.t 9)) none,.op (some 11) (.loadD false 1 (.t 10)) none,.op (some 12) (.len (.t 11)) none,.op (some 13) (.mkmv "leasehold/snapshot.size" (.t 8)) none,.op (some 14) (.nilck (.t 13)) none,.op (some 15) (.mov (.t 8)) none,.pc (some 16) (.callV (.mt "leasehold/snapshot.size" 15) [(.t 12)]) none,.op (some 6) (.mov (.t 16)) none]) (jS (jR [ah 17 6,ah 18 1,fA 19 18,gD 20 1 19,gB 21 20,mM 22 17 21]) (jC 22 (jR [ah 23 1,ah 24 6,.op (some 25) (.makeS 80 8 112 [(.int .i64 0),(.int .i64 0),(.int .i64 0),(.int .i64 0),(.slice none 0 0),(.bool false),(.slice none 0 0),(.slice none 0 0)] (.t 24) (.t 24)) none,fA 26 23,eM 1 26 25]) .skip))) (jS (jR [ah 27 1,fA 28 27,gD 29 1 28,gB 30 29,jc 31 0]) (jB 0 (jL [32,33,7,34,35,36,37,38,39,40,41,42,31] (jS (jR [jz 32 31 30]) (jS (jC 32 .skip (jX 0)) (jS (jB 1 (jS (jR [ah 33 31,ah 7 33]) (jR [ah 34 2,ah 35 0,ah 36 1,fA 37 36,gD 38 1 37,ah 39 7,gN 40 8 38 39,xP 41 34 35 40]))) (jR [gM 42 31 1,ah 31 42]))))))))
def U2:cQ:={n:=43,own:=[],frz:=[],ord:=[(0,.range 10,[[],[],[1],[1,2],[1,2,3],[0],[0,5],[0,5,6],.range 8,.range 9])],pan:=[(6,7)],px:=[16]}
theorem uZ:aD Tryd.prog U2 Tryd.f72=some (U1,43,[],false):=by kernel_rfl
def U3:aJ:=(jS (jR [jJ 6]) (jS (jS (jR [ah 10 0,gB 11 10,ah 12 1,gB 13 12,mM 14 11 13]) (jC 14 (jS (jR [jJ 6]) .ret) .skip)) (jS (jS (jR [ah 15 0,gB 16 15,jc 17 0]) (jB 0 (jL [18,19,20,21,8,7,22,23,24,25,9,26,27,28,29,30,6,31,17] (jS (jR [jz 18 17 16]) (jS (jC 18 .skip (jX 0)) (jS (jB 1 (jS (jR [ah 19 17,gN 20 5 15 17,iH 21 5 20,OV 8 127 0 0 0 0 0,ah 7 19,eM 5 8 21]) (jS (jR [ah 22 1,ah 23 7,gN 24 5 22 23,iH 25 5 24,OV 9 127 0 0 0 0 0,eM 5 9 25]) (jS (jR [ah 26 2,iH 27 5 8,iH 28 5 9,BI 29 26 27 28,oW 30 29]) (jC 30 (jS (jR [jJ 6]) .ret) .skip))))) (jR [gM 31 17 1,ah 17 31]))))))) (jS (jR [wH 6]) .ret))))
def U4:cQ:={n:=32,own:=[],frz:=[],ord:=[]}
theorem KI:aD Tryd.prog U4 Tryd.f73=some (U3,32,[(6,none)],false):=by kernel_rfl
def U5:aJ:=(jS (jR [jJ 6]) (jS (jR [ah 7 0,ah 8 1,ah 9 2,BH 10 86 7 8 9,ah 6 10]) .ret))
def U6:cQ:={n:=11,own:=[],frz:=[],ord:=[]}
theorem KJ:aD Tryd.prog U6 Tryd.f74=some (U5,11,[(6,none)],false):=by kernel_rfl
def U7:aJ:=(jS (jR [lD 2 159 0,lD 3 159 1,jJ 4]) (jS (jR [gL 5 0 2,gD 6 1 5,gL 7 0 3,gD 8 1 7,z6 9 6 8,ah 10 9,iB 11 1 2 10,jI 12 1 11 10,iB 13 1 3 10,jI 14 1 13 10,z7 15 76 12 14 77 10,jb 16 10 15,ah 4 16]) .ret))
def U8:cQ:={n:=17,own:=[2,3],frz:=[],ord:=[]}
theorem KL:aD Tryd.prog U8 Tryd.f75=some (U7,17,[(4,none)],false):=by kernel_rfl
def U9:aJ:=(jS (jR [jJ 6]) (jS (jR [ah 7 0,ah 8 1,ah 9 2,BH 10 87 7 8 9,ah 6 10]) .ret))
def Va:cQ:={n:=11,own:=[],frz:=[],ord:=[]}
theorem KM:aD Tryd.prog Va Tryd.f76=some (U9,11,[(6,none)],false):=by kernel_rfl
def Vb:aJ:=(jS (jR [lD 2 132 0,lD 3 132 1,jJ 4]) (jS (jR [gL 5 0 2,gD 6 1 5,gL 7 0 3,gD 8 1 7,z6 9 6 8,ah 10 9,iB 11 1 2 10,jI 12 1 11 10,iB 13 1 3 10,jI 14 1 13 10,oH 15 12 14 10,jb 16 10 15,ah 17 16,iB 18 2 2 17,jI 19 1 18 17,iB 20 2 3 17,jI 21 1 20 17,z7 22 76 19 21 77 17,jb 23 17 22,ah 4 23]) .ret))
def Vc:cQ:={n:=24,own:=[2,3],frz:=[],ord:=[]}
theorem KN:aD Tryd.prog Vc Tryd.f77=some (Vb,24,[(4,none)],false):=by kernel_rfl
def Ve:aJ:=(jS (jR [jJ 6]) (jS (jS (jR [ah 10 0,gB 11 10,ah 12 1,gB 13 12,mM 14 11 13]) (jC 14 (jS (jR [jJ 6]) .ret) .skip)) (jS (jS (jR [ah 15 0,gB 16 15,jc 17 0]) (jB 0 (jL [18,19,20,21,8,7,22,23,24,25,9,26,27,28,29,30,6,31,17] (jS (jR [jz 18 17 16]) (jS (jC 18 .skip (jX 0)) (jS (jB 1 (jS (jR [ah 19 17,gN 20 9 15 17,iH 21 9 20,OW 8 136 0 0 0 0 0 0 0 0 0 0 0 0 0,ah 7 19,eM 9 8 21]) (jS (jR [ah 22 1,ah 23 7,gN 24 9 22 23,iH 25 9 24,OW 9 136 0 0 0 0 0 0 0 0 0 0 0 0 0,eM 9 9 25]) (jS (jR [ah 26 2,iH 27 9 8,iH 28 9 9,BI 29 26 27 28,oW 30 29]) (jC 30 (jS (jR [jJ 6]) .ret) .skip))))) (jR [gM 31 17 1,ah 17 31]))))))) (jS (jR [wH 6]) .ret))))
def Vf:cQ:={n:=32,own:=[],frz:=[],ord:=[]}
theorem KO:aD Tryd.prog Vf Tryd.f78=some (Ve,32,[(6,none)],false):=by kernel_rfl
def Vg:aJ:=(jS (jR [jJ 4]) (jS (jS (jR [ah 6 0,gB 7 6,ah 8 1,gB 9 8,mM 10 7 9]) (jC 10 (jS (jR [jJ 4]) .ret) .skip)) (jS (jS (jR [ah 11 0,gB 12 11,jc 13 0]) (jB 0 (jL [14,15,5,16,17,18,19,20,21,22,23,24,4,25,13] (jS (jR [jz 14 13 12]) (jS (jC 14 .skip (jX 0)) (jS (jB 1 (jS (jR [ah 15 13,ah 5 15]) (jS (jD [ah 16 0,ah 17 5,gN 18 1 16 17,tL 19 1 18,ah 20 1,ah 21 5,gN 22 1 20 21,tL 23 1 22,mM 24 19 23]) (jC 24 (jS (jR [jJ 4]) .ret) .skip)))) (jR [gM 25 13 1,ah 13 25]))))))) (jS (jR [wH 4]) .ret))))
def Vh:cQ:={n:=26,own:=[],frz:=[],ord:=[(6,.range 9,[[],[],[0,1],[0,1,2],[],[],[4,5],[4,5,6],.range 8])]}
theorem KP:aD Tryd.prog Vh Tryd.f79=some (Vg,26,[(4,none)],false):=by kernel_rfl
def Vi:aJ:=(jS (jR [jJ 6]) (jS (jR [ah 7 0,ah 8 1,ah 9 2,BH 10 88 7 8 9,ah 6 10]) .ret))
def Vj:cQ:={n:=11,own:=[],frz:=[],ord:=[]}
theorem KQ:aD Tryd.prog Vj Tryd.f80=some (Vi,11,[(6,none)],false):=by kernel_rfl
def Vk:aJ:=(jS (jR [lD 2 169 0,lD 3 169 1,jJ 4]) (jS (jR [gL 5 0 2,gD 6 1 5,gL 7 0 3,gD 8 1 7,.op (some 9) (.call 89 [(.t 6),(.t 8),(.fn 90)]) none,ah 10 9,iB 11 1 2 10,iB 12 0 11 10,jI 13 1 12 10,iB 14 1 3 10,iB 15 0 14 10,jI 16 1 15 10,oH 17 13 16 10,jb 18 10 17,ah 19 18,iB 20 1 2 19,iB 21 1 20 19,jI 22 1 21 19,iB 23 1 3 19,iB 24 1 23 19,jI 25 1 24 19,oH 26 22 25 19,jb 27 19 26,ah 28 27,iB 29 1 2 28,iB 30 2 29 28,jI 31 1 30 28,iB 32 1 3 28,iB 33 2 32 28,jI 34 1 33 28,BG 35 79 31 34 28,jb 36 28 35,ah 4 36]) .ret))
def Vm:cQ:={n:=37,own:=[2,3],frz:=[],ord:=[]}
theorem KR:aD Tryd.prog Vm Tryd.f81=some (Vk,37,[(4,none)],false):=by kernel_rfl
def Vn:aJ:=(jS (jR [jJ 6]) (jS (jR [ah 7 0,ah 8 1,ah 9 2,BH 10 91 7 8 9,ah 6 10]) .ret))
def Vo:cQ:={n:=11,own:=[],frz:=[],ord:=[]}
theorem KS:aD Tryd.prog Vo Tryd.f82=some (Vn,11,[(6,none)],false):=by kernel_rfl
def Vp:aJ:=(jS (jR [jJ 4]) (jS (jR [ah 5 0,ah 6 1,.op (some 7) (.call 92 [(.t 5),(.t 6),(.fn 93)]) none,ah 4 7]) .ret))
def Vq:cQ:={n:=8,own:=[],frz:=[],ord:=[]}
theorem KT:aD Tryd.prog Vq Tryd.f83=some (Vp,8,[(4,none)],false):=by kernel_rfl
def Vr:aJ:=(jS (jR [lD 1 3 0,.op (some 2) (.mov (.c .nilFunc)) none]) (jS (jR [.op (some 3) (.mkfn 95 [] [(.t 1)]) none,ah 2 3]) .ret))
def Vs:cQ:={n:=4,own:=[1],frz:=[],ord:=[]}
theorem KU:aD Tryd.prog Vs Tryd.f85=some (Vr,4,[(2,none)],false):=by kernel_rfl
def Vt:aJ:=(jS (jR [jJ 6]) (jS (jS (jR [ah 10 0,gB 11 10,ah 12 1,gB 13 12,mM 14 11 13]) (jC 14 (jS (jR [jJ 6]) .ret) .skip)) (jS (jS (jR [ah 15 0,gB 16 15,jc 17 0]) (jB 0 (jL [18,19,20,21,8,7,22,23,24,25,9,26,27,28,29,30,6,31,17] (jS (jR [jz 18 17 16]) (jS (jC 18 .skip (jX 0)) (jS (jB 1 (jS (jR [ah 19 17,gN 20 2 15 17,iH 21 2 20,OX 8 159 0 0,ah 7 19,eM 2 8 21]) (jS (jR [ah 22 1,ah 23 7,gN 24 2 22 23,iH 25 2 24,OX 9 159 0 0,eM 2 9 25]) (jS (jR [ah 26 2,iH 27 2 8,iH 28 2 9,BI 29 26 27 28,oW 30 29]) (jC 30 (jS (jR [jJ 6]) .ret) .skip))))) (jR [gM 31 17 1,ah 17 31]))))))) (jS (jR [wH 6]) .ret))))
def Vu:cQ:={n:=32,own:=[],frz:=[],ord:=[]}
theorem KV:aD Tryd.prog Vu Tryd.f86=some (Vt,32,[(6,none)],false):=by kernel_rfl
def Vv:aJ:=(jS (jR [jJ 6]) (jS (jS (jR [ah 10 0,gB 11 10,ah 12 1,gB 13 12,mM 14 11 13]) (jC 14 (jS (jR [jJ 6]) .ret) .skip)) (jS (jS (jR [ah 15 0,gB 16 15,jc 17 0]) (jB 0 (jL [18,19,20,21,8,7,22,23,24,25,9,26,27,28,29,30,6,31,17] (jS (jR [jz 18 17 16]) (jS (jC 18 .skip (jX 0)) (jS (jB 1 (jS (jR [ah 19 17,gN 20 3 15 17,iH 21 3 20,OY 8 132 0 0 0 0,ah 7 19,eM 3 8 21]) (jS (jR [ah 22 1,ah 23 7,gN 24 3 22 23,iH 25 3 24,OY 9 132 0 0 0 0,eM 3 9 25]) (jS (jR [ah 26 2,iH 27 3 8,iH 28 3 9,BI 29 26 27 28,oW 30 29]) (jC 30 (jS (jR [jJ 6]) .ret) .skip))))) (jR [gM 31 17 1,ah 17 31]))))))) (jS (jR [wH 6]) .ret))))
def Vw:cQ:={n:=32,own:=[],frz:=[],ord:=[]}
theorem KW:aD Tryd.prog Vw Tryd.f87=some (Vv,32,[(6,none)],false):=by kernel_rfl
def Vx:aJ:=(jS (jR [jJ 6]) (jS (jS (jR [ah 10 0,gB 11 10,ah 12 1,gB 13 12,mM 14 11 13]) (jC 14 (jS (jR [jJ 6]) .ret) .skip)) (jS (jS (jR [ah 15 0,gB 16 15,jc 17 0]) (jB 0 (jL [18,19,20,21,8,7,22,23,24,25,9,26,27,28,29,30,6,31,17] (jS (jR [jz 18 17 16]) (jS (jC 18 .skip (jX 0)) (jS (jB 1 (jS (jR [ah 19 17,gN 20 4 15 17,iH 21 4 20,OZ 8 169 0 0 0 0 0 0,ah 7 19,eM 4 8 21]) (jS (jR [ah 22 1,ah 23 7,gN 24 4 22 23,iH 25 4 24,OZ 9 169 0 0 0 0 0 0,eM 4 9 25]) (jS (jR [ah 26 2,iH 27 4 8,iH 28 4 9,BI 29 26 27 28,oW 30 29]) (jC 30 (jS (jR [jJ 6]) .ret) .skip))))) (jR [gM 31 17 1,ah 17 31]))))))) (jS (jR [wH 6]) .ret))))
def Vy:cQ:={n:=32,own:=[],frz:=[],ord:=[]}
theorem KX:aD Tryd.prog Vy Tryd.f88=some (Vx,32,[(6,none)],false):=by kernel_rfl
def Vz:aJ:=(jS (jR [jJ 6]) (jS (jR [ah 7 0,ah 8 1,ah 9 2,BH 10 96 7 8 9,ah 6 10]) .ret))
def VA:cQ:={n:=11,own:=[],frz:=[],ord:=[]}
theorem KY:aD Tryd.prog VA Tryd.f89=some (Vz,11,[(6,none)],false):=by kernel_rfl
def VB:aJ:=(jS (jR [lD 2 180 0,lD 3 180 1,jJ 4]) (jS (jR [gL 5 0 2,gD 6 1 5,gL 7 0 3,gD 8 1 7,z6 9 6 8,ah 10 9,iB 11 1 2 10,jI 12 1 11 10,iB 13 1 3 10,jI 14 1 13 10,oH 15 12 14 10,jb 16 10 15,ah 17 16,iB 18 2 2 17,jI 19 1 18 17,iB 20 2 3 17,jI 21 1 20 17,oH 22 19 21 17,jb 23 17 22,ah 24 23,iB 25 3 2 24,jI 26 1 25 24,iB 27 3 3 24,jI 28 1 27 24,oH 29 26 28 24,jb 30 24 29,ah 31 30,iB 32 4 2 31,jI 33 1 32 31,iB 34 4 3 31,jI 35 1 34 31,oH 36 33 35 31,jb 37 31 36,ah 38 37,iB 39 5 2 38,jI 40 1 39 38,iB 41 5 3 38,jI 42 1 41 38,BG 43 79 40 42 38,jb 44 38 43,ah 45 44,iB 46 6 2 45,jI 47 1 46 45,iB 48 6 3 45,jI 49 1 48 45,z7 50 76 47 49 77 45,jb 51 45 50,ah 4 51]) .ret))
def VD:cQ:={n:=52,own:=[2,3],frz:=[],ord:=[]}
theorem KZ:aD Tryd.prog VD Tryd.f90=some (VB,52,[(4,none)],false):=by kernel_rfl
def VE:aJ:=(jS (jR [jJ 6]) (jS (jS (jR [ah 10 0,gB 11 10,ah 12 1,gB 13 12,mM 14 11 13]) (jC 14 (jS (jR [jJ 6]) .ret) .skip)) (jS (jS (jR [ah 15 0,gB 16 15,jc 17 0]) (jB 0 (jL [18,19,20,21,7,8,22,23,24,25,9,26,27,28,29,30,6,31,17] (jS (jR [jz 18 17 16]) (jS (jC 18 .skip (jX 0)) (jS (jB 1 (jS (jR [ah 19 17,gN 20 1 15 17,gD 21 1 20,ah 7 19,ah 8 21]) (jS (jR [ah 22 1,ah 23 7,gN 24 1 22 23,gD 25 1 24,ah 9 25]) (jS (jR [ah 26 2,ah 27 8,ah 28 9,BI 29 26 27 28,oW 30 29]) (jC 30 (jS (jR [jJ 6]) .ret) .skip))))) (jR [gM 31 17 1,ah 17 31]))))))) (jS (jR [wH 6]) .ret))))
def VF:cQ:={n:=32,own:=[],frz:=[],ord:=[]}
theorem K0:aD Tryd.prog VF Tryd.f91=some (VE,32,[(6,none)],false):=by kernel_rfl
def VG:aJ:=(jS (jR [jJ 6]) (jS (jR [ah 7 0,ah 8 1,ah 9 2,BH 10 97 7 8 9,ah 6 10]) .ret))
def VH:cQ:={n:=11,own:=[],frz:=[],ord:=[]}
theorem K1:aD Tryd.prog VH Tryd.f92=some (VG,11,[(6,none)],false):=by kernel_rfl
def VI:aJ:=(jS (jR [lD 2 185 0,lD 3 185 1,jJ 4]) (jS (jR [gL 5 0 2,gD 6 1 5,gL 7 0 3,gD 8 1 7,z6 9 6 8,ah 10 9,iB 11 1 2 10,J4 12 3 11 10,iB 13 1 3 10,J4 14 3 13 10,BG 15 77 12 14 10,jb 16 10 15,ah 17 16,iB 18 4 2 17,jI 19 1 18 17,iB 20 4 3 17,jI 21 1 20 17,oH 22 19 21 17,jb 23 17 22,ah 24 23,iB 25 5 2 24,jI 26 1 25 24,iB 27 5 3 24,jI 28 1 27 24,oH 29 26 28 24,jb 30 24 29,ah 31 30,iB 32 6 2 31,jI 33 1 32 31,iB 34 6 3 31,jI 35 1 34 31,BG 36 94 33 35 31,jb 37 31 36,ah 4 37]) .ret))
def VJ:cQ:={n:=38,own:=[2,3],frz:=[],ord:=[]}
theorem K2:aD Tryd.prog VJ Tryd.f93=some (VI,38,[(4,none)],false):=by kernel_rfl
def VK:aJ:=(jS (jR [jJ 4]) (jS (jS (jR [ah 6 0,gB 7 6,ah 8 1,gB 9 8,mM 10 7 9]) (jC 10 (jS (jR [jJ 4]) .ret) .skip)) (jS (jS (jR [ah 11 0,gB 12 11,jc 13 0]) (jB 0 (jL [14,15,5,16,17,18,19,20,21,22,23,24,4,25,13] (jS (jR [jz 14 13 12]) (jS (jC 14 .skip (jX 0)) (jS (jB 1 (jS (jR [ah 15 13,ah 5 15]) (jS (jD [ah 16 0,ah 17 5,gN 18 3 16 17,J0 19 3 18,ah 20 1,ah 21 5,gN 22 3 20 21,J0 23 3 22,.op (some 24) (.eqA true [true,false,false] (.t 19) (.t 23)) none]) (jC 24 (jS (jR [jJ 4]) .ret) .skip)))) (jR [gM 25 13 1,ah 13 25]))))))) (jS (jR [wH 4]) .ret))))
def VL:cQ:={n:=26,own:=[],frz:=[],ord:=[(6,.range 9,[[],[],[0,1],[0,1,2],[],[],[4,5],[4,5,6],.range 8])]}
theorem K3:aD Tryd.prog VL Tryd.f94=some (VK,26,[(4,none)],false):=by kernel_rfl
def VN:aJ:=(jS (jR [ah 8 0,.op (some 9) (.tas 94 (.pointer none) (.t 8)) none,ah 7 9,jK 10 7 0,jK 11 7 1,ah 5 10,ah 6 11]) (jS (jR [gD 12 1 2,Hu 13 12 0,ah 14 13,nN 15 6 14,tK 16 14 15,qd 17 36 16]) (jS (.regX [.op (some 18) (.mov (.t 0)) none,.op (some 19) (.mov (.t 1)) none,.op (some 20) (.nilck (.t 19)) none,.op (some 21) (.fieldA 0 (.t 20)) none,.op (some 22) (.mov (.t 1)) none,.op (some 23) (.nilck (.t 22)) none,.op (some 24) (.fieldA 1 (.t 23)) none,.op (some 25) (.mov (.t 1)) none,.op (some 26) (.nilck (.t 25)) none,.op (some 27) (.fieldA 2 (.t 26)) none,.op (some 28) (.mov (.t 1)) none,.op (some 29) (.nilck (.t 28)) none,.op (some 30) (.fieldA 3 (.t 29)) none,.op (some 31) (.mkFD 122 4 1 [(.t 21),(.t 24),(.t 27),(.t 30)]) none,.pc (some 32) (.call 55 [(.t 18),(.t 31)]) none]) (jS (.regX [.op (some 33) (.mov (.t 0)) none,.op (some 34) (.mov (.t 1)) none,.op (some 35) (.nilck (.t 34)) none,.op (some 36) (.fieldA 4 (.t 35)) none,.op (some 37) (.loadD false 1 (.t 2)) none,.op (some 38) (.bin .sub (.t 37) (.c (.int .i64 1))) none,.op (some 39) (.callD 85 [(.t 38)]) none,.pc (some 40) (.call 72 [(.t 33),(.t 36),(.t 39)]) none]) (jS (jR [ah 41 0,ah 42 1,fA 43 42,gL 44 5 43,tM 45 140 1 1 44,xO 46 64 41 45]) (jS (jR [ah 47 0,ah 48 1,fA 49 48,gL 50 6 49,uH 51 70 47 50 71]) (jR [ah 52 0,ah 53 1,fA 54 53,gL 55 7 54,uH 56 70 52 55 71])))))))
def VO:cQ:={n:=57,own:=[],frz:=[],ord:=[(2,.range 15,[[],[],[1],[1,2],[],[4],[4,5],[],[7],[7,8],[],[10],[10,11],[1,2,3,4,5,6,7,8,9,10,11,12],.range 14]),(3,.range 8,[[],[],[1],[1,2],[],[4],[4,5],.range 7])],pan:=[(1,5),(4,5),(5,4),(6,4)],px:=[32,40]}
theorem u4:aD Tryd.prog VO Tryd.f95=some (VN,57,[],false):=by kernel_rfl
def VP:aJ:=(jS (jR [jJ 6]) (jS (jS (jR [ah 10 0,gB 11 10,ah 12 1,gB 13 12,mM 14 11 13]) (jC 14 (jS (jR [jJ 6]) .ret) .skip)) (jS (jS (jR [ah 15 0,gB 16 15,jc 17 0]) (jB 0 (jL [18,19,20,21,8,7,22,23,24,25,9,26,27,28,29,30,6,31,17] (jS (jR [jz 18 17 16]) (jS (jC 18 .skip (jX 0)) (jS (jB 1 (jS (jR [ah 19 17,gN 20 7 15 17,iH 21 7 20,Nt 8 180 0 0 0 0 0 0 0 0 0,ah 7 19,eM 7 8 21]) (jS (jR [ah 22 1,ah 23 7,gN 24 7 22 23,iH 25 7 24,Nt 9 180 0 0 0 0 0 0 0 0 0,eM 7 9 25]) (jS (jR [ah 26 2,iH 27 7 8,iH 28 7 9,BI 29 26 27 28,oW 30 29]) (jC 30 (jS (jR [jJ 6]) .ret) .skip))))) (jR [gM 31 17 1,ah 17 31]))))))) (jS (jR [wH 6]) .ret))))
def VQ:cQ:={n:=32,own:=[],frz:=[],ord:=[]}
theorem K4:aD Tryd.prog VQ Tryd.f96=some (VP,32,[(6,none)],false):=by kernel_rfl
def VR:aJ:=(jS (jR [jJ 6]) (jS (jS (jR [ah 10 0,gB 11 10,ah 12 1,gB 13 12,mM 14 11 13]) (jC 14 (jS (jR [jJ 6]) .ret) .skip)) (jS (jS (jR [ah 15 0,gB 16 15,jc 17 0]) (jB 0 (jL [18,19,20,21,8,7,22,23,24,25,9,26,27,28,29,30,6,31,17] (jS (jR [jz 18 17 16]) (jS (jC 18 .skip (jX 0)) (jS (jB 1 (jS (jR [ah 19 17,gN 20 7 15 17,iH 21 7 20,O0 8 185 0 0 0 0 0 0 0 0 0,ah 7 19,eM 7 8 21]) (jS (jR [ah 22 1,ah 23 7,gN 24 7 22 23,iH 25 7 24,O0 9 185 0 0 0 0 0 0 0 0 0,eM 7 9 25]) (jS (jR [ah 26 2,iH 27 7 8,iH 28 7 9,BI 29 26 27 28,oW 30 29]) (jC 30 (jS (jR [jJ 6]) .ret) .skip))))) (jR [gM 31 17 1,ah 17 31]))))))) (jS (jR [wH 6]) .ret))))
def VS:cQ:={n:=32,own:=[],frz:=[],ord:=[]}
theorem K5:aD Tryd.prog VS Tryd.f97=some (VR,32,[(6,none)],false):=by kernel_rfl
def Qo:aJ:=(jS (jR [ah 4 1,ah 5 0,qd 6 19 5,fA 7 4,eM 1 7 6]) (jR [ah 8 1,fA 9 8,gD 10 1 9,O1 11 10 1099511627776,ah 12 11,eX 13 1 12,Fq 14 13 12,jI 15 1 14 12,Hy 16 15 1099511627776 12,jb 17 12 16,qd 18 36 17]))
def Qp:cQ:={n:=19,own:=[],frz:=[],ord:=[],pan:=[(0,2),(1,10)]}
theorem HG:aD Tryd.prog Qp Tryd.f113=some (Qo,19,[],false):=by kernel_rfl
def Qq:aJ:=(jS (jR [jc 4 0]) (jS (jR [ah 6 0,qd 7 19 6,ah 5 7]) (jS (jR [ah 8 5,Fl 9 8 0,ah 10 9,eX 11 5 10,Hy 12 11 100000 10,jb 13 10 12,ah 14 13,eX 15 5 14,eX 16 0 14,Fq 17 16 14,iB 18 0 17 14,jI 19 1 18 14,CT 20 19 14,JW 21 15 20 14,jb 22 14 21,qd 23 36 22]) (jS (jR [ah 24 5,ah 4 24]) .ret))))
def Qr:cQ:={n:=25,own:=[],frz:=[],ord:=[],pan:=[(1,1),(2,15)]}
theorem HI:aD Tryd.prog Qr Tryd.f114=some (Qq,25,[(4,none)],false):=by kernel_rfl
def Qs:aJ:=(jS (jR [ah 4 1,fA 5 4,gD 6 1 5,O1 7 6 1099511627776,ah 8 7,eX 9 1 8,Fq 10 9 8,jI 11 1 10 8,Hy 12 11 1099511627776 8,jb 13 8 12,qd 14 36 13]) (jR [ah 15 0,ah 16 1,fA 17 16,gD 18 1 17,i9 19 26 15 18]))
def Qt:cQ:={n:=20,own:=[],frz:=[],ord:=[],pan:=[(0,10)]}
theorem BJ:aD Tryd.prog Qt Tryd.f116=some (Qs,20,[],false):=by kernel_rfl
def Qu:aJ:=(jS (jR [jc 4 0]) (jS (jR [ah 5 1,.op (some 6) (.bin .leq (.t 5) (.c (.int .i64 100000))) none,qd 7 36 6]) (jS (jR [ah 8 0,ah 9 1,i9 10 26 8 9]) (jS (jR [ah 11 1,ah 4 11]) .ret))))
def Qv:cQ:={n:=12,own:=[],frz:=[],ord:=[],pan:=[(1,2)]}
theorem HJ:aD Tryd.prog Qv Tryd.f117=some (Qu,12,[(4,none)],false):=by kernel_rfl
def Qw:aJ:=(jS (jR [jc 5 0]) (jB 0 (jL [6,7,4,8,9,10,11,12,13,14,15,16,17,18,19,5] (jS (jR [Fh 6 5 8]) (jS (jC 6 .skip (jX 0)) (jS (jB 1 (jS (jR [ah 7 5,ah 4 7]) (jD [ah 8 0,fA 9 8,gL 10 0 9,ah 11 1,fA 12 11,tL 13 1 12,ah 14 4,Fj 15 8 14,.op (some 16) (.bin .shr (.t 13) (.t 15)) none,tN 17 16,Nr 18 42 10 17]))) (jR [gM 19 5 1,ah 5 19])))))))
def Qx:cQ:={n:=20,own:=[],frz:=[],ord:=[(3,.range 11,[[],[0],[0,1],[],[3],[3,4],[],[6],[3,4,5,6,7],[3,4,5,6,7,8],.range 10])],co:=[18]}
theorem BK:aD Tryd.prog Qx Tryd.f118=some (Qw,20,[],false):=by kernel_rfl
def c119:aJ:=(jS (jR [lD 3 3 1,jc 4 0]) (jS (jR [ah 5 0,i9 6 118 5 3]) (jS (jR [gD 7 1 3,ah 4 7]) .ret)))
def Qy:cQ:={n:=8,own:=[3],frz:=[],ord:=[]}
theorem HK:aD Tryd.prog Qy Tryd.f119=some (c119,8,[(4,none)],false):=by kernel_rfl
end Go.Fr.Tryd
