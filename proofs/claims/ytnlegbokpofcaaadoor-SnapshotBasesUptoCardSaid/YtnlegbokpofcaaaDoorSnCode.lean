/- Part of the proofs of the statements of this seat. -/
import Derived.Test.YtnlegbokpofcaaaDoorFW3
import Derived.Test.YtnlegbokpofcaaaDoorProg
set_option maxRecDepth 10000
set_option linter.unusedVariables false
set_option linter.unusedSimpArgs false
namespace Go.Fr.Tryd
open Go Go.RowKit Go.Proofs Go.Fr Go.Fr.T
abbrev jS:=aJ.seq
abbrev jC(a:Nat):=aJ.cond (.t a)
abbrev jR:=aJ.reg
abbrev jD:=aJ.regD
abbrev jL:=aJ.loop
abbrev jB:=aJ.block
abbrev jX:=aJ.exit
abbrev ah(a b:Nat):ak:=.op (some a) (.mov (.t b)) none
abbrev fp(a b:Nat):ak:=.op (some a) (.nilck (.t b)) none
abbrev gA(a b c:Nat):ak:=.op (some a) (.load false b (.t c)) none
abbrev gI(a b c:Nat):ak:=.op (some a) (.fieldA b (.t c)) none
abbrev gK(a b:Nat):ak:=.op (some a) (.len (.t b)) none
abbrev iA(a b c d:Nat):ak:=.op (some a) (.fieldA b (.t c)) (some (d,true))
abbrev jA(a:Nat)(b:Int):ak:=.op (some a) (.mov (.c (.int .i64 b))) none
abbrev jE(a b c d:Nat):ak:=.op (some a) (.load false b (.t c)) (some (d,true))
abbrev jF(a b c:Nat):ak:=.op (some a) (.pick (.t b) (.t c) (.c (.bool false))) none
abbrev jK(a:Nat):ak:=.op (some a) (.mov (.c (.bool false))) none
abbrev eK(a b c:Nat):ak:=.op none (.store a (.t b) (.t c)) none
abbrev fP(a b c:Nat):ak:=.op (some a) (.mov (.t b)) (some (c,true))
abbrev gJ(a b c d:Nat):ak:=.op (some a) (.idxA b (.t c) (.t d)) none
abbrev iy(a b:Nat)(c:Int):ak:=.op (some a) (.bin .add (.t b) (.c (.int .i64 c))) none
abbrev iG(a b c:Nat):ak:=.op (some a) (.load true b (.t c)) none
abbrev jt(a b c d:Nat):ak:=.op (some a) (.call b [(.t c),(.t d)]) none
abbrev jG(a b c:Nat):ak:=.op (some a) (.extr (.t b) c) none
abbrev jH(a b c:Nat):ak:=.op (some a) (.bin .lss (.t b) (.t c)) none
abbrev lA(a b c:Nat):ak:=.op (some a) (.boxF b (.t c)) none
abbrev mB(a b c:Nat):ak:=.op (some a) (.call b [(.t c)]) none
abbrev mH(a b c:Nat):ak:=.op (some a) (.bin .neq (.t b) (.t c)) none
abbrev mZ(a b c:Nat):ak:=.op (some a) (.mov (.c (.slice none b c))) none
abbrev oE(a b c d:Nat):ak:=.op (some a) (.bin .eql (.t b) (.t c)) (some (d,true))
abbrev oS(a b:Nat):ak:=.op (some a) (.un .not (.t b)) none
abbrev pX(a b c:Nat):ak:=.pc (some a) (.call b [(.t c)]) none
abbrev tH(a b c:Nat):ak:=.op (some a) (.loadD false b (.t c)) none
abbrev tI(a b c d e:Nat):ak:=.op (some a) (.mkF b c d [(.t e)]) none
abbrev tJ(a b:Nat):ak:=.op (some a) (.conv .u8 (.t b)) none
abbrev uE(a b c d e:Nat):ak:=.pc (some a) (.call b [(.t c),(.t d),(.fn e)]) none
abbrev wE(a b c:Nat):ak:=.op (some a) (.pick (.t b) (.c (.bool true)) (.t c)) none
abbrev wF(a:Nat):ak:=.op (some a) (.mov (.c (.bool true))) none
abbrev xK(a b c:Nat):ak:=.op (some a) (.mov (.t b)) (some (c,false))
abbrev xL(a b c d:Nat):ak:=.pc (some a) (.call b [(.t c),(.t d)]) none
abbrev xM(a b c d:Nat):ak:=.pc (some a) (.callV (.t b) [(.t c),(.t d)]) none
abbrev zU(a b c d:Nat)(e:Int)(f g:Nat):ak:=.op (some a) (.app b c d [(.int .u8 e)] (.t f) (.t g)) none
abbrev zW(a b c:Nat):ak:=.op (some a) (.bin .eql (.t b) (.t c)) none
abbrev zX(a b c d e f:Nat):ak:=.op (some a) (.call b [(.t c),(.t d),(.fn e)]) (some (f,true))
abbrev Bz(a b:Nat)(c:Int)(d:Nat):ak:=.op (some a) (.bin .eql (.t b) (.c (.int .i64 c))) (some (d,true))
abbrev BA(a b c d e:Nat):ak:=.op (some a) (.call b [(.t c),(.t d),(.t e)]) none
abbrev BB(a b c d:Nat):ak:=.op (some a) (.callV (.t b) [(.t c),(.t d)]) none
abbrev CO(a b c d e f:Nat)(g:Int)(h i j k l m n o p q:Nat)(r s t:Int):ak:=.op (some a) (.alloc b [(.slice none c d),(.slice none e f),(.int .i64 g),(.slice none h i),(.slice none j k),(.slice none l m),(.slice none n o),(.slice none p q),(.int .i64 r),(.int .i64 s),(.int .i64 t)]) none
abbrev CP(a b c d e:Nat):ak:=.op (some a) (.call b [(.t c),(.t d)]) (some (e,true))
abbrev Fb(a b c:Nat):ak:=.op (some a) (.b2s (.t b)) (some (c,true))
abbrev Fc(a b c:Nat):ak:=.op (some a) (.len (.t b)) (some (c,true))
abbrev Fe(a b:Nat)(c:Int):ak:=.op (some a) (.bin .lss (.t b) (.c (.int .i64 c))) none
abbrev Ff(a:Nat)(b:Int)(c:Nat):ak:=.op (some a) (.bin .mul (.c (.int .i64 b)) (.t c)) none
abbrev Fg(a b:Nat)(c:Int):ak:=.op (some a) (.bin .geq (.t b) (.c (.int .i64 c))) none
abbrev Fh(a b:Nat)(c:Int):ak:=.op (some a) (.bin .rem (.t b) (.c (.int .i64 c))) none
abbrev Fj(a b:Nat)(c:Int):ak:=.op (some a) (.bin .shr (.t b) (.c (.int .u64 c))) none
abbrev Fl(a b c:Nat):ak:=.op (some a) (.nilck (.t b)) (some (c,true))
abbrev Hr(a b c:Nat):ak:=.op (some a) (.b2sD (.t b)) (some (c,true))
abbrev Hs(a b c d:Nat):ak:=.op (some a) (.loadD true b (.t c)) (some (d,true))
abbrev Ht(a b c:Nat):ak:=.op (some a) (.box b (.t c)) none
abbrev Hu(a b c:Nat):ak:=.op (some a) (.bin .sub (.t b) (.t c)) none
abbrev Hv(a b:Nat)(c:Int):ak:=.op (some a) (.bin .quo (.t b) (.c (.int .i64 c))) none
abbrev Hw(a b c:Nat):ak:=.op (some a) (.mkif b (.t c)) none
abbrev Hy(a b c:Nat):ak:=.op (some a) (.bin .add (.t b) (.t c)) none
abbrev JJ(a b:Nat):ak:=.op (some a) (.call b []) none
abbrev JK(a b:Nat)(c:Int):ak:=.op (some a) (.bin .gtr (.t b) (.c (.int .i64 c))) none
abbrev JL(a b c:Nat):ak:=.op (some a) (.len (.t b)) (some (c,false))
abbrev JM(a b:Nat)(c:Int)(d:Nat):ak:=.op (some a) (.bin .gtr (.t b) (.c (.int .i64 c))) (some (d,false))
abbrev JN(a b c d e:Nat):ak:=.op (some a) (.callD b [(.t c),(.t d)]) (some (e,true))
abbrev JO(a b c d e:Nat)(f:Int)(g h i j k l m n o p:Nat)(q r s:Int):ak:=.op (some a) (.build [(.slice none b c),(.slice none d e),(.int .i64 f),(.slice none g h),(.slice none i j),(.slice none k l),(.slice none m n),(.slice none o p),(.int .i64 q),(.int .i64 r),(.int .i64 s)] []) none
abbrev JP(a b:Nat)(c:Int):ak:=.op none (.store a (.t b) (.c (.int .i64 c))) none
abbrev JQ(a b c d:Nat):ak:=.op (some a) (.slc b (.t c) none (some (.t d))) none
abbrev JR(a b c:Nat):ak:=.op (some a) (.loadD true b (.t c)) none
abbrev JS(a:Nat):ak:=.op (some a) (.mov (.c .nilIface)) none
abbrev JT(a b c d:Nat):ak:=.op (some a) (.slc b (.t c) (some (.t d)) none) none
abbrev JU(a b:Nat)(c:Int):ak:=.op (some a) (.bin .eql (.t b) (.c (.int .i64 c))) none
abbrev JV(a b:Nat)(c:Int)(d:Nat):ak:=.op (some a) (.bin .leq (.t b) (.c (.int .i64 c))) (some (d,true))
abbrev JW(a b c d:Nat):ak:=.op (some a) (.load true b (.t c)) (some (d,true))
abbrev M7(a b:Nat)(c:Int):ak:=.op (some a) (.call b [(.c (.int .i64 c))]) none
abbrev M8(a b:Nat):ak:=.op (some a) (.alloc b [(.pointer none)]) none
abbrev M9(a b:Nat)(c:Int):ak:=.op (some a) (.alloc b [(.int .i64 c)]) none
abbrev Na(a b c d:Nat):ak:=.op (some a) (.load false b (.t c)) (some (d,false))
abbrev Nb(a b c d e:Nat):ak:=.op (some a) (.call b [(.t c),(.t d)]) (some (e,false))
abbrev Nc(a b c:Nat)(d e:Int):ak:=.op (some a) (.build [(.slice none b c),(.int .i64 d),(.int .i8 e)] []) none
abbrev Nd(a b c d:Nat):ak:=.op (some a) (.callO b [(.t c),(.t d)]) none
abbrev Nf(a b:Nat)(c:Int):ak:=.op (some a) (.bin .sub (.t b) (.c (.int .i64 c))) none
abbrev Ng(a b:Nat)(c d e f g:Int)(h i j k:Nat):ak:=.op (some a) (.alloc b [(.int .i64 c),(.int .i64 d),(.int .i64 e),(.int .i64 f),(.int .i64 g),(.slice none h i),(.slice none j k)]) none
abbrev Nh(a b:Nat):ak:=.op (some a) (.conv .i64 (.t b)) none
abbrev Ni(a:Nat):ak:=.pc none (.pan (.t a)) none
abbrev Nj(a b c d:Nat):ak:=.op (some a) (.bin .leq (.t b) (.t c)) (some (d,true))
abbrev OA(a b:Nat)(c:Int)(d:Nat):ak:=.op (some a) (.bin .neq (.t b) (.c (.int .i64 c))) (some (d,true))
abbrev OB(a b:Nat)(c d:Int):ak:=.op (some a) (.call b [(.c (.int .i64 c)),(.c (.int .u8 d))]) none
abbrev OC(a b c:Nat):ak:=.op (some a) (.bin .mul (.c (.int .i64 (-b))) (.t c)) none
abbrev OD(a b:Nat)(c:Int)(d:Nat):ak:=.op (some a) (.bin .eql (.t b) (.c (.int .i64 c))) (some (d,false))
abbrev OE(a b:Nat)(c d:Int)(e f:Nat)(g:Int):ak:=.op (some a) (.alloc b [(.string ⟨#[]⟩),(.int .i64 c),(.int .i64 d),(.slice none e f),(.int .i64 g)]) none
abbrev OG(a b c d:Nat)(e f:Int)(g h i j:Nat)(k:Int)(l m n o:Nat):ak:=.op (some a) (.alloc b [(.string ⟨#[]⟩),(.slice none c d),(.int .i64 e),(.int .i64 f),(.slice none g h),(.slice none i j),(.int .i64 k),(.slice none l m),(.slice none n o)]) none
abbrev OH(a b c d:Nat):ak:=.op (some a) (.alloc b [(.string ⟨#[]⟩),(.slice none c d)]) none
abbrev OI(a b:Nat)(c d:Int)(e f:Nat):ak:=.op (some a) (.alloc b [(.int .i64 c),(.int .i64 d),(.slice none e f)]) none
abbrev OJ(a b c d:Nat)(e f:Int)(g h:Nat):ak:=.op (some a) (.alloc b [(.slice none c d),(.int .i64 e),(.int .i64 f),(.slice none g h)]) none
abbrev OL(a b:Nat)(c d e:Int)(f g:Nat)(h i:Int)(j k:Nat):ak:=.op (some a) (.alloc b [(.int .i64 c),(.int .i64 d),(.int .i64 e),(.slice none f g),(.int .i64 h),(.int .i64 i),(.slice none j k)]) none
abbrev OM(a b c:Nat):ak:=.op (some a) (.bin .geq (.t b) (.c (.int .i64 (-c)))) none
def c3:aJ:=(jS (jR [jK 6]) (jS (jR [JJ 14 6,ah 7 14]) (jS (jS (jR [ah 15 0,gK 16 15,JK 17 16 3000,ah 18 17,xK 19 1 18,JL 20 19 18,JM 21 20 3000 18,wE 22 18 21,ah 23 22,xK 24 2 23,JL 25 24 23,JM 26 25 3000 23,wE 27 23 26]) (jC 27 (jS (jR [ah 28 7,ah 6 28]) .ret) .skip)) (jS (jR [ah 30 0,ah 31 0,ah 32 1,jt 33 8 31 32,jt 34 7 30 33,ah 29 34,jG 35 29 0,jG 36 29 1,ah 8 35,ah 9 36]) (jS (jR [ah 38 8,ah 39 1,ah 40 2,jt 41 8 39 40,jt 42 7 38 41,ah 37 42,jG 43 37 0,jG 44 37 1,ah 10 43,ah 11 44]) (jS (jR [ah 46 10,ah 47 2,ah 48 0,jt 49 8 47 48,jt 50 7 46 49,ah 45 50,jG 51 45 0,jG 52 45 1,ah 12 51,ah 13 52]) (jS (jR [ah 53 7,ah 54 53,fP 55 9 54,Bz 56 55 0 54,jF 57 54 56,ah 58 57,fP 59 11 58,Bz 60 59 0 58,jF 61 58 60,ah 62 61,fP 63 13 62,Bz 64 63 0 62,jF 65 62 64,ah 66 65,fP 67 8 66,Fb 68 67 66,fP 69 1 66,Fb 70 69 66,oE 71 68 70 66,jF 72 66 71,ah 73 72,fP 74 10 73,Fb 75 74 73,fP 76 2 73,Fb 77 76 73,oE 78 75 77 73,jF 79 73 78,ah 80 79,fP 81 12 80,Fb 82 81 80,fP 83 0 80,Fb 84 83 80,oE 85 82 84 80,jF 86 80 85,ah 6 86]) .ret)))))))
def c4:aJ:=(jS (jR [jK 6]) (jS (jR [JJ 12 6,ah 7 12]) (jS (jS (jR [ah 13 0,gK 14 13,JK 15 14 3000,ah 16 15,xK 17 1 16,JL 18 17 16,JM 19 18 3000 16,wE 20 16 19,ah 21 20,xK 22 2 21,JL 23 22 21,JM 24 23 3000 21,wE 25 21 24]) (jC 25 (jS (jR [ah 26 7,ah 6 26]) .ret) .skip)) (jS (jR [ah 28 2,ah 29 0,ah 30 1,jt 31 8 29 30,jt 32 7 28 31,ah 27 32,jG 33 27 0,jG 34 27 1,ah 8 33,ah 9 34]) (jS (jS (jR [ah 35 0,gK 36 35,ah 37 2,gK 38 37,mH 39 36 38,ah 40 39,xK 41 0 40,.op (some 42) (.call 9 [(.t 41)]) (some (40,false)),xK 43 2 40,.op (some 44) (.call 9 [(.t 43)]) (some (40,false)),.op (some 45) (.bin .neq (.t 42) (.t 44)) (some (40,false)),wE 46 40 45,ah 47 46,fP 48 9 47,OA 49 48 17 47,jF 50 47 49]) (jC 50 (jS (jR [jK 6]) .ret) .skip)) (jS (jR [ah 52 0,ah 53 2,jt 54 7 52 53,ah 51 54,jG 55 51 0,jG 56 51 1,ah 10 55,ah 11 56]) (jS (jS (jR [ah 57 11,.op (some 58) (.bin .neq (.t 57) (.c (.int .i64 0))) none]) (jC 58 (jS (jR [ah 59 7,ah 60 59,fP 61 10 60,Fc 62 61 60,Bz 63 62 0 60,jF 64 60 63,ah 6 64]) .ret) .skip)) (jS (jD [ah 65 7,ah 66 65,fP 67 0 66,fP 68 10 66,fP 71 2 66,Hr 72 71 66,JN 69 8 67 68 66,Hr 70 69 66,oE 73 70 72 66,jF 74 66 73,ah 6 74]) .ret))))))))
def A4:cP:={n:=75,own:=[],frz:=[],ord:=[(10,[0,1,2,3,6,7,4,5,8,9,10],[[],[0],[0,1],[0,1],.range 4,.range 5,[0,1],[0,1,6],.range 8,.range 9,.range 10])]}
theorem Nk:aD Tryd.prog A4 Tryd.f4=some (c4,75,[(6,none)],false):=by kernel_rfl
def c6:aJ:=(jS (jR [jK 0]) (jS (jR [.op (some 17) (.mkF 5 11 1 [(.c (.int .u8 76)),(.c (.int .u8 83)),(.c (.int .u8 1)),(.c (.int .u8 0)),(.c (.int .u8 0)),(.c (.int .u8 0)),(.c (.int .u8 0)),(.c (.int .u8 0)),(.c (.int .u8 0)),(.c (.int .u8 0)),(.c (.int .u8 0))]) none,ah 1 17]) (jS (jR [JO 18 0 0 0 0 0 0 0 0 0 0 0 0 0 0 0 0 0 0,mB 19 10 18,ah 2 19]) (jS (jR [.op (some 21) (.build [(.slice none 0 0),(.slice none 0 0),(.int .i64 0)] [(2,1,(.c (.int .i64 5)))]) none,JJ 22 12,mB 23 10 22,jt 24 11 21 23,ah 20 24,jG 25 20 0,jG 26 20 1,CO 3 44 0 0 0 0 0 0 0 0 0 0 0 0 0 0 0 0 0 0,eK 11 3 25,ah 4 26]) (jS (jR [JJ 27 12,CO 5 44 0 0 0 0 0 0 0 0 0 0 0 0 0 0 0 0 0 0,eK 11 5 27]) (jS (jR [gI 28 0 5,gI 29 2 28,JP 1 29 5]) (jS (jR [.op (some 31) (.build [(.slice none 0 0),(.slice none 0 0),(.int .i64 0)] []) none,ah 32 1,.op (some 33) (.mkF 5 4 1 [(.c (.int .u8 0)),(.c (.int .u8 0)),(.c (.int .u8 0)),(.c (.int .u8 0))]) none,zU 34 5 1 1 0 32 33,jt 35 11 31 34,ah 30 35,jG 36 30 0,jG 37 30 1,CO 6 44 0 0 0 0 0 0 0 0 0 0 0 0 0 0 0 0 0 0,eK 11 6 36,ah 7 37]) (jS (jR [OB 38 13 40 1,ah 8 38]) (jS (jR [OB 39 13 40 1,ah 9 39]) (jS (jR [ah 40 9,.op (some 41) (.idxA 1 (.t 40) (.c (.int .i64 39))) none,.op none (.store 1 (.t 41) (.c (.int .u8 2))) none]) (jS (jR [ah 42 8,ah 43 9,jt 44 8 42 43,ah 10 44]) (jS (jR [ah 46 8,ah 47 10,jt 48 7 46 47,ah 45 48,jG 49 45 0,jG 50 45 1,ah 11 49,ah 12 50]) (jS (jR [ah 52 9,ah 53 10,jt 54 7 52 53,ah 51 54,jG 55 51 0,jG 56 51 1,ah 13 55,ah 14 56]) (jS (jR [M7 57 14 40,ah 58 8,mB 59 9 58,mB 60 14 59,zU 61 5 1 1 0 57 60,M7 62 14 40,zU 63 5 1 1 0 61 62,ah 64 9,mB 65 9 64,mB 66 14 65,zU 67 5 1 1 0 63 66,.op (some 68) (.mkF 5 2 1 [(.c (.int .u8 2)),(.c (.int .u8 4))]) none,zU 69 5 1 1 0 67 68,ah 15 69]) (jS (jS (jR [.frz 19]) (jD [ah 70 2,.op (some 71) (.b2sD (.t 70)) none,ah 73 1,ah 75 1,.op (some 72) (.mkFD 5 0 1 []) none,.op (some 74) (.appD 5 1 1 [(.int .u8 0)] (.t 72) (.t 73)) none,.op (some 76) (.callD 15 [(.t 75)]) none,.op (some 77) (.appD 5 1 1 [(.int .u8 0)] (.t 74) (.t 76)) none,.op (some 78) (.b2sR (.t 77)) none,zW 79 71 78,ah 80 79,fP 81 4 80,Bz 82 81 0 80,jF 83 80 82,ah 84 83,Hs 85 11 3 84,Hs 86 11 5 84,JN 87 16 85 86 84,jF 88 84 87,ah 89 88,Hs 90 11 3 89,.op (some 91) (.callD 12 []) (some (89,true)),JN 92 16 90 91 89,.op (some 93) (.un .not (.t 92)) (some (89,true)),jF 94 89 93,ah 95 94,fP 96 7 95,Bz 97 96 17 95,jF 98 95 97,ah 16 98])) (jS (jD [ah 99 16,ah 100 99,fP 101 10 100,Hr 102 101 100,fP 103 15 100,.op (some 104) (.mkFD 5 8 1 [(.c (.int .u8 1)),(.c (.int .u8 1)),(.c (.int .u8 1)),(.c (.int .u8 1)),(.c (.int .u8 1)),(.c (.int .u8 1)),(.c (.int .u8 1)),(.c (.int .u8 2))]) (some (100,true)),.op (some 105) (.appD 5 1 1 [(.int .u8 0)] (.t 103) (.t 104)) (some (100,true)),.op (some 106) (.b2sR (.t 105)) (some (100,true)),oE 107 102 106 100,jF 108 100 107,ah 109 108,fP 110 12 109,Bz 111 110 0 109,jF 112 109 111,ah 113 112,fP 114 11 113,Hr 115 114 113,fP 116 9 113,Hr 117 116 113,oE 118 115 117 113,jF 119 113 118,ah 120 119,fP 121 14 120,Bz 122 121 17 120,jF 123 120 122,ah 0 123]) .ret))))))))))))))))
def A6:cP:={n:=124,own:=[],frz:=[(14,0,[19])],ord:=[(14,[0,1,3,5,2,4,6,7,8,9,10,11,12,13,14,15,16,17,18,19,20,21,22,23,24,25,26,27,28,29],[[],[0],[],[],[2,3],[],[2,3,4,5],[2,3,4,5,6],[2,3,4,5,6,7],.range 9,.range 10,.range 11,.range 12,.range 13,.range 14,.range 15,.range 15,.range 17,.range 18,.range 19,.range 20,.range 20,.range 22,.range 23,.range 24,.range 25,.range 26,.range 27,.range 28,.range 29]),(15,.range 26,[[],[0],[0,1],[0,1,2],[0,1],[0,1],[0,1,4,5],[0,1,4,5,6],.range 8,.range 9,.range 10,.range 11,.range 12,.range 13,.range 14,.range 15,.range 16,.range 15,[0,1,2,3,4,5,6,7,8,9,10,11,12,13,14,17],.range 19,.range 20,.range 21,.range 22,.range 23,.range 24,.range 25])],fl:=[77,105]}
theorem Nl:aD Tryd.prog A6 Tryd.f6=some (c6,124,[(0,none)],false):=by kernel_rfl
def c7:aJ:=(jS (jR [lA 2 22 0,mZ 4 0 0,jA 5 0]) (jS (jR [ah 10 1,.op (some 11) (.build [(.slice none 0 0)] [(0,1,(.t 10))]) none,Ht 12 54 11,M8 6 52,eK 1 6 12]) (jS (jR [M9 7 3 0,M9 8 3 0]) (jS (jS (jR [.op (some 13) (.mkfn 18 [] [(.t 6),(.t 7),(.t 8)]) none,mB 14 17 13,oS 15 14]) (jC 15 (jS (jR [mZ 4 0 0,jA 5 16]) .ret) .skip)) (jS (jS (jD [tH 16 1 7,tH 17 1 2,gK 18 17,mH 19 16 18,ah 20 19,.op (some 21) (.loadD false 1 (.t 8)) (some (20,false)),.op (some 22) (.loadD false 1 (.t 2)) (some (20,false)),.op (some 23) (.callD 9 [(.t 22)]) (some (20,false)),.op (some 24) (.bin .neq (.t 21) (.t 23)) (some (20,false)),wE 25 20 24]) (jC 25 (jS (jR [mZ 4 0 0,jA 5 17]) .ret) .skip)) (jS (jR [.op (some 9) (.alloc 22 [(.slice none 0 0)]) none]) (jS (jS (jR [.op (some 26) (.mkfn 20 [] [(.t 6),(.t 2),(.t 9)]) none,mB 27 17 26,oS 28 27,ah 29 28,Na 30 1 2 29,Na 31 1 9 29,Nb 32 8 30 31 29,xK 33 1 29,Nb 34 22 32 33 29,.op (some 35) (.un .not (.t 34)) (some (29,false)),wE 36 29 35]) (jC 36 (jS (jR [mZ 4 0 0,jA 5 16]) .ret) .skip)) (jS (jR [gA 37 1 9,ah 4 37,jA 5 0]) .ret))))))))
def A7:cP:={n:=38,own:=[2],frz:=[],ord:=[(5,.range 10,[[],[],[1],[0,1,2],.range 4,.range 5,.range 5,[0,1,2,3,4,6],.range 8,.range 9])]}
theorem Nm:aD Tryd.prog A7 Tryd.f7=some (c7,38,[(4,none),(5,none)],false):=by kernel_rfl
def c8:aJ:=(jS (jR [mZ 4 0 0]) (jS (jR [mZ 5 0 0]) (jS (jS (jR [ah 13 1,gK 14 13,mB 15 23 14,jA 16 0]) (jB 0 (jL [17,18,6,19,20,21,22,23,24,25,26,27,28,29,30,5,31,16] (jS (jR [jH 17 16 15]) (jS (jC 17 .skip (jX 0)) (jS (jB 1 (jS (jR [ah 18 16,ah 6 18]) (jS (jR [ah 19 0,ah 20 6,jt 21 25 19 20,ah 22 1,ah 23 6,jt 24 25 22 23,jt 25 24 21 24,oS 26 25]) (jC 26 (jR [ah 27 5,ah 28 6,tI 29 3 1 1 28,.op (some 30) (.app 3 1 8 [(.int .i64 0)] (.t 27) (.t 29)) none,ah 5 30]) .skip)))) (jR [iy 31 16 1,ah 16 31]))))))) (jS (jR [.frz 30,Nc 32 0 0 0 0,Ht 33 66 32,ah 7 33]) (jS (jS (jR [ah 34 0,gK 35 34,ah 36 0,mB 37 9 36,ah 38 1,gK 39 38,ah 40 1,mB 41 9 40,ah 42 5,gK 43 42,.op (some 44) (.mkF 3 5 1 [(.t 35),(.t 37),(.t 39),(.t 41),(.t 43)]) none,gK 45 44,jA 46 0]) (jB 2 (jL [47,48,49,9,50,51,52,53,46] (jS (jR [jH 47 46 45]) (jS (jC 47 .skip (jX 2)) (jS (jB 3 (jS (jR [gJ 48 1 44 46,gA 49 1 48,ah 9 49]) (jR [ah 50 7,ah 51 9,jt 52 26 50 51]))) (jR [iy 53 46 1,ah 46 53]))))))) (jS (jR [.op (some 10) (.mov (.c (.int .i64 (-1)))) none]) (jS (jS (jR [ah 54 5,gK 55 54,jA 56 0]) (jB 4 (jL [57,58,59,12,60,61,62,63,64,65,66,67,68,69,70,71,72,10,73,56] (jS (jR [jH 57 56 55]) (jS (jC 57 .skip (jX 4)) (jS (jB 5 (jS (jR [gJ 58 1 54 56,gA 59 1 58,ah 12 59]) (jS (jR [ah 60 7,ah 61 12,ah 62 10,Hu 63 61 62,jt 64 26 60 63]) (jS (jD [ah 65 7,fp 66 65,gI 67 0 66,ah 68 1,ah 69 12,.op (some 70) (.callD 25 [(.t 68),(.t 69)]) none,Nd 71 27 67 70]) (jR [ah 72 12,ah 10 72]))))) (jR [iy 73 56 1,ah 56 73]))))))) (jS (jR [ah 74 7,fp 75 74,gI 76 0 75,mB 77 28 76,ah 4 77]) .ret))))))))
def A8:cP:={n:=78,own:=[],frz:=[(8,0,[30])],ord:=[(19,.range 7,[[],[0],[0,1],[],[],[3,4],.range 6])],co:=[71]}
theorem Nn:aD Tryd.prog A8 Tryd.f8=some (c8,78,[(4,none)],false):=by kernel_rfl
def c9:aJ:=(jS (jR [jA 2 0]) (jS (jR [ah 3 0,.op (some 4) (.call 29 [(.t 3),(.fn 30)]) none,ah 2 4]) .ret))
def A9:cP:={n:=5,own:=[],frz:=[],ord:=[]}
theorem Np:aD Tryd.prog A9 Tryd.f9=some (c9,5,[(2,none)],false):=by kernel_rfl
def c10:aJ:=(jS (jR [lA 1 44 0,mZ 2 0 0]) (jS (jR [Nc 4 0 0 0 0,Ht 5 66 4,M8 3 60,eK 1 3 5]) (jS (jD [tH 6 1 3,fp 7 6,gI 8 0 7,.op (some 9) (.callD 31 []) none,Nd 10 27 8 9]) (jS (jS (jR [.op (some 11) (.mkfn 32 [] [(.t 3),(.t 1)]) none,mB 12 17 11,oS 13 12]) (jC 13 (jS (jR [mZ 2 0 0]) .ret) .skip)) (jS (jR [gA 14 1 3,fp 15 14,gI 16 0 15,mB 17 28 16,mB 18 34 17,ah 2 18]) .ret)))))
def Sy:cP:={n:=19,own:=[1],frz:=[],ord:=[(2,.range 5,[[],[0],[0,1],[],.range 4])],co:=[10]}
theorem JX:aD Tryd.prog Sy Tryd.f10=some (c10,19,[(2,none)],false):=by kernel_rfl
def c11:aJ:=(jS (jR [lA 2 35 0,CO 4 44 0 0 0 0 0 0 0 0 0 0 0 0 0 0 0 0 0 0,jA 5 0]) (jS (jS (jR [ah 9 1,gK 10 9,Fe 11 10 7,ah 12 11,xK 13 1 12,.op (some 14) (.call 31 []) (some (12,false)),Nb 15 24 13 14 12,.op (some 16) (.un .not (.t 15)) (some (12,false)),wE 17 12 16]) (jC 17 (jS (jR [JO 18 0 0 0 0 0 0 0 0 0 0 0 0 0 0 0 0 0 0,eK 11 4 18,jA 5 16]) .ret) .skip)) (jS (jR [ah 19 1,ah 20 1,gK 21 20,Nf 22 21 4,JQ 23 1 19 22,ah 6 23]) (jS (jS (jR [ah 24 6,mB 25 34 24,ah 26 1,jt 27 22 25 26,oS 28 27]) (jC 28 (jS (jR [JO 29 0 0 0 0 0 0 0 0 0 0 0 0 0 0 0 0 0 0,eK 11 4 29,jA 5 17]) .ret) .skip)) (jS (jR [ah 30 6,.op (some 31) (.slc 1 (.t 30) (some (.c (.int .i64 3))) none) none,.op (some 32) (.build [(.slice none 0 0)] [(0,1,(.t 31))]) none,Ht 33 54 32,M8 7 52,eK 1 7 33]) (jS (jR [iG 34 3 2,.op (some 35) (.build [(.slice none 0 0),(.slice none 0 0),(.int .i64 0),(.slice none 0 0),(.slice none 0 0),(.slice none 0 0),(.slice none 0 0),(.slice none 0 0),(.int .i64 0),(.int .i64 0),(.int .i64 0)] [(0,3,(.t 34))]) none,CO 8 44 0 0 0 0 0 0 0 0 0 0 0 0 0 0 0 0 0 0,eK 11 8 35]) (jS (jS (jR [.op (some 36) (.mkfn 35 [] [(.t 7),(.t 8)]) none,mB 37 17 36,oS 38 37]) (jC 38 (jS (jR [JO 39 0 0 0 0 0 0 0 0 0 0 0 0 0 0 0 0 0 0,eK 11 4 39,jA 5 16]) .ret) .skip)) (jS (jR [iG 40 11 8,eK 11 4 40,jA 5 0]) .ret))))))))
def Sz:cP:={n:=41,own:=[2],frz:=[],ord:=[]}
theorem JY:aD Tryd.prog Sz Tryd.f11=some (c11,41,[(4,some (true,11)),(5,none)],false):=by kernel_rfl
def c12:aJ:=(jS (jR [CO 0 44 0 0 0 0 0 0 0 0 0 0 0 0 0 0 0 0 0 0]) (jS (jR [.op (some 3) (.build [(.int .i64 0),(.int .i64 0),(.int .i64 0),(.int .i64 0),(.slice none 0 0),(.bool false),(.slice none 0 0),(.slice none 0 0)] [(0,1,(.c (.int .i64 1))),(3,1,(.c (.int .i64 (-3))))]) none,.op (some 4) (.mkF 3 2 1 [(.c (.int .i64 0)),(.c (.int .i64 (-1)))]) none,.op (some 5) (.mkF 3 1 1 [(.c (.int .i64 0))]) none,.op (some 6) (.build [(.int .i64 0),(.int .i64 0),(.int .i64 0),(.int .i64 0),(.slice none 0 0),(.bool false),(.slice none 0 0),(.slice none 0 0)] [(0,1,(.c (.int .i64 6))),(6,1,(.t 4)),(7,1,(.t 5)),(5,1,(.c (.bool true)))]) none,.op (some 7) (.mkF 80 2 8 [(.t 3),(.t 6)]) none,.op (some 8) (.mkF 3 2 1 [(.c (.int .i64 4)),(.c (.int .i64 5))]) none,.op (some 9) (.build [(.int .i64 0),(.int .i64 0),(.int .i64 0),(.int .i64 0),(.int .i64 0),(.slice none 0 0),(.slice none 0 0)] [(0,1,(.c (.int .i64 1))),(5,1,(.t 7)),(6,1,(.t 8))]) none,Ng 1 82 0 0 0 0 0 0 0 0 0,eK 7 1 9]) (jS (jR [iG 10 7 1,tI 11 82 1 7 10,.op (some 12) (.build [(.int .i64 0),(.int .i64 0),(.bool false),(.bool false),(.bool false)] [(1,1,(.c (.int .i64 1))),(3,1,(.c (.bool true)))]) none,tI 13 85 1 5 12,.op (some 14) (.build [(.int .i64 0),(.slice none 0 0),(.slice none 0 0),(.int .i64 0),(.int .i64 0),(.int .i64 0),(.slice none 0 0)] [(1,1,(.t 11)),(2,1,(.t 13)),(4,1,(.c (.int .i64 6))),(5,1,(.c (.int .i64 2)))]) none,tI 15 88 1 7 14,.op (some 16) (.build [(.int .i64 0),(.int .i64 0)] [(0,1,(.c (.int .i64 0))),(1,1,(.c (.int .i64 7)))]) none,tI 17 90 1 2 16,.op (some 18) (.build [(.slice none 0 0),(.slice none 0 0),(.int .i64 0),(.slice none 0 0),(.slice none 0 0),(.slice none 0 0),(.slice none 0 0),(.slice none 0 0),(.int .i64 0),(.int .i64 0),(.int .i64 0)] [(5,1,(.t 15)),(7,1,(.t 17)),(8,1,(.c (.int .i64 1)))]) none,CO 2 44 0 0 0 0 0 0 0 0 0 0 0 0 0 0 0 0 0 0,eK 11 2 18]) (jS (jR [.op (some 19) (.build [(.int .i64 0),(.int .i64 0),(.int .i64 0),(.int .i64 0),(.slice none 0 0),(.bool false),(.slice none 0 0),(.slice none 0 0)] [(0,1,(.c (.int .i64 2))),(1,1,(.c (.int .i64 2)))]) none,.op (some 20) (.build [(.bool false),(.int .i64 0),(.int .i64 0),(.int .i64 0),(.int .i64 0),(.int .i64 0),(.slice none 0 0),(.bool false),(.slice none 0 0),(.slice none 0 0)] [(0,1,(.c (.bool true))),(1,1,(.c (.int .i64 (-1)))),(2,8,(.t 19))]) none,tI 21 92 1 10 20,gI 22 3 2,gI 23 0 22,eK 1 23 21]) (jS (jR [.op (some 24) (.mkF 78 1 1 [(.c (.slice none 0 0))]) none,gI 25 6 2,eK 1 25 24]) (jS (jR [iG 26 11 2,eK 11 0 26]) .ret))))))
def SA:cP:={n:=27,own:=[],frz:=[],ord:=[]}
theorem JZ:aD Tryd.prog SA Tryd.f12=some (c12,27,[(0,some (true,11))],false):=by kernel_rfl
def c13:aJ:=(jS (jR [mZ 4 0 0]) (jS (jR [ah 7 0,.op (some 8) (.makeS 5 1 1 [(.int .u8 0)] (.t 7) (.t 7)) none,ah 5 8]) (jS (jS (jR [jA 6 0]) (jB 0 (jL [9,10,11,14,15,16,17,12,13,6] (jS (jS (jR [ah 9 6,ah 10 0,jH 11 9 10]) (jC 11 .skip (jX 0))) (jS (jB 1 (jR [ah 14 5,ah 15 6,ah 16 1,gJ 17 1 14 15,eK 1 17 16])) (jR [ah 12 6,iy 13 12 1,ah 6 13])))))) (jS (jR [ah 18 5,ah 4 18]) .ret))))
def SB:cP:={n:=19,own:=[],frz:=[],ord:=[]}
theorem J0:aD Tryd.prog SB Tryd.f13=some (c13,19,[(4,none)],false):=by kernel_rfl
def c14:aJ:=(jS (jR [mZ 2 0 0]) (jS (jR [ah 5 0,Ff 6 2 5,ah 3 6]) (jS (jS (jR [ah 7 0,Fe 8 7 0]) (jC 8 (jR [ah 9 0,OC 10 2 9,Nf 11 10 1,ah 3 11]) .skip)) (jS (jR [mZ 4 0 0]) (jS (jB 0 (jL [12,13,14,15,16,17,18,19,20,4,21,22,3] (jS (jS (jR [ah 12 3,Fg 13 12 128]) (jC 13 .skip (jX 0))) (jB 1 (jS (jR [ah 14 4,ah 15 3,Fh 16 15 128,.op (some 17) (.bin .add (.c (.int .i64 128)) (.t 16)) none,tJ 18 17,tI 19 5 1 1 18,zU 20 5 1 1 0 14 19,ah 4 20]) (jR [ah 21 3,Hv 22 21 128,ah 3 22])))))) (jS (jR [ah 23 4,ah 24 3,tJ 25 24,tI 26 5 1 1 25,zU 27 5 1 1 0 23 26,ah 2 27]) .ret))))))
def SC:cP:={n:=28,own:=[],frz:=[],ord:=[]}
theorem J1:aD Tryd.prog SC Tryd.f14=some (c14,28,[(2,none)],false):=by kernel_rfl
def c15:aJ:=(jS (jR [mZ 2 0 0]) (jS (jR [ah 4 0,mB 5 37 4,ah 3 5]) (jS (jR [ah 6 3,Fj 7 6 24,tJ 8 7,ah 9 3,Fj 10 9 16,tJ 11 10,ah 12 3,Fj 13 12 8,tJ 14 13,ah 15 3,tJ 16 15,.op (some 17) (.mkF 5 4 1 [(.t 8),(.t 11),(.t 14),(.t 16)]) none,ah 2 17]) .ret)))
def SD:cP:={n:=18,own:=[],frz:=[],ord:=[]}
theorem J2:aD Tryd.prog SD Tryd.f15=some (c15,18,[(2,none)],false):=by kernel_rfl
def c16:aJ:=(jS (jR [lA 2 44 0,lA 3 44 1,jK 4]) (jS (jR [.op (some 5) (.mov (.fn 38)) none]) (jS (jD [gI 6 0 2,JR 7 3 6,gI 8 0 3,JR 9 3 8,.op (some 10) (.callD 39 [(.t 7),(.t 9)]) none,ah 11 10,fP 12 5 11,Hs 13 11 2 11,fP 15 5 11,Hs 16 11 3 11,.op (some 14) (.callVD (.t 12) [(.t 13)]) (some (11,true)),.op (some 17) (.callVD (.t 15) [(.t 16)]) (some (11,true)),JN 18 22 14 17 11,jF 19 11 18,ah 4 19]) .ret)))
def SE:cP:={n:=20,own:=[2,3],frz:=[],ord:=[(2,[0,1,2,3,4,5,6,7,9,10,8,11,12,13,14],[[],[0],[],[2],.range 4,.range 5,.range 6,.range 6,.range 8,.range 6,.range 6,.range 11,.range 12,.range 13,.range 14])]}
theorem J3:aD Tryd.prog SE Tryd.f16=some (c16,20,[(4,none)],false):=by kernel_rfl
def Qb:aJ:=(jR [.op (some 2) (.alloc 4 [(.bool false)]) none])
def c17:aJ:=(jS (jR [ah 4 0,.pc (some 5) (.callV (.t 4) []) none]) (jS (jR [.op none (.store 1 (.t 2) (.c (.bool true))) none]) .ret))
def SF:cP:={n:=6,own:=[],frz:=[],ord:=[],pan:=[(2,1)]}
theorem uV:CM Tryd.prog SF Tryd.f17=some (Qb,c17,40,[2],3,[(2,some (false,1))]):=by kernel_rfl
def c18:aJ:=(.regX [.op (some 3) (.loadK 1000 false 1 (.t 0)) none,.op (some 5) (.loadK 1000 false 1 (.t 0)) none,.pc (some 4) (.call 19 [(.t 3)]) none,.pc (some 6) (.call 19 [(.t 5)]) none,.op none (.storeD 1 (.t 1) (.t 4)) none,.op none (.storeD 1 (.t 2) (.t 6)) none])
def SG:cP:={n:=7,own:=[],frz:=[],ord:=[(0,[0,2,1,3,4,5],[[],[0],[],[0,1,2],.range 4,.range 5])],px:=[4,6],bk:=[(0,1000)]}
theorem J4:aD Tryd.prog SG Tryd.f18=some (c18,7,[],false):=by kernel_rfl
def c19:aJ:=(jS (jR [jA 2 0]) (jS (jR [jA 3 0]) (jS (jS (jR [jA 6 0]) (jB 0 (jL [7,8,4,9,10,11,12,13,5,14,15,16,17,18,19,20,3,21,22,23,24,25,26,27,28,29,30,31,32,33,34,35,2,36,6] (jS (jR [Fe 7 6 6]) (jS (jC 7 .skip (jX 0)) (jS (jB 1 (jS (jR [ah 8 6,ah 4 8]) (jS (jR [ah 9 0,.pc (some 10) (.call 41 [(.t 9),(.c (.int .i64 1))]) none,.op (some 11) (.idxA 1 (.t 10) (.c (.int .i64 0))) none,gA 12 1 11,Nh 13 12,ah 5 13]) (jS (jR [ah 14 3,ah 15 5,Fh 16 15 128,ah 17 4,Ff 18 7 17,.op (some 19) (.bin .shl (.t 16) (.t 18)) none,.op (some 20) (.bin .or (.t 14) (.t 19)) none,ah 3 20]) (jS (jR [ah 21 5,Fe 22 21 128]) (jC 22 (jS (jR [ah 23 5,JK 24 23 0,ah 25 24,xK 26 4 25,OD 27 26 0 25,wE 28 25 27,pX 29 36 28]) (jS (jR [ah 30 3,Hv 31 30 2,ah 32 3,Fh 33 32 2,.op (some 34) (.un .neg (.t 33)) none,.op (some 35) (.bin .xor (.t 31) (.t 34)) none,ah 2 35]) .ret)) .skip)))))) (jR [iy 36 6 1,ah 6 36]))))))) (jR [.op (some 37) (.build [] []) none,Hw 38 98 37,Ni 38]))))
def SH:cP:={n:=39,own:=[],frz:=[],ord:=[],pan:=[(5,1),(8,6),(11,2)]}
theorem J5:aD Tryd.prog SH Tryd.f19=some (c19,39,[(2,none)],false):=by kernel_rfl
def SI:aJ:=(jR [gA 3 1 0,gA 4 1 1,xL 5 21 3 4,eK 1 2 5])
def SJ:cP:={n:=6,own:=[],frz:=[],ord:=[],pan:=[(0,2)]}
theorem J6:aD Tryd.prog SJ Tryd.f20=some (SI,6,[],false):=by kernel_rfl
def c21:aJ:=(jS (jR [mZ 4 0 0]) (jS (jR [ah 10 0,pX 11 19 10,ah 12 0,pX 13 19 12,ah 14 0,pX 15 19 14,ah 5 11,ah 6 13,ah 7 15]) (jS (jR [ah 16 5,Fg 17 16 0,ah 18 17,fP 19 5 18,fP 20 1 18,Fc 21 20 18,fP 22 0 18,Fl 23 22 18,iA 24 0 23 18,jE 25 1 24 18,Fc 26 25 18,.op (some 27) (.bin .add (.t 21) (.t 26)) (some (18,true)),Nj 28 19 27 18,jF 29 18 28,ah 30 29,fP 31 7 30,.op (some 32) (.bin .geq (.t 31) (.c (.int .i64 0))) (some (30,true)),jF 33 30 32,pX 34 36 33]) (jS (jR [ah 35 5,.op (some 36) (.makeS 5 1 1 [(.int .u8 0)] (.t 35) (.t 35)) none,ah 8 36]) (jS (jR [ah 37 8,ah 38 1,.op (some 39) (.copy 5 1 (.t 37) (.t 38)) none]) (jS (jR [.op (some 9) (.mov (.c (.int .i64 (-1)))) none]) (jS (jS (jR [ah 40 7,jA 41 0]) (jB 0 (jL [42,43,44,45,46,9,47,48,49,50,51,52,53,54,55,56,57,58,59,60,61,62,63,64,65,66,67,41] (jS (jR [jH 42 41 40]) (jS (jC 42 .skip (jX 0)) (jS (jB 1 (jS (jR [ah 43 9,ah 44 0,pX 45 19 44,Hy 46 43 45,ah 9 46]) (jS (jR [ah 47 9,Fg 48 47 0,ah 49 48,fP 50 9 49,fP 51 5 49,.op (some 52) (.call 23 [(.t 51)]) (some (49,true)),.op (some 53) (.bin .lss (.t 50) (.t 52)) (some (49,true)),jF 54 49 53,pX 55 36 54]) (.regX [.op (some 56) (.mov (.t 8)) none,.op (some 57) (.mov (.t 9)) none,.op (some 58) (.bin .mul (.c (.int .i64 32)) (.t 57)) none,.op (some 59) (.slc 1 (.t 56) (some (.t 58)) none) none,.op (some 60) (.mov (.t 0)) none,.op (some 61) (.mov (.t 8)) none,.op (some 62) (.mov (.t 9)) none,.op (some 63) (.callD 25 [(.t 61),(.t 62)]) none,.op (some 64) (.len (.t 63)) none,.pc (some 65) (.call 41 [(.t 60),(.t 64)]) none,.op (some 66) (.copyX 5 1 (.t 59) (.t 65)) none])))) (jR [iy 67 41 1,ah 41 67]))))))) (jS (jR [ah 68 8,ah 4 68]) .ret))))))))
def SK:cP:={n:=69,own:=[],frz:=[],ord:=[(10,.range 11,[[],[],[1],[0,1,2],[],[],[],[5,6],[5,6,7],[4,5,6,7,8],.range 10])],co:=[66],pan:=[(1,1),(1,3),(1,5),(2,18),(8,2),(9,8)],px:=[65]}
theorem J7:aD Tryd.prog SK Tryd.f21=some (c21,69,[(4,none)],false):=by kernel_rfl
def SL:aJ:=(jS (jR [jK 4]) (jS (jR [ah 5 0,.op (some 6) (.b2s (.t 5)) none,ah 7 1,.op (some 8) (.b2s (.t 7)) none,zW 9 6 8,ah 4 9]) .ret))
def SM:cP:={n:=10,own:=[],frz:=[],ord:=[]}
theorem J8:aD Tryd.prog SM Tryd.f22=some (SL,10,[(4,none)],false):=by kernel_rfl
def SN:aJ:=(jS (jR [jA 2 0]) (jS (jR [ah 3 0,iy 4 3 31,Hv 5 4 32,ah 2 5]) .ret))
def SQ:cP:={n:=6,own:=[],frz:=[],ord:=[]}
theorem J9:aD Tryd.prog SQ Tryd.f23=some (SN,6,[(2,none)],false):=by kernel_rfl
def SR:aJ:=(jS (jR [jK 4]) (jS (jR [ah 5 0,gK 6 5,ah 7 1,gK 8 7,.op (some 9) (.bin .geq (.t 6) (.t 8)) none,ah 10 9,fP 11 0 10,fP 12 1 10,Fc 13 12 10,.op (some 14) (.slc 1 (.t 11) none (some (.t 13))) (some (10,true)),fP 15 1 10,CP 16 22 14 15 10,jF 17 10 16,ah 4 17]) .ret))
def SS:cP:={n:=18,own:=[],frz:=[],ord:=[]}
theorem Ka:aD Tryd.prog SS Tryd.f24=some (SR,18,[(4,none)],false):=by kernel_rfl
def SW:aJ:=(jS (jR [mZ 4 0 0]) (jS (jR [ah 5 0,ah 6 1,Ff 7 32 6,ah 8 0,gK 9 8,.op (some 10) (.mm false [(.t 7),(.t 9)]) none,ah 11 1,Ff 12 32 11,iy 13 12 32,ah 14 0,gK 15 14,.op (some 16) (.mm false [(.t 13),(.t 15)]) none,.op (some 17) (.slc 1 (.t 5) (some (.t 10)) (some (.t 16))) none,ah 4 17]) .ret))
def SX:cP:={n:=18,own:=[],frz:=[],ord:=[]}
theorem DF:aD Tryd.prog SX Tryd.f25=some (SW,18,[(4,none)],false):=by kernel_rfl
def SY:aJ:=(jS (jR [ah 5 1,Ff 6 2 5,ah 4 6]) (jS (jS (jR [ah 7 1,Fe 8 7 0]) (jC 8 (jR [ah 9 1,OC 10 2 9,Nf 11 10 1,ah 4 11]) .skip)) (jS (jB 0 (jL [12,13,16,17,18,19,20,21,22,23,14,15,4] (jS (jS (jR [ah 12 4,Fg 13 12 128]) (jC 13 .skip (jX 0))) (jS (jB 1 (jR [ah 16 0,fp 17 16,gI 18 0 17,ah 19 4,Fh 20 19 128,.op (some 21) (.bin .add (.c (.int .i64 128)) (.t 20)) none,tJ 22 21,jt 23 42 18 22])) (jR [ah 14 4,Hv 15 14 128,ah 4 15]))))) (jR [ah 24 0,fp 25 24,gI 26 0 25,ah 27 4,tJ 28 27,jt 29 42 26 28]))))
def SZ:cP:={n:=30,own:=[],frz:=[],ord:=[]}
theorem Kb:aD Tryd.prog SZ Tryd.f26=some (SY,30,[],false):=by kernel_rfl
def S0:aJ:=(jS (jR [jA 4 0,JS 5]) (jS (jR [ah 8 0,fp 9 8,gI 10 2 9,.op none (.store 1 (.t 10) (.c (.int .i8 0))) none]) (jS (jR [ah 12 0,ah 13 1,gK 14 13,jt 15 43 12 14,ah 11 15,jG 16 11 0,jG 17 11 1,ah 6 16,ah 7 17]) (jS (jS (jR [ah 18 7,oS 19 18]) (jC 19 (jR [ah 20 0,ah 21 1,gK 22 21,jt 23 44 20 22,ah 6 23]) .skip)) (jS (jR [ah 24 0,fp 25 24,gI 26 0 25,gA 27 1 26,ah 28 6,JT 29 1 27 28,ah 30 1,.op (some 31) (.copy 5 1 (.t 29) (.t 30)) none,ah 4 31,JS 5]) .ret)))))
def S1:cP:={n:=32,own:=[],frz:=[],ord:=[]}
theorem Kc:aD Tryd.prog S1 Tryd.f27=some (S0,32,[(4,none),(5,none)],false):=by kernel_rfl
def S2:aJ:=(jS (jR [mZ 2 0 0]) (jS (jD [ah 3 0,fp 4 3,gI 5 0 4,tH 6 1 5,ah 7 0,fp 8 7,gI 9 1 8,tH 10 1 9,JT 11 1 6 10,ah 2 11]) .ret))
def S3:cP:={n:=12,own:=[],frz:=[],ord:=[(1,.range 10,[[],[0],[0,1],[0,1,2],[],[4],[4,5],[4,5,6],.range 8,.range 9])]}
theorem Ke:aD Tryd.prog S3 Tryd.f28=some (S2,12,[(2,none)],false):=by kernel_rfl
def S5:aJ:=(jS (jR [jA 4 0]) (jS (jR [jA 5 7]) (jS (jS (jR [ah 8 0,gK 9 8,jA 10 0]) (jB 0 (jL [11,12,13,7,14,15,16,17,18,19,20,21,5,22,10] (jS (jR [jH 11 10 9]) (jS (jC 11 .skip (jX 0)) (jS (jB 1 (jS (jR [gJ 12 1 8 10,gA 13 1 12,ah 7 13]) (jR [ah 14 5,.op (some 15) (.bin .mul (.t 14) (.c (.int .i64 1000003))) none,ah 16 1,ah 17 7,.op (some 18) (.callV (.t 16) [(.t 17)]) none,Hy 19 15 18,iy 20 19 1,Fh 21 20 2147483647,ah 5 21]))) (jR [iy 22 10 1,ah 10 22]))))))) (jS (jR [ah 23 5,ah 4 23]) .ret))))
def S6:cP:={n:=24,own:=[],frz:=[],ord:=[]}
theorem Kf:aD Tryd.prog S6 Tryd.f29=some (S5,24,[(4,none)],false):=by kernel_rfl
def S7:aJ:=(jS (jR [jA 2 0]) (jS (jR [ah 3 0,Nh 4 3,ah 2 4]) .ret))
def S8:cP:={n:=5,own:=[],frz:=[],ord:=[]}
theorem Kg:aD Tryd.prog S8 Tryd.f30=some (S7,5,[(2,none)],false):=by kernel_rfl
def S9:aJ:=(jS (jR [mZ 0 0 0]) (jS (jR [.op (some 1) (.mkF 5 3 1 [(.c (.int .u8 76)),(.c (.int .u8 83)),(.c (.int .u8 1))]) none,ah 0 1]) .ret))
def Ta:cP:={n:=2,own:=[],frz:=[],ord:=[]}
theorem Kh:aD Tryd.prog Ta Tryd.f31=some (S9,2,[(0,none)],false):=by kernel_rfl
def c32:aJ:=(jR [gA 2 1 0,Hw 3 60 2,xL 4 33 3 1])
def Tc:cP:={n:=5,own:=[],frz:=[],ord:=[],pan:=[(0,2)]}
theorem Ki:aD Tryd.prog Tc Tryd.f32=some (c32,5,[],false):=by kernel_rfl
def Td:aJ:=(jS (jR [ah 4 0,ah 5 1,fp 6 5,gI 7 3 6,gI 8 0 7,uE 9 45 4 8 46]) (jS (jR [ah 10 0,ah 11 1,fp 12 11,gI 13 3 12,gI 14 1 13,uE 15 47 10 14 48]) (jS (jR [ah 16 0,ah 17 1,fp 18 17,gI 19 5 18,uE 20 49 16 19 50]) (jS (jR [ah 21 0,ah 22 1,fp 23 22,gI 24 6 23,uE 25 51 21 24 52]) (jS (jR [ah 26 0,ah 27 1,fp 28 27,gI 29 7 28,uE 30 53 26 29 54]) (.regX [.op (some 31) (.mov (.t 0)) none,.op (some 32) (.mov (.t 1)) none,.op (some 33) (.nilck (.t 32)) none,.op (some 34) (.fieldA 8 (.t 33)) none,.op (some 35) (.mov (.t 1)) none,.op (some 36) (.nilck (.t 35)) none,.op (some 37) (.fieldA 9 (.t 36)) none,.op (some 38) (.mov (.t 1)) none,.op (some 39) (.nilck (.t 38)) none,.op (some 40) (.fieldA 10 (.t 39)) none,.op (some 41) (.mkFD 122 3 1 [(.t 34),(.t 37),(.t 40)]) none,.pc (some 42) (.call 55 [(.t 31),(.t 41)]) none]))))))
def Te:cP:={n:=43,own:=[],frz:=[],ord:=[(5,.range 12,[[],[],[1],[1,2],[],[4],[4,5],[],[7],[7,8],[1,2,3,4,5,6,7,8,9],.range 11])],pan:=[(0,5),(1,5),(2,4),(3,4),(4,4)],px:=[42]}
theorem DG:aD Tryd.prog Te Tryd.f33=some (Td,43,[],false):=by kernel_rfl
def Tf:aJ:=(jS (jR [mZ 2 0 0]) (jS (jR [ah 4 0,mB 5 9 4,ah 3 5]) (jS (jR [ah 6 0,mB 7 56 6,ah 8 3,Fj 9 8 24,tJ 10 9,ah 11 3,Fj 12 11 16,tJ 13 12,ah 14 3,Fj 15 14 8,tJ 16 15,ah 17 3,tJ 18 17,.op (some 19) (.mkF 5 4 1 [(.t 10),(.t 13),(.t 16),(.t 18)]) none,zU 20 5 1 1 0 7 19,ah 2 20]) .ret)))
def Tg:cP:={n:=21,own:=[],frz:=[],ord:=[]}
theorem Kj:aD Tryd.prog Tg Tryd.f34=some (Tf,21,[(2,none)],false):=by kernel_rfl
def Ti:aJ:=(jS (jR [gA 2 1 0,Hw 3 52 2,xL 4 33 3 1]) (jR [gA 5 1 0,fp 6 5,gI 7 0 6,gA 8 1 7,gK 9 8,JU 10 9 0,pX 11 36 10]))
def Tj:cP:={n:=12,own:=[],frz:=[],ord:=[],pan:=[(0,2),(1,6)]}
theorem Kk:aD Tryd.prog Tj Tryd.f35=some (Ti,12,[],false):=by kernel_rfl
def Tl:aJ:=(jS (jR [ah 2 0,oS 3 2]) (jC 3 (jR [.op (some 4) (.build [] []) none,Hw 5 98 4,Ni 5]) .skip))
def Tm:cP:={n:=6,own:=[],frz:=[],ord:=[],pan:=[(1,2)]}
theorem Kl:aD Tryd.prog Tm Tryd.f36=some (Tl,6,[],false):=by kernel_rfl
def Tn:aJ:=(jS (jR [jA 2 0]) (jS (jR [jA 3 7]) (jS (jS (jR [jA 4 0]) (jB 0 (jL [5,6,7,8,11,12,13,14,15,16,17,18,19,20,3,9,10,4] (jS (jS (jR [ah 5 4,ah 6 0,gK 7 6,jH 8 5 7]) (jC 8 .skip (jX 0))) (jS (jB 1 (jR [ah 11 3,.op (some 12) (.bin .mul (.t 11) (.c (.int .i64 1000003))) none,ah 13 0,ah 14 4,gJ 15 1 13 14,gA 16 1 15,Nh 17 16,Hy 18 12 17,iy 19 18 1,Fh 20 19 2147483647,ah 3 20])) (jR [ah 9 4,iy 10 9 1,ah 4 10])))))) (jS (jR [ah 21 3,ah 2 21]) .ret))))
def Tp:cP:={n:=22,own:=[],frz:=[],ord:=[]}
theorem Km:aD Tryd.prog Tp Tryd.f37=some (Tn,22,[(2,none)],false):=by kernel_rfl
def Tq:aJ:=(jS (jR [lA 1 44 0,mZ 2 0 0]) (jS (jR [Nc 4 0 0 0 0,Ht 5 95 4,ah 3 5]) (jS (jR [ah 6 3,Hw 7 94 6,jt 8 33 7 1]) (jS (jR [ah 9 3,fp 10 9,gI 11 0 10,mB 12 28 11,ah 2 12]) .ret))))
def Tr:cP:={n:=13,own:=[1],frz:=[],ord:=[]}
theorem Kn:aD Tryd.prog Tr Tryd.f38=some (Tq,13,[(2,none)],false):=by kernel_rfl
def Tt:aJ:=(jS (jR [lA 2 35 0,lA 3 35 1,jK 4]) (jS (jR [gI 5 2 2,gA 6 1 5,gI 7 2 3,gA 8 1 7,zW 9 6 8,ah 10 9,iA 11 0 2 10,jE 12 1 11 10,iA 13 0 3 10,jE 14 1 13 10,zX 15 57 12 14 58 10,jF 16 10 15,ah 17 16,iA 18 1 2 17,jE 19 1 18 17,iA 20 1 3 17,jE 21 1 20 17,zX 22 59 19 21 60 17,jF 23 17 22,ah 4 23]) .ret))
def Tv:cP:={n:=24,own:=[2,3],frz:=[],ord:=[]}
theorem Ko:aD Tryd.prog Tv Tryd.f39=some (Tt,24,[(4,none)],false):=by kernel_rfl
def Tw:aJ:=(jS (jR [ah 5 1,.op (some 6) (.eqN true (.t 5)) none]) (jC 6 (jS (jS (jR [ah 8 1,.op (some 9) (.tas 98 (.agg #[]) (.t 8)) none,ah 7 9,jG 10 7 0,jG 11 7 1,.op (some 2) (.alloc 98 []) none,eK 0 2 10,ah 3 11]) (jS (jR [ah 12 3,oS 13 12]) (jC 13 (jR [ah 14 1,Ni 14]) .skip))) (jR [.op none (.store 1 (.t 0) (.c (.bool false))) none])) .skip))
def Tx:cP:={n:=15,own:=[],frz:=[],ord:=[],pan:=[(4,1)]}
theorem Kq:zS Tryd.prog Tx Tryd.f40=some (Tw,4,1):=by kernel_rfl
def Tz:aJ:=(jS (jR [mZ 4 0 0]) (jS (jR [ah 6 1,Fg 7 6 0,ah 8 7,fP 9 1 8,fP 10 0 8,Fl 11 10 8,iA 12 0 11 8,jE 13 1 12 8,Fc 14 13 8,Nj 15 9 14 8,jF 16 8 15,pX 17 36 16]) (jS (jR [ah 18 0,fp 19 18,gI 20 0 19,gA 21 1 20,ah 22 1,JQ 23 1 21 22,ah 5 23]) (jS (jR [ah 24 0,ah 25 0,fp 26 25,gI 27 0 26,gA 28 1 27,ah 29 1,JT 30 1 28 29,fp 31 24,gI 32 0 31,eK 1 32 30]) (jS (jR [ah 33 5,ah 4 33]) .ret)))))
def TA:cP:={n:=34,own:=[],frz:=[],ord:=[],pan:=[(1,11)]}
theorem Kr:aD Tryd.prog TA Tryd.f41=some (Tz,34,[(4,none)],false):=by kernel_rfl
def TB:aJ:=(jS (jR [JS 4]) (jS (jR [ah 7 0,fp 8 7,gI 9 2 8,.op none (.store 1 (.t 9) (.c (.int .i8 0))) none]) (jS (jR [ah 11 0,.op (some 12) (.call 43 [(.t 11),(.c (.int .i64 1))]) none,ah 10 12,jG 13 10 0,jG 14 10 1,ah 5 13,ah 6 14]) (jS (jS (jR [ah 15 6,oS 16 15]) (jC 16 (jR [ah 17 0,.op (some 18) (.call 44 [(.t 17),(.c (.int .i64 1))]) none,ah 5 18]) .skip)) (jS (jR [ah 19 0,fp 20 19,gI 21 0 20,gA 22 1 21,ah 23 5,ah 24 1,gJ 25 1 22 23,eK 1 25 24]) (jS (jR [JS 4]) .ret))))))
def TD:cP:={n:=26,own:=[],frz:=[],ord:=[]}
theorem Ks:aD Tryd.prog TD Tryd.f42=some (TB,26,[(4,none)],false):=by kernel_rfl
def TF:aJ:=(jS (jR [jA 4 0,jK 5]) (jS (jS (jR [ah 7 0,fp 8 7,gI 9 0 8,gA 10 1 9,gK 11 10,ah 6 11]) (jS (jR [ah 12 1,ah 13 0,fp 14 13,gI 15 0 14,gA 16 1 15,.op (some 17) (.capa (.t 16)) none,ah 18 6,Hu 19 17 18,.op (some 20) (.bin .leq (.t 12) (.t 19)) none]) (jC 20 (jS (jR [ah 21 0,ah 22 0,fp 23 22,gI 24 0 23,gA 25 1 24,ah 26 6,ah 27 1,Hy 28 26 27,JQ 29 1 25 28,fp 30 21,gI 31 0 30,eK 1 31 29]) (jS (jR [ah 32 6,ah 4 32,wF 5]) .ret)) .skip))) (jS (jR [jA 4 0,jK 5]) .ret)))
def TG:cP:={n:=33,own:=[],frz:=[],ord:=[]}
theorem Kt:aD Tryd.prog TG Tryd.f43=some (TF,33,[(4,none),(5,none)],false):=by kernel_rfl
def TH:aJ:=(jS (jR [jA 4 0]) (jS (jR [ah 9 0,mB 10 61 9,ah 5 10]) (jS (jS (jR [ah 11 5,JU 12 11 0,ah 13 12,fP 14 0 13,Fl 15 14 13,iA 16 1 15 13,jE 17 1 16 13,OA 18 17 0 13,jF 19 13 18]) (jC 19 (jR [ah 20 0,mB 21 62 20]) .skip)) (jS (jS (jR [ah 23 0,ah 24 1,jt 25 43 23 24,ah 22 25,jG 26 22 0,jG 27 22 1,ah 6 26,ah 7 27]) (jS (jR [ah 28 7]) (jC 28 (jS (jR [ah 29 6,ah 4 29]) .ret) .skip))) (jS (jS (jR [ah 30 0,fp 31 30,gI 32 0 31,gA 33 1 32,.op (some 34) (.eqS false (.t 33) (.c (.slice none 0 0))) none,ah 35 34,fP 36 1 35,JV 37 36 64 35,jF 38 35 37]) (jC 38 (jS (jR [ah 39 0,ah 40 1,.op (some 41) (.makeS 5 1 1 [(.int .u8 0)] (.t 40) (.c (.int .i64 64))) none,fp 42 39,gI 43 0 42,eK 1 43 41]) (jS (jR [jA 4 0]) .ret)) .skip)) (jS (jR [ah 44 0,fp 45 44,gI 46 0 45,gA 47 1 46,.op (some 48) (.capa (.t 47)) none,ah 8 48]) (jS (jS (jR [ah 49 1,ah 50 8,Hv 51 50 2,ah 52 5,Hu 53 51 52,.op (some 54) (.bin .leq (.t 49) (.t 53)) none]) (jC 54 (jD [ah 55 0,fp 56 55,gI 57 0 56,tH 58 1 57,ah 59 0,fp 60 59,gI 61 0 60,tH 62 1 61,ah 63 0,fp 64 63,gI 65 1 64,tH 66 1 65,JT 67 1 62 66,.op (some 68) (.copyX 5 1 (.t 58) (.t 67)) none]) (jS (jR [ah 69 8,ah 70 8,.op (some 71) (.bin .sub (.c (.int .i64 9223372036854775807)) (.t 70)) none,ah 72 1,Hu 73 71 72,.op (some 74) (.bin .gtr (.t 69) (.t 73)) none]) (jC 74 (jR [.op (some 75) (.dead) none,.op none (.pan (.t 75)) none]) (.regX [.op (some 76) (.mov (.t 0)) none,.op (some 77) (.mov (.t 0)) none,.op (some 78) (.nilck (.t 77)) none,.op (some 79) (.fieldA 0 (.t 78)) none,.op (some 80) (.loadD false 1 (.t 79)) none,.op (some 81) (.mov (.t 0)) none,.op (some 82) (.nilck (.t 81)) none,.op (some 83) (.fieldA 1 (.t 82)) none,.op (some 84) (.loadD false 1 (.t 83)) none,.op (some 85) (.slc 1 (.t 80) (some (.t 84)) none) none,.op (some 86) (.mov (.t 0)) none,.op (some 87) (.nilck (.t 86)) none,.op (some 88) (.fieldA 1 (.t 87)) none,.op (some 89) (.loadD false 1 (.t 88)) none,.op (some 90) (.mov (.t 1)) none,.op (some 91) (.bin .add (.t 89) (.t 90)) none,.pc (some 92) (.call 63 [(.t 85),(.t 91)]) none,.op (some 93) (.nilck (.t 76)) none,.op (some 94) (.fieldA 0 (.t 93)) none,.op none (.storeD 1 (.t 94) (.t 92)) none]))))) (jS (jR [ah 95 0,fp 96 95,gI 97 1 96,JP 1 97 0]) (jS (jR [ah 98 0,ah 99 0,fp 100 99,gI 101 0 100,gA 102 1 101,ah 103 5,ah 104 1,Hy 105 103 104,JQ 106 1 102 105,fp 107 98,gI 108 0 107,eK 1 108 106]) (jS (jR [ah 109 5,ah 4 109]) .ret))))))))))
def TI:cP:={n:=110,own:=[],frz:=[],ord:=[(12,.range 14,[[],[0],[0,1],[0,1,2],[],[4],[4,5],[4,5,6],[],[8],[8,9],[8,9,10],[4,5,6,7,8,9,10,11],.range 13]),(15,.range 20,[[],[],[1],[1,2],[1,2,3],[],[5],[5,6],[5,6,7],[1,2,3,4,5,6,7,8],[],[10],[10,11],[10,11,12],[],[10,11,12,13,14],[1,2,3,4,5,6,7,8,9,10,11,12,13,14,15],.range 17,.range 18,.range 19])],co:=[68],px:=[92]}
theorem DH:aD Tryd.prog TI Tryd.f44=some (TH,110,[(4,none)],false):=by kernel_rfl
def TJ:aJ:=(jS (jS (.regX [.op (some 8) (.mov (.t 0)) none,.op (some 9) (.mov (.t 1)) none,.op (some 10) (.nilck (.t 9)) none,.op (some 11) (.loadD false 1 (.t 10)) none,.op (some 12) (.len (.t 11)) none,.op (some 13) (.mkmv "leasehold/snapshot.size" (.t 8)) none,.op (some 14) (.nilck (.t 13)) none,.op (some 15) (.mov (.t 8)) none,.pc (some 16) (.callV (.mt "leasehold/snapshot.size" 15) [(.t 12)]) none,.op (some 6) (.mov (.t 16)) none]) (jS (jR [ah 17 6,ah 18 1,fp 19 18,gA 20 1 19,gK 21 20,mH 22 17 21]) (jC 22 (jR [ah 23 1,ah 24 6,.op (some 25) (.makeS 92 10 128 [(.bool false),(.int .i64 0),(.int .i64 0),(.int .i64 0),(.int .i64 0),(.int .i64 0),(.slice none 0 0),(.bool false),(.slice none 0 0),(.slice none 0 0)] (.t 24) (.t 24)) none,fp 26 23,eK 1 26 25]) .skip))) (jS (jR [ah 27 1,fp 28 27,gA 29 1 28,gK 30 29,jA 31 0]) (jB 0 (jL [32,33,7,34,35,36,37,38,39,40,41,42,31] (jS (jR [jH 32 31 30]) (jS (jC 32 .skip (jX 0)) (jS (jB 1 (jS (jR [ah 33 31,ah 7 33]) (jR [ah 34 2,ah 35 0,ah 36 1,fp 37 36,gA 38 1 37,ah 39 7,gJ 40 10 38 39,xM 41 34 35 40]))) (jR [iy 42 31 1,ah 31 42]))))))))
def TM:cP:={n:=43,own:=[],frz:=[],ord:=[(0,.range 10,[[],[],[1],[1,2],[1,2,3],[0],[0,5],[0,5,6],.range 8,.range 9])],pan:=[(6,7)],px:=[16]}
theorem DI:aD Tryd.prog TM Tryd.f45=some (TJ,43,[],false):=by kernel_rfl
def TN:aJ:=(jS (jR [ah 4 0,ah 5 1,fp 6 5,gI 7 0 6,tI 8 140 1 1 7,xL 9 64 4 8]) (jS (jR [ah 10 0,ah 11 1,fp 12 11,gI 13 1 12,tI 14 122 1 1 13,xL 15 55 10 14]) (jR [ah 16 0,ah 17 1,fp 18 17,gI 19 2 18,xL 20 65 16 19])))
def TP:cP:={n:=21,own:=[],frz:=[],ord:=[],pan:=[(0,5),(1,5),(2,4)]}
theorem DJ:aD Tryd.prog TP Tryd.f46=some (TN,21,[],false):=by kernel_rfl
def TQ:aJ:=(jS (jS (.regX [.op (some 8) (.mov (.t 0)) none,.op (some 9) (.mov (.t 1)) none,.op (some 10) (.nilck (.t 9)) none,.op (some 11) (.loadD false 1 (.t 10)) none,.op (some 12) (.len (.t 11)) none,.op (some 13) (.mkmv "leasehold/snapshot.size" (.t 8)) none,.op (some 14) (.nilck (.t 13)) none,.op (some 15) (.mov (.t 8)) none,.pc (some 16) (.callV (.mt "leasehold/snapshot.size" 15) [(.t 12)]) none,.op (some 6) (.mov (.t 16)) none]) (jS (jR [ah 17 6,ah 18 1,fp 19 18,gA 20 1 19,gK 21 20,mH 22 17 21]) (jC 22 (jR [ah 23 1,ah 24 6,.op (some 25) (.makeS 4 1 1 [(.bool false)] (.t 24) (.t 24)) none,fp 26 23,eK 1 26 25]) .skip))) (jS (jR [ah 27 1,fp 28 27,gA 29 1 28,gK 30 29,jA 31 0]) (jB 0 (jL [32,33,7,34,35,36,37,38,39,40,41,42,31] (jS (jR [jH 32 31 30]) (jS (jC 32 .skip (jX 0)) (jS (jB 1 (jS (jR [ah 33 31,ah 7 33]) (jR [ah 34 2,ah 35 0,ah 36 1,fp 37 36,gA 38 1 37,ah 39 7,gJ 40 1 38 39,xM 41 34 35 40]))) (jR [iy 42 31 1,ah 31 42]))))))))
def TR:cP:={n:=43,own:=[],frz:=[],ord:=[(0,.range 10,[[],[],[1],[1,2],[1,2,3],[0],[0,5],[0,5,6],.range 8,.range 9])],pan:=[(6,7)],px:=[16]}
theorem DK:aD Tryd.prog TR Tryd.f47=some (TQ,43,[],false):=by kernel_rfl
def TT:aJ:=(jR [ah 4 0,ah 5 1,tI 6 140 1 1 5,xL 7 64 4 6])
def TU:cP:={n:=8,own:=[],frz:=[],ord:=[],pan:=[(0,3)]}
theorem DL:aD Tryd.prog TU Tryd.f48=some (TT,8,[],false):=by kernel_rfl
def c49:aJ:=(jS (jS (.regX [.op (some 8) (.mov (.t 0)) none,.op (some 9) (.mov (.t 1)) none,.op (some 10) (.nilck (.t 9)) none,.op (some 11) (.loadD false 1 (.t 10)) none,.op (some 12) (.len (.t 11)) none,.op (some 13) (.mkmv "leasehold/snapshot.size" (.t 8)) none,.op (some 14) (.nilck (.t 13)) none,.op (some 15) (.mov (.t 8)) none,.pc (some 16) (.callV (.mt "leasehold/snapshot.size" 15) [(.t 12)]) none,.op (some 6) (.mov (.t 16)) none]) (jS (jR [ah 17 6,ah 18 1,fp 19 18,gA 20 1 19,gK 21 20,mH 22 17 21]) (jC 22 (jR [ah 23 1,ah 24 6,.op (some 25) (.makeS 88 7 104 [(.int .i64 0),(.slice none 0 0),(.slice none 0 0),(.int .i64 0),(.int .i64 0),(.int .i64 0),(.slice none 0 0)] (.t 24) (.t 24)) none,fp 26 23,eK 1 26 25]) .skip))) (jS (jR [ah 27 1,fp 28 27,gA 29 1 28,gK 30 29,jA 31 0]) (jB 0 (jL [32,33,7,34,35,36,37,38,39,40,41,42,31] (jS (jR [jH 32 31 30]) (jS (jC 32 .skip (jX 0)) (jS (jB 1 (jS (jR [ah 33 31,ah 7 33]) (jR [ah 34 2,ah 35 0,ah 36 1,fp 37 36,gA 38 1 37,ah 39 7,gJ 40 7 38 39,xM 41 34 35 40]))) (jR [iy 42 31 1,ah 31 42]))))))))
def TV:cP:={n:=43,own:=[],frz:=[],ord:=[(0,.range 10,[[],[],[1],[1,2],[1,2,3],[0],[0,5],[0,5,6],.range 8,.range 9])],pan:=[(6,7)],px:=[16]}
theorem DM:aD Tryd.prog TV Tryd.f49=some (c49,43,[],false):=by kernel_rfl
def TW:aJ:=(jS (jR [ah 4 0,ah 5 1,fp 6 5,gI 7 0 6,tI 8 122 1 1 7,xL 9 55 4 8]) (jS (jR [ah 10 0,ah 11 1,fp 12 11,gI 13 1 12,uE 14 66 10 13 67]) (jS (jR [ah 15 0,ah 16 1,fp 17 16,gI 18 2 17,uE 19 68 15 18 69]) (jS (.regX [.op (some 20) (.mov (.t 0)) none,.op (some 21) (.mov (.t 1)) none,.op (some 22) (.nilck (.t 21)) none,.op (some 23) (.fieldA 3 (.t 22)) none,.op (some 24) (.mov (.t 1)) none,.op (some 25) (.nilck (.t 24)) none,.op (some 26) (.fieldA 4 (.t 25)) none,.op (some 27) (.mov (.t 1)) none,.op (some 28) (.nilck (.t 27)) none,.op (some 29) (.fieldA 5 (.t 28)) none,.op (some 30) (.mkFD 122 3 1 [(.t 23),(.t 26),(.t 29)]) none,.pc (some 31) (.call 55 [(.t 20),(.t 30)]) none]) (jR [ah 32 0,ah 33 1,fp 34 33,gI 35 6 34,uE 36 70 32 35 71])))))
def TY:cP:={n:=37,own:=[],frz:=[],ord:=[(3,.range 12,[[],[],[1],[1,2],[],[4],[4,5],[],[7],[7,8],[1,2,3,4,5,6,7,8,9],.range 11])],pan:=[(0,5),(1,4),(2,4),(4,4)],px:=[31]}
theorem DN:aD Tryd.prog TY Tryd.f50=some (TW,37,[],false):=by kernel_rfl
def c51:aJ:=(jS (jS (.regX [.op (some 8) (.mov (.t 0)) none,.op (some 9) (.mov (.t 1)) none,.op (some 10) (.nilck (.t 9)) none,.op (some 11) (.loadD false 1 (.t 10)) none,.op (some 12) (.len (.t 11)) none,.op (some 13) (.mkmv "leasehold/snapshot.size" (.t 8)) none,.op (some 14) (.nilck (.t 13)) none,.op (some 15) (.mov (.t 8)) none,.pc (some 16) (.callV (.mt "leasehold/snapshot.size" 15) [(.t 12)]) none,.op (some 6) (.mov (.t 16)) none]) (jS (jR [ah 17 6,ah 18 1,fp 19 18,gA 20 1 19,gK 21 20,mH 22 17 21]) (jC 22 (jR [ah 23 1,ah 24 6,.op (some 25) (.makeS 78 1 24 [(.slice none 0 0)] (.t 24) (.t 24)) none,fp 26 23,eK 1 26 25]) .skip))) (jS (jR [ah 27 1,fp 28 27,gA 29 1 28,gK 30 29,jA 31 0]) (jB 0 (jL [32,33,7,34,35,36,37,38,39,40,41,42,31] (jS (jR [jH 32 31 30]) (jS (jC 32 .skip (jX 0)) (jS (jB 1 (jS (jR [ah 33 31,ah 7 33]) (jR [ah 34 2,ah 35 0,ah 36 1,fp 37 36,gA 38 1 37,ah 39 7,gJ 40 1 38 39,xM 41 34 35 40]))) (jR [iy 42 31 1,ah 31 42]))))))))
def T9:cP:={n:=43,own:=[],frz:=[],ord:=[(0,.range 10,[[],[],[1],[1,2],[1,2,3],[0],[0,5],[0,5,6],.range 8,.range 9])],pan:=[(6,7)],px:=[16]}
theorem DP:aD Tryd.prog T9 Tryd.f51=some (c51,43,[],false):=by kernel_rfl
def Ua:aJ:=(jR [ah 4 0,ah 5 1,uE 6 72 4 5 65])
def Ub:cP:={n:=7,own:=[],frz:=[],ord:=[],pan:=[(0,2)]}
theorem DQ:aD Tryd.prog Ub Tryd.f52=some (Ua,7,[],false):=by kernel_rfl
def Uc:aJ:=(jS (jS (.regX [.op (some 8) (.mov (.t 0)) none,.op (some 9) (.mov (.t 1)) none,.op (some 10) (.nilck (.t 9)) none,.op (some 11) (.loadD false 1 (.t 10)) none,.op (some 12) (.len (.t 11)) none,.op (some 13) (.mkmv "leasehold/snapshot.size" (.t 8)) none,.op (some 14) (.nilck (.t 13)) none,.op (some 15) (.mov (.t 8)) none,.pc (some 16) (.callV (.mt "leasehold/snapshot.size" 15) [(.t 12)]) none,.op (some 6) (.mov (.t 16)) none]) (jS (jR [ah 17 6,ah 18 1,fp 19 18,gA 20 1 19,gK 21 20,mH 22 17 21]) (jC 22 (jR [ah 23 1,ah 24 6,.op (some 25) (.makeS 90 2 16 [(.int .i64 0),(.int .i64 0)] (.t 24) (.t 24)) none,fp 26 23,eK 1 26 25]) .skip))) (jS (jR [ah 27 1,fp 28 27,gA 29 1 28,gK 30 29,jA 31 0]) (jB 0 (jL [32,33,7,34,35,36,37,38,39,40,41,42,31] (jS (jR [jH 32 31 30]) (jS (jC 32 .skip (jX 0)) (jS (jB 1 (jS (jR [ah 33 31,ah 7 33]) (jR [ah 34 2,ah 35 0,ah 36 1,fp 37 36,gA 38 1 37,ah 39 7,gJ 40 2 38 39,xM 41 34 35 40]))) (jR [iy 42 31 1,ah 31 42]))))))))
def Ud:cP:={n:=43,own:=[],frz:=[],ord:=[(0,.range 10,[[],[],[1],[1,2],[1,2,3],[0],[0,5],[0,5,6],.range 8,.range 9])],pan:=[(6,7)],px:=[16]}
theorem DR:aD Tryd.prog Ud Tryd.f53=some (Uc,43,[],false):=by kernel_rfl
def Ue:aJ:=(.regX [.op (some 4) (.mov (.t 0)) none,.op (some 5) (.mov (.t 1)) none,.op (some 6) (.nilck (.t 5)) none,.op (some 7) (.fieldA 0 (.t 6)) none,.op (some 8) (.mov (.t 1)) none,.op (some 9) (.nilck (.t 8)) none,.op (some 10) (.fieldA 1 (.t 9)) none,.op (some 11) (.mkFD 122 2 1 [(.t 7),(.t 10)]) none,.pc (some 12) (.call 55 [(.t 4),(.t 11)]) none])
def Uf:cP:={n:=13,own:=[],frz:=[],ord:=[(0,.range 9,[[],[],[1],[1,2],[],[4],[4,5],[1,2,3,4,5,6],.range 8])],px:=[12]}
theorem DS:aD Tryd.prog Uf Tryd.f54=some (Ue,13,[],false):=by kernel_rfl
def Ug:aJ:=(jS (jR [ah 6 1,gK 7 6,jA 8 0]) (jB 0 (jL [9,10,11,5,12,13,14,15,8] (jS (jR [jH 9 8 7]) (jS (jC 9 .skip (jX 0)) (jS (jB 1 (jS (jR [gJ 10 1 6 8,gA 11 1 10,ah 5 11]) (jR [ah 12 0,ah 13 5,.pc (some 14) (.callV (.mt "leasehold/snapshot.num" 12) [(.t 13)]) none]))) (jR [iy 15 8 1,ah 8 15])))))))
def Uh:cP:={n:=16,own:=[],frz:=[],ord:=[],pan:=[(3,2)]}
theorem DT:aD Tryd.prog Uh Tryd.f55=some (Ug,16,[],false):=by kernel_rfl
def Ui:aJ:=(jS (jR [mZ 2 0 0]) (jS (jS (jR [ah 3 0,.op (some 4) (.eqS false (.t 3) (.c (.slice none 0 0))) none]) (jC 4 (jS (jR [mZ 2 0 0]) .ret) .skip)) (jS (jR [.op (some 5) (.mkR 5 0 1 []) none,ah 6 0,zU 7 5 1 1 0 5 6,ah 2 7]) .ret)))
def Uj:cP:={n:=8,own:=[5],frz:=[],ord:=[]}
theorem DU:aD Tryd.prog Uj Tryd.f56=some (Ui,8,[(2,none)],false):=by kernel_rfl
def Uk:aJ:=(jS (jR [jK 6]) (jS (jR [ah 7 0,ah 8 1,ah 9 2,BA 10 73 7 8 9,ah 6 10]) .ret))
def Ul:cP:={n:=11,own:=[],frz:=[],ord:=[]}
theorem Ku:aD Tryd.prog Ul Tryd.f57=some (Uk,11,[(6,none)],false):=by kernel_rfl
def Um:aJ:=(jS (jR [lA 2 127 0,lA 3 127 1,jK 4]) (jS (jR [gI 5 0 2,gA 6 1 5,gI 7 0 3,gA 8 1 7,zW 9 6 8,ah 10 9,iA 11 1 2 10,jE 12 1 11 10,iA 13 1 3 10,jE 14 1 13 10,oE 15 12 14 10,jF 16 10 15,ah 17 16,iA 18 2 2 17,jE 19 1 18 17,iA 20 2 3 17,jE 21 1 20 17,oE 22 19 21 17,jF 23 17 22,ah 24 23,iA 25 4 2 24,jE 26 1 25 24,iA 27 4 3 24,jE 28 1 27 24,oE 29 26 28 24,jF 30 24 29,ah 31 30,iA 32 3 2 31,jE 33 1 32 31,iA 34 3 3 31,jE 35 1 34 31,zX 36 74 33 35 75 31,jF 37 31 36,ah 4 37]) .ret))
def Un:cP:={n:=38,own:=[2,3],frz:=[],ord:=[]}
theorem Kv:aD Tryd.prog Un Tryd.f58=some (Um,38,[(4,none)],false):=by kernel_rfl
def Uo:aJ:=(jS (jR [jK 6]) (jS (jR [ah 7 0,ah 8 1,ah 9 2,BA 10 78 7 8 9,ah 6 10]) .ret))
def Uq:cP:={n:=11,own:=[],frz:=[],ord:=[]}
theorem Kw:aD Tryd.prog Uq Tryd.f59=some (Uo,11,[(6,none)],false):=by kernel_rfl
def Ur:aJ:=(jS (jR [lA 2 136 0,lA 3 136 1,jK 4]) (jS (jR [gI 5 0 2,gA 6 1 5,gI 7 0 3,gA 8 1 7,zW 9 6 8,ah 10 9,iA 11 1 2 10,jE 12 1 11 10,iA 13 1 3 10,jE 14 1 13 10,zX 15 76 12 14 77 10,jF 16 10 15,ah 17 16,iA 18 2 2 17,JW 19 3 18 17,iA 20 2 3 17,JW 21 3 20 17,CP 22 77 19 21 17,jF 23 17 22,ah 24 23,iA 25 5 2 24,jE 26 1 25 24,iA 27 5 3 24,jE 28 1 27 24,CP 29 79 26 28 24,jF 30 24 29,ah 31 30,iA 32 6 2 31,jE 33 1 32 31,iA 34 6 3 31,jE 35 1 34 31,oE 36 33 35 31,jF 37 31 36,ah 38 37,iA 39 7 2 38,jE 40 1 39 38,iA 41 7 3 38,jE 42 1 41 38,zX 43 80 40 42 81 38,jF 44 38 43,ah 45 44,iA 46 8 2 45,jE 47 1 46 45,iA 48 8 3 45,jE 49 1 48 45,zX 50 82 47 49 83 45,jF 51 45 50,ah 4 51]) .ret))
def Us:cP:={n:=52,own:=[2,3],frz:=[],ord:=[]}
theorem Kx:aD Tryd.prog Us Tryd.f60=some (Ur,52,[(4,none)],false):=by kernel_rfl
def Ut:aJ:=(jS (jR [jA 2 0]) (jS (jD [ah 3 0,fp 4 3,gI 5 0 4,tH 6 1 5,gK 7 6,ah 8 0,fp 9 8,gI 10 1 9,tH 11 1 10,Hu 12 7 11,ah 2 12]) .ret))
def Uu:cP:={n:=13,own:=[],frz:=[],ord:=[(1,.range 11,[[],[0],[0,1],[0,1,2],.range 4,[],[5],[5,6],[5,6,7],.range 9,.range 10])]}
theorem Ky:aD Tryd.prog Uu Tryd.f61=some (Ut,13,[(2,none)],false):=by kernel_rfl
def Uv:aJ:=(jS (jR [ah 7 1,gK 8 7,jA 9 0]) (jB 0 (jL [10,11,12,5,6,13,14,15,16,17,18,19,20,21,22,23,24,25,26,27,28,29,9] (jS (jR [jH 10 9 8]) (jS (jC 10 .skip (jX 0)) (jS (jB 1 (jS (jR [gJ 11 1 7 9,gA 12 1 11,ah 5 12]) (jS (jR [M9 6 3 0,JP 1 6 0]) (jS (jS (jR [ah 13 5,fp 14 13,gA 15 1 14]) (jC 15 (jR [JP 1 6 1]) .skip)) (jS (jR [ah 16 0,.pc (some 17) (.callV (.mt "leasehold/snapshot.num" 16) [(.t 6)]) none]) (jS (jR [gA 18 1 6,JU 19 18 0,ah 20 19,Na 21 1 6 20,OD 22 21 1 20,wE 23 20 22,pX 24 36 23]) (jR [ah 25 5,gA 26 1 6,JU 27 26 1,fp 28 25,eK 1 28 27]))))))) (jR [iy 29 9 1,ah 9 29])))))))
def Uw:cP:={n:=30,own:=[],frz:=[],ord:=[],pan:=[(6,1),(7,6)]}
theorem DV:aD Tryd.prog Uw Tryd.f64=some (Uv,30,[],false):=by kernel_rfl
def Ux:aJ:=(jR [M7 4 85 60,ah 5 0,ah 6 1,xM 7 4 5 6])
def Uy:cP:={n:=8,own:=[],frz:=[],ord:=[],pan:=[(0,3)]}
theorem DW:aD Tryd.prog Uy Tryd.f65=some (Ux,8,[],false):=by kernel_rfl
def Uz:aJ:=(jS (jS (.regX [.op (some 8) (.mov (.t 0)) none,.op (some 9) (.mov (.t 1)) none,.op (some 10) (.nilck (.t 9)) none,.op (some 11) (.loadD false 1 (.t 10)) none,.op (some 12) (.len (.t 11)) none,.op (some 13) (.mkmv "leasehold/snapshot.size" (.t 8)) none,.op (some 14) (.nilck (.t 13)) none,.op (some 15) (.mov (.t 8)) none,.pc (some 16) (.callV (.mt "leasehold/snapshot.size" 15) [(.t 12)]) none,.op (some 6) (.mov (.t 16)) none]) (jS (jR [ah 17 6,ah 18 1,fp 19 18,gA 20 1 19,gK 21 20,mH 22 17 21]) (jC 22 (jR [ah 23 1,ah 24 6,.op (some 25) (.makeS 82 7 88 [(.int .i64 0),(.int .i64 0),(.int .i64 0),(.int .i64 0),(.int .i64 0),(.slice none 0 0),(.slice none 0 0)] (.t 24) (.t 24)) none,fp 26 23,eK 1 26 25]) .skip))) (jS (jR [ah 27 1,fp 28 27,gA 29 1 28,gK 30 29,jA 31 0]) (jB 0 (jL [32,33,7,34,35,36,37,38,39,40,41,42,31] (jS (jR [jH 32 31 30]) (jS (jC 32 .skip (jX 0)) (jS (jB 1 (jS (jR [ah 33 31,ah 7 33]) (jR [ah 34 2,ah 35 0,ah 36 1,fp 37 36,gA 38 1 37,ah 39 7,gJ 40 7 38 39,xM 41 34 35 40]))) (jR [iy 42 31 1,ah 31 42]))))))))
def UA:cP:={n:=43,own:=[],frz:=[],ord:=[(0,.range 10,[[],[],[1],[1,2],[1,2,3],[0],[0,5],[0,5,6],.range 8,.range 9])],pan:=[(6,7)],px:=[16]}
theorem DX:aD Tryd.prog UA Tryd.f66=some (Uz,43,[],false):=by kernel_rfl
def UB:aJ:=(jS (.regX [.op (some 4) (.mov (.t 0)) none,.op (some 5) (.mov (.t 1)) none,.op (some 6) (.nilck (.t 5)) none,.op (some 7) (.fieldA 0 (.t 6)) none,.op (some 8) (.mov (.t 1)) none,.op (some 9) (.nilck (.t 8)) none,.op (some 10) (.fieldA 1 (.t 9)) none,.op (some 11) (.mov (.t 1)) none,.op (some 12) (.nilck (.t 11)) none,.op (some 13) (.fieldA 2 (.t 12)) none,.op (some 14) (.mov (.t 1)) none,.op (some 15) (.nilck (.t 14)) none,.op (some 16) (.fieldA 3 (.t 15)) none,.op (some 17) (.mov (.t 1)) none,.op (some 18) (.nilck (.t 17)) none,.op (some 19) (.fieldA 4 (.t 18)) none,.op (some 20) (.mkFD 122 5 1 [(.t 7),(.t 10),(.t 13),(.t 16),(.t 19)]) none,.pc (some 21) (.call 55 [(.t 4),(.t 20)]) none]) (jS (jR [ah 22 0,ah 23 1,fp 24 23,gI 25 5 24,xL 26 52 22 25]) (jR [ah 27 0,ah 28 1,fp 29 28,gI 30 6 29,uE 31 70 27 30 71])))
def UC:cP:={n:=32,own:=[],frz:=[],ord:=[(0,.range 18,[[],[],[1],[1,2],[],[4],[4,5],[],[7],[7,8],[],[10],[10,11],[],[13],[13,14],[1,2,3,4,5,6,7,8,9,10,11,12,13,14,15],.range 17])],pan:=[(1,4),(2,4)],px:=[21]}
theorem DY:aD Tryd.prog UC Tryd.f67=some (UB,32,[],false):=by kernel_rfl
def UD:aJ:=(jS (jS (.regX [.op (some 8) (.mov (.t 0)) none,.op (some 9) (.mov (.t 1)) none,.op (some 10) (.nilck (.t 9)) none,.op (some 11) (.loadD false 1 (.t 10)) none,.op (some 12) (.len (.t 11)) none,.op (some 13) (.mkmv "leasehold/snapshot.size" (.t 8)) none,.op (some 14) (.nilck (.t 13)) none,.op (some 15) (.mov (.t 8)) none,.pc (some 16) (.callV (.mt "leasehold/snapshot.size" 15) [(.t 12)]) none,.op (some 6) (.mov (.t 16)) none]) (jS (jR [ah 17 6,ah 18 1,fp 19 18,gA 20 1 19,gK 21 20,mH 22 17 21]) (jC 22 (jR [ah 23 1,ah 24 6,.op (some 25) (.makeS 85 5 24 [(.int .i64 0),(.int .i64 0),(.bool false),(.bool false),(.bool false)] (.t 24) (.t 24)) none,fp 26 23,eK 1 26 25]) .skip))) (jS (jR [ah 27 1,fp 28 27,gA 29 1 28,gK 30 29,jA 31 0]) (jB 0 (jL [32,33,7,34,35,36,37,38,39,40,41,42,31] (jS (jR [jH 32 31 30]) (jS (jC 32 .skip (jX 0)) (jS (jB 1 (jS (jR [ah 33 31,ah 7 33]) (jR [ah 34 2,ah 35 0,ah 36 1,fp 37 36,gA 38 1 37,ah 39 7,gJ 40 5 38 39,xM 41 34 35 40]))) (jR [iy 42 31 1,ah 31 42]))))))))
def UE:cP:={n:=43,own:=[],frz:=[],ord:=[(0,.range 10,[[],[],[1],[1,2],[1,2,3],[0],[0,5],[0,5,6],.range 8,.range 9])],pan:=[(6,7)],px:=[16]}
theorem DZ:aD Tryd.prog UE Tryd.f68=some (UD,43,[],false):=by kernel_rfl
def UF:aJ:=(jS (.regX [.op (some 4) (.mov (.t 0)) none,.op (some 5) (.mov (.t 1)) none,.op (some 6) (.nilck (.t 5)) none,.op (some 7) (.fieldA 0 (.t 6)) none,.op (some 8) (.mov (.t 1)) none,.op (some 9) (.nilck (.t 8)) none,.op (some 10) (.fieldA 1 (.t 9)) none,.op (some 11) (.mkFD 122 2 1 [(.t 7),(.t 10)]) none,.pc (some 12) (.call 55 [(.t 4),(.t 11)]) none]) (.regX [.op (some 13) (.mov (.t 0)) none,.op (some 14) (.mov (.t 1)) none,.op (some 15) (.nilck (.t 14)) none,.op (some 16) (.fieldA 2 (.t 15)) none,.op (some 17) (.mov (.t 1)) none,.op (some 18) (.nilck (.t 17)) none,.op (some 19) (.fieldA 3 (.t 18)) none,.op (some 20) (.mov (.t 1)) none,.op (some 21) (.nilck (.t 20)) none,.op (some 22) (.fieldA 4 (.t 21)) none,.op (some 23) (.mkFD 140 3 1 [(.t 16),(.t 19),(.t 22)]) none,.pc (some 24) (.call 64 [(.t 13),(.t 23)]) none]))
def UG:cP:={n:=25,own:=[],frz:=[],ord:=[(0,.range 9,[[],[],[1],[1,2],[],[4],[4,5],[1,2,3,4,5,6],.range 8]),(1,.range 12,[[],[],[1],[1,2],[],[4],[4,5],[],[7],[7,8],[1,2,3,4,5,6,7,8,9],.range 11])],px:=[12,24]}
theorem D3:aD Tryd.prog UG Tryd.f69=some (UF,25,[],false):=by kernel_rfl
def UH:aJ:=(jS (jS (.regX [.op (some 8) (.mov (.t 0)) none,.op (some 9) (.mov (.t 1)) none,.op (some 10) (.nilck (.t 9)) none,.op (some 11) (.loadD false 1 (.t 10)) none,.op (some 12) (.len (.t 11)) none,.op (some 13) (.mkmv "leasehold/snapshot.size" (.t 8)) none,.op (some 14) (.nilck (.t 13)) none,.op (some 15) (.mov (.t 8)) none,.pc (some 16) (.callV (.mt "leasehold/snapshot.size" 15) [(.t 12)]) none,.op (some 6) (.mov (.t 16)) none]) (jS (jR [ah 17 6,ah 18 1,fp 19 18,gA 20 1 19,gK 21 20,mH 22 17 21]) (jC 22 (jR [ah 23 1,ah 24 6,.op (some 25) (.makeS 3 1 8 [(.int .i64 0)] (.t 24) (.t 24)) none,fp 26 23,eK 1 26 25]) .skip))) (jS (jR [ah 27 1,fp 28 27,gA 29 1 28,gK 30 29,jA 31 0]) (jB 0 (jL [32,33,7,34,35,36,37,38,39,40,41,42,31] (jS (jR [jH 32 31 30]) (jS (jC 32 .skip (jX 0)) (jS (jB 1 (jS (jR [ah 33 31,ah 7 33]) (jR [ah 34 2,ah 35 0,ah 36 1,fp 37 36,gA 38 1 37,ah 39 7,gJ 40 1 38 39,xM 41 34 35 40]))) (jR [iy 42 31 1,ah 31 42]))))))))
def UI:cP:={n:=43,own:=[],frz:=[],ord:=[(0,.range 10,[[],[],[1],[1,2],[1,2,3],[0],[0,5],[0,5,6],.range 8,.range 9])],pan:=[(6,7)],px:=[16]}
theorem D4:aD Tryd.prog UI Tryd.f70=some (UH,43,[],false):=by kernel_rfl
def UJ:aJ:=(jR [ah 4 0,ah 5 1,.pc (some 6) (.callV (.mt "leasehold/snapshot.num" 4) [(.t 5)]) none])
def UK:cP:={n:=7,own:=[],frz:=[],ord:=[],pan:=[(0,2)]}
theorem D5:aD Tryd.prog UK Tryd.f71=some (UJ,7,[],false):=by kernel_rfl
def UL:aJ:=(jS (jS (.regX [.op (some 8) (.mov (.t 0)) none,.op (some 9) (.mov (.t 1)) none,.op (some 10) (.nilck (.t 9)) none,.op (some 11) (.loadD false 1 (.t 10)) none,.op (some 12) (.len (.t 11)) none,.op (some 13) (.mkmv "leasehold/snapshot.size" (.t 8)) none,.op (some 14) (.nilck (.t 13)) none,.op (some 15) (.mov (.t 8)) none,.pc (some 16) (.callV (.mt "leasehold/snapshot.size" 15) [(.t 12)]) none,.op (some 6) (.mov (.t 16)) none]) (jS (jR [ah 17 6,ah 18 1,fp 19 18,gA 20 1 19,gK 21 20,mH 22 17 21]) (jC 22 (jR [ah 23 1,ah 24 6,.op (some 25) (.makeS 80 8 112 [(.int .i64 0),(.int .i64 0),(.int .i64 0),(.int .i64 0),(.slice none 0 0),(.bool false),(.slice none 0 0),(.slice none 0 0)] (.t 24) (.t 24)) none,fp 26 23,eK 1 26 25]) .skip))) (jS (jR [ah 27 1,fp 28 27,gA 29 1 28,gK 30 29,jA 31 0]) (jB 0 (jL [32,33,7,34,35,36,37,38,39,40,41,42,31] (jS (jR [jH 32 31 30]) (jS (jC 32 .skip (jX 0)) (jS (jB 1 (jS (jR [ah 33 31,ah 7 33]) (jR [ah 34 2,ah 35 0,ah 36 1,fp 37 36,gA 38 1 37,ah 39 7,gJ 40 8 38 39,xM 41 34 35 40]))) (jR [iy 42 31 1,ah 31 42]))))))))
def UM:cP:={n:=43,own:=[],frz:=[],ord:=[(0,.range 10,[[],[],[1],[1,2],[1,2,3],[0],[0,5],[0,5,6],.range 8,.range 9])],pan:=[(6,7)],px:=[16]}
theorem uW:aD Tryd.prog UM Tryd.f72=some (UL,43,[],false):=by kernel_rfl
def UN:aJ:=(jS (jR [jK 6]) (jS (jS (jR [ah 10 0,gK 11 10,ah 12 1,gK 13 12,mH 14 11 13]) (jC 14 (jS (jR [jK 6]) .ret) .skip)) (jS (jS (jR [ah 15 0,gK 16 15,jA 17 0]) (jB 0 (jL [18,19,20,21,8,7,22,23,24,25,9,26,27,28,29,30,6,31,17] (jS (jR [jH 18 17 16]) (jS (jC 18 .skip (jX 0)) (jS (jB 1 (jS (jR [ah 19 17,gJ 20 5 15 17,iG 21 5 20,OE 8 127 0 0 0 0 0,ah 7 19,eK 5 8 21]) (jS (jR [ah 22 1,ah 23 7,gJ 24 5 22 23,iG 25 5 24,OE 9 127 0 0 0 0 0,eK 5 9 25]) (jS (jR [ah 26 2,iG 27 5 8,iG 28 5 9,BB 29 26 27 28,oS 30 29]) (jC 30 (jS (jR [jK 6]) .ret) .skip))))) (jR [iy 31 17 1,ah 17 31]))))))) (jS (jR [wF 6]) .ret))))
def UO:cP:={n:=32,own:=[],frz:=[],ord:=[]}
theorem Kz:aD Tryd.prog UO Tryd.f73=some (UN,32,[(6,none)],false):=by kernel_rfl
def UQ:aJ:=(jS (jR [jK 6]) (jS (jR [ah 7 0,ah 8 1,ah 9 2,BA 10 86 7 8 9,ah 6 10]) .ret))
def UR:cP:={n:=11,own:=[],frz:=[],ord:=[]}
theorem KA:aD Tryd.prog UR Tryd.f74=some (UQ,11,[(6,none)],false):=by kernel_rfl
def UU:aJ:=(jS (jR [lA 2 159 0,lA 3 159 1,jK 4]) (jS (jR [gI 5 0 2,gA 6 1 5,gI 7 0 3,gA 8 1 7,zW 9 6 8,ah 10 9,iA 11 1 2 10,jE 12 1 11 10,iA 13 1 3 10,jE 14 1 13 10,zX 15 76 12 14 77 10,jF 16 10 15,ah 4 16]) .ret))
def UW:cP:={n:=17,own:=[2,3],frz:=[],ord:=[]}
theorem KC:aD Tryd.prog UW Tryd.f75=some (UU,17,[(4,none)],false):=by kernel_rfl
def UX:aJ:=(jS (jR [jK 6]) (jS (jR [ah 7 0,ah 8 1,ah 9 2,BA 10 87 7 8 9,ah 6 10]) .ret))
def UY:cP:={n:=11,own:=[],frz:=[],ord:=[]}
theorem KD:aD Tryd.prog UY Tryd.f76=some (UX,11,[(6,none)],false):=by kernel_rfl
def UZ:aJ:=(jS (jR [lA 2 132 0,lA 3 132 1,jK 4]) (jS (jR [gI 5 0 2,gA 6 1 5,gI 7 0 3,gA 8 1 7,zW 9 6 8,ah 10 9,iA 11 1 2 10,jE 12 1 11 10,iA 13 1 3 10,jE 14 1 13 10,oE 15 12 14 10,jF 16 10 15,ah 17 16,iA 18 2 2 17,jE 19 1 18 17,iA 20 2 3 17,jE 21 1 20 17,zX 22 76 19 21 77 17,jF 23 17 22,ah 4 23]) .ret))
def U0:cP:={n:=24,own:=[2,3],frz:=[],ord:=[]}
theorem KE:aD Tryd.prog U0 Tryd.f77=some (UZ,24,[(4,none)],false):=by kernel_rfl
def U1:aJ:=(jS (jR [jK 6]) (jS (jS (jR [ah 10 0,gK 11 10,ah 12 1,gK 13 12,mH 14 11 13]) (jC 14 (jS (jR [jK 6]) .ret) .skip)) (jS (jS (jR [ah 15 0,gK 16 15,jA 17 0]) (jB 0 (jL [18,19,20,21,8,7,22,23,24,25,9,26,27,28,29,30,6,31,17] (jS (jR [jH 18 17 16]) (jS (jC 18 .skip (jX 0)) (jS (jB 1 (jS (jR [ah 19 17,gJ 20 9 15 17,iG 21 9 20,OG 8 136 0 0 0 0 0 0 0 0 0 0 0 0 0,ah 7 19,eK 9 8 21]) (jS (jR [ah 22 1,ah 23 7,gJ 24 9 22 23,iG 25 9 24,OG 9 136 0 0 0 0 0 0 0 0 0 0 0 0 0,eK 9 9 25]) (jS (jR [ah 26 2,iG 27 9 8,iG 28 9 9,BB 29 26 27 28,oS 30 29]) (jC 30 (jS (jR [jK 6]) .ret) .skip))))) (jR [iy 31 17 1,ah 17 31]))))))) (jS (jR [wF 6]) .ret))))
def U2:cP:={n:=32,own:=[],frz:=[],ord:=[]}
theorem KF:aD Tryd.prog U2 Tryd.f78=some (U1,32,[(6,none)],false):=by kernel_rfl
def U3:aJ:=(jS (jR [jK 4]) (jS (jS (jR [ah 6 0,gK 7 6,ah 8 1,gK 9 8,mH 10 7 9]) (jC 10 (jS (jR [jK 4]) .ret) .skip)) (jS (jS (jR [ah 11 0,gK 12 11,jA 13 0]) (jB 0 (jL [14,15,5,16,17,18,19,20,21,22,23,24,4,25,13] (jS (jR [jH 14 13 12]) (jS (jC 14 .skip (jX 0)) (jS (jB 1 (jS (jR [ah 15 13,ah 5 15]) (jS (jD [ah 16 0,ah 17 5,gJ 18 1 16 17,tH 19 1 18,ah 20 1,ah 21 5,gJ 22 1 20 21,tH 23 1 22,mH 24 19 23]) (jC 24 (jS (jR [jK 4]) .ret) .skip)))) (jR [iy 25 13 1,ah 13 25]))))))) (jS (jR [wF 4]) .ret))))
def U4:cP:={n:=26,own:=[],frz:=[],ord:=[(6,.range 9,[[],[],[0,1],[0,1,2],[],[],[4,5],[4,5,6],.range 8])]}
theorem KG:aD Tryd.prog U4 Tryd.f79=some (U3,26,[(4,none)],false):=by kernel_rfl
def U5:aJ:=(jS (jR [jK 6]) (jS (jR [ah 7 0,ah 8 1,ah 9 2,BA 10 88 7 8 9,ah 6 10]) .ret))
def U6:cP:={n:=11,own:=[],frz:=[],ord:=[]}
theorem KH:aD Tryd.prog U6 Tryd.f80=some (U5,11,[(6,none)],false):=by kernel_rfl
def U7:aJ:=(jS (jR [lA 2 169 0,lA 3 169 1,jK 4]) (jS (jR [gI 5 0 2,gA 6 1 5,gI 7 0 3,gA 8 1 7,.op (some 9) (.call 89 [(.t 6),(.t 8),(.fn 90)]) none,ah 10 9,iA 11 1 2 10,iA 12 0 11 10,jE 13 1 12 10,iA 14 1 3 10,iA 15 0 14 10,jE 16 1 15 10,oE 17 13 16 10,jF 18 10 17,ah 19 18,iA 20 1 2 19,iA 21 1 20 19,jE 22 1 21 19,iA 23 1 3 19,iA 24 1 23 19,jE 25 1 24 19,oE 26 22 25 19,jF 27 19 26,ah 28 27,iA 29 1 2 28,iA 30 2 29 28,jE 31 1 30 28,iA 32 1 3 28,iA 33 2 32 28,jE 34 1 33 28,CP 35 79 31 34 28,jF 36 28 35,ah 4 36]) .ret))
def U8:cP:={n:=37,own:=[2,3],frz:=[],ord:=[]}
theorem KI:aD Tryd.prog U8 Tryd.f81=some (U7,37,[(4,none)],false):=by kernel_rfl
def U9:aJ:=(jS (jR [jK 6]) (jS (jR [ah 7 0,ah 8 1,ah 9 2,BA 10 91 7 8 9,ah 6 10]) .ret))
def Va:cP:={n:=11,own:=[],frz:=[],ord:=[]}
theorem KJ:aD Tryd.prog Va Tryd.f82=some (U9,11,[(6,none)],false):=by kernel_rfl
def Vb:aJ:=(jS (jR [jK 4]) (jS (jR [ah 5 0,ah 6 1,.op (some 7) (.call 92 [(.t 5),(.t 6),(.fn 93)]) none,ah 4 7]) .ret))
def Vc:cP:={n:=8,own:=[],frz:=[],ord:=[]}
theorem KL:aD Tryd.prog Vc Tryd.f83=some (Vb,8,[(4,none)],false):=by kernel_rfl
def Ve:aJ:=(jS (jR [lA 1 3 0,.op (some 2) (.mov (.c .nilFunc)) none]) (jS (jR [.op (some 3) (.mkfn 95 [] [(.t 1)]) none,ah 2 3]) .ret))
def Vf:cP:={n:=4,own:=[1],frz:=[],ord:=[]}
theorem KM:aD Tryd.prog Vf Tryd.f85=some (Ve,4,[(2,none)],false):=by kernel_rfl
def Vg:aJ:=(jS (jR [jK 6]) (jS (jS (jR [ah 10 0,gK 11 10,ah 12 1,gK 13 12,mH 14 11 13]) (jC 14 (jS (jR [jK 6]) .ret) .skip)) (jS (jS (jR [ah 15 0,gK 16 15,jA 17 0]) (jB 0 (jL [18,19,20,21,8,7,22,23,24,25,9,26,27,28,29,30,6,31,17] (jS (jR [jH 18 17 16]) (jS (jC 18 .skip (jX 0)) (jS (jB 1 (jS (jR [ah 19 17,gJ 20 2 15 17,iG 21 2 20,OH 8 159 0 0,ah 7 19,eK 2 8 21]) (jS (jR [ah 22 1,ah 23 7,gJ 24 2 22 23,iG 25 2 24,OH 9 159 0 0,eK 2 9 25]) (jS (jR [ah 26 2,iG 27 2 8,iG 28 2 9,BB 29 26 27 28,oS 30 29]) (jC 30 (jS (jR [jK 6]) .ret) .skip))))) (jR [iy 31 17 1,ah 17 31]))))))) (jS (jR [wF 6]) .ret))))
def Vh:cP:={n:=32,own:=[],frz:=[],ord:=[]}
theorem KN:aD Tryd.prog Vh Tryd.f86=some (Vg,32,[(6,none)],false):=by kernel_rfl
def Vi:aJ:=(jS (jR [jK 6]) (jS (jS (jR [ah 10 0,gK 11 10,ah 12 1,gK 13 12,mH 14 11 13]) (jC 14 (jS (jR [jK 6]) .ret) .skip)) (jS (jS (jR [ah 15 0,gK 16 15,jA 17 0]) (jB 0 (jL [18,19,20,21,8,7,22,23,24,25,9,26,27,28,29,30,6,31,17] (jS (jR [jH 18 17 16]) (jS (jC 18 .skip (jX 0)) (jS (jB 1 (jS (jR [ah 19 17,gJ 20 3 15 17,iG 21 3 20,OI 8 132 0 0 0 0,ah 7 19,eK 3 8 21]) (jS (jR [ah 22 1,ah 23 7,gJ 24 3 22 23,iG 25 3 24,OI 9 132 0 0 0 0,eK 3 9 25]) (jS (jR [ah 26 2,iG 27 3 8,iG 28 3 9,BB 29 26 27 28,oS 30 29]) (jC 30 (jS (jR [jK 6]) .ret) .skip))))) (jR [iy 31 17 1,ah 17 31]))))))) (jS (jR [wF 6]) .ret))))
def Vj:cP:={n:=32,own:=[],frz:=[],ord:=[]}
theorem KO:aD Tryd.prog Vj Tryd.f87=some (Vi,32,[(6,none)],false):=by kernel_rfl
def Vk:aJ:=(jS (jR [jK 6]) (jS (jS (jR [ah 10 0,gK 11 10,ah 12 1,gK 13 12,mH 14 11 13]) (jC 14 (jS (jR [jK 6]) .ret) .skip)) (jS (jS (jR [ah 15 0,gK 16 15,jA 17 0]) (jB 0 (jL [18,19,20,21,8,7,22,23,24,25,9,26,27,28,29,30,6,31,17] (jS (jR [jH 18 17 16]) (jS (jC 18 .skip (jX 0)) (jS (jB 1 (jS (jR [ah 19 17,gJ 20 4 15 17,iG 21 4 20,OJ 8 169 0 0 0 0 0 0,ah 7 19,eK 4 8 21]) (jS (jR [ah 22 1,ah 23 7,gJ 24 4 22 23,iG 25 4 24,OJ 9 169 0 0 0 0 0 0,eK 4 9 25]) (jS (jR [ah 26 2,iG 27 4 8,iG 28 4 9,BB 29 26 27 28,oS 30 29]) (jC 30 (jS (jR [jK 6]) .ret) .skip))))) (jR [iy 31 17 1,ah 17 31]))))))) (jS (jR [wF 6]) .ret))))
def Vm:cP:={n:=32,own:=[],frz:=[],ord:=[]}
theorem KP:aD Tryd.prog Vm Tryd.f88=some (Vk,32,[(6,none)],false):=by kernel_rfl
def Vn:aJ:=(jS (jR [jK 6]) (jS (jR [ah 7 0,ah 8 1,ah 9 2,BA 10 96 7 8 9,ah 6 10]) .ret))
def Vo:cP:={n:=11,own:=[],frz:=[],ord:=[]}
theorem KQ:aD Tryd.prog Vo Tryd.f89=some (Vn,11,[(6,none)],false):=by kernel_rfl
def Vp:aJ:=(jS (jR [lA 2 180 0,lA 3 180 1,jK 4]) (jS (jR [gI 5 0 2,gA 6 1 5,gI 7 0 3,gA 8 1 7,zW 9 6 8,ah 10 9,iA 11 1 2 10,jE 12 1 11 10,iA 13 1 3 10,jE 14 1 13 10,oE 15 12 14 10,jF 16 10 15,ah 17 16,iA 18 2 2 17,jE 19 1 18 17,iA 20 2 3 17,jE 21 1 20 17,oE 22 19 21 17,jF 23 17 22,ah 24 23,iA 25 3 2 24,jE 26 1 25 24,iA 27 3 3 24,jE 28 1 27 24,oE 29 26 28 24,jF 30 24 29,ah 31 30,iA 32 4 2 31,jE 33 1 32 31,iA 34 4 3 31,jE 35 1 34 31,oE 36 33 35 31,jF 37 31 36,ah 38 37,iA 39 5 2 38,jE 40 1 39 38,iA 41 5 3 38,jE 42 1 41 38,CP 43 79 40 42 38,jF 44 38 43,ah 45 44,iA 46 6 2 45,jE 47 1 46 45,iA 48 6 3 45,jE 49 1 48 45,zX 50 76 47 49 77 45,jF 51 45 50,ah 4 51]) .ret))
def Vq:cP:={n:=52,own:=[2,3],frz:=[],ord:=[]}
theorem KR:aD Tryd.prog Vq Tryd.f90=some (Vp,52,[(4,none)],false):=by kernel_rfl
def Vr:aJ:=(jS (jR [jK 6]) (jS (jS (jR [ah 10 0,gK 11 10,ah 12 1,gK 13 12,mH 14 11 13]) (jC 14 (jS (jR [jK 6]) .ret) .skip)) (jS (jS (jR [ah 15 0,gK 16 15,jA 17 0]) (jB 0 (jL [18,19,20,21,7,8,22,23,24,25,9,26,27,28,29,30,6,31,17] (jS (jR [jH 18 17 16]) (jS (jC 18 .skip (jX 0)) (jS (jB 1 (jS (jR [ah 19 17,gJ 20 1 15 17,gA 21 1 20,ah 7 19,ah 8 21]) (jS (jR [ah 22 1,ah 23 7,gJ 24 1 22 23,gA 25 1 24,ah 9 25]) (jS (jR [ah 26 2,ah 27 8,ah 28 9,BB 29 26 27 28,oS 30 29]) (jC 30 (jS (jR [jK 6]) .ret) .skip))))) (jR [iy 31 17 1,ah 17 31]))))))) (jS (jR [wF 6]) .ret))))
def Vs:cP:={n:=32,own:=[],frz:=[],ord:=[]}
theorem KS:aD Tryd.prog Vs Tryd.f91=some (Vr,32,[(6,none)],false):=by kernel_rfl
def Vt:aJ:=(jS (jR [jK 6]) (jS (jR [ah 7 0,ah 8 1,ah 9 2,BA 10 97 7 8 9,ah 6 10]) .ret))
def Vu:cP:={n:=11,own:=[],frz:=[],ord:=[]}
theorem KT:aD Tryd.prog Vu Tryd.f92=some (Vt,11,[(6,none)],false):=by kernel_rfl
def Vv:aJ:=(jS (jR [lA 2 185 0,lA 3 185 1,jK 4]) (jS (jR [gI 5 0 2,gA 6 1 5,gI 7 0 3,gA 8 1 7,zW 9 6 8,ah 10 9,iA 11 1 2 10,JW 12 3 11 10,iA 13 1 3 10,JW 14 3 13 10,CP 15 77 12 14 10,jF 16 10 15,ah 17 16,iA 18 4 2 17,jE 19 1 18 17,iA 20 4 3 17,jE 21 1 20 17,oE 22 19 21 17,jF 23 17 22,ah 24 23,iA 25 5 2 24,jE 26 1 25 24,iA 27 5 3 24,jE 28 1 27 24,oE 29 26 28 24,jF 30 24 29,ah 31 30,iA 32 6 2 31,jE 33 1 32 31,iA 34 6 3 31,jE 35 1 34 31,CP 36 94 33 35 31,jF 37 31 36,ah 4 37]) .ret))
def Vw:cP:={n:=38,own:=[2,3],frz:=[],ord:=[]}
theorem KU:aD Tryd.prog Vw Tryd.f93=some (Vv,38,[(4,none)],false):=by kernel_rfl
def Vx:aJ:=(jS (jR [jK 4]) (jS (jS (jR [ah 6 0,gK 7 6,ah 8 1,gK 9 8,mH 10 7 9]) (jC 10 (jS (jR [jK 4]) .ret) .skip)) (jS (jS (jR [ah 11 0,gK 12 11,jA 13 0]) (jB 0 (jL [14,15,5,16,17,18,19,20,21,22,23,24,4,25,13] (jS (jR [jH 14 13 12]) (jS (jC 14 .skip (jX 0)) (jS (jB 1 (jS (jR [ah 15 13,ah 5 15]) (jS (jD [ah 16 0,ah 17 5,gJ 18 3 16 17,JR 19 3 18,ah 20 1,ah 21 5,gJ 22 3 20 21,JR 23 3 22,.op (some 24) (.eqA true [true,false,false] (.t 19) (.t 23)) none]) (jC 24 (jS (jR [jK 4]) .ret) .skip)))) (jR [iy 25 13 1,ah 13 25]))))))) (jS (jR [wF 4]) .ret))))
def Vy:cP:={n:=26,own:=[],frz:=[],ord:=[(6,.range 9,[[],[],[0,1],[0,1,2],[],[],[4,5],[4,5,6],.range 8])]}
theorem KV:aD Tryd.prog Vy Tryd.f94=some (Vx,26,[(4,none)],false):=by kernel_rfl
def Vz:aJ:=(jS (jR [ah 8 0,.op (some 9) (.tas 94 (.pointer none) (.t 8)) none,ah 7 9,jG 10 7 0,jG 11 7 1,ah 5 10,ah 6 11]) (jS (jR [gA 12 1 2,JK 13 12 0,ah 14 13,xK 15 6 14,wE 16 14 15,pX 17 36 16]) (jS (.regX [.op (some 18) (.mov (.t 0)) none,.op (some 19) (.mov (.t 1)) none,.op (some 20) (.nilck (.t 19)) none,.op (some 21) (.fieldA 0 (.t 20)) none,.op (some 22) (.mov (.t 1)) none,.op (some 23) (.nilck (.t 22)) none,.op (some 24) (.fieldA 1 (.t 23)) none,.op (some 25) (.mov (.t 1)) none,.op (some 26) (.nilck (.t 25)) none,.op (some 27) (.fieldA 2 (.t 26)) none,.op (some 28) (.mov (.t 1)) none,.op (some 29) (.nilck (.t 28)) none,.op (some 30) (.fieldA 3 (.t 29)) none,.op (some 31) (.mkFD 122 4 1 [(.t 21),(.t 24),(.t 27),(.t 30)]) none,.pc (some 32) (.call 55 [(.t 18),(.t 31)]) none]) (jS (.regX [.op (some 33) (.mov (.t 0)) none,.op (some 34) (.mov (.t 1)) none,.op (some 35) (.nilck (.t 34)) none,.op (some 36) (.fieldA 4 (.t 35)) none,.op (some 37) (.loadD false 1 (.t 2)) none,.op (some 38) (.bin .sub (.t 37) (.c (.int .i64 1))) none,.op (some 39) (.callD 85 [(.t 38)]) none,.pc (some 40) (.call 72 [(.t 33),(.t 36),(.t 39)]) none]) (jS (jR [ah 41 0,ah 42 1,fp 43 42,gI 44 5 43,tI 45 140 1 1 44,xL 46 64 41 45]) (jS (jR [ah 47 0,ah 48 1,fp 49 48,gI 50 6 49,uE 51 70 47 50 71]) (jR [ah 52 0,ah 53 1,fp 54 53,gI 55 7 54,uE 56 70 52 55 71])))))))
def VA:cP:={n:=57,own:=[],frz:=[],ord:=[(2,.range 15,[[],[],[1],[1,2],[],[4],[4,5],[],[7],[7,8],[],[10],[10,11],[1,2,3,4,5,6,7,8,9,10,11,12],.range 14]),(3,.range 8,[[],[],[1],[1,2],[],[4],[4,5],.range 7])],pan:=[(1,5),(4,5),(5,4),(6,4)],px:=[32,40]}
theorem uX:aD Tryd.prog VA Tryd.f95=some (Vz,57,[],false):=by kernel_rfl
def VB:aJ:=(jS (jR [jK 6]) (jS (jS (jR [ah 10 0,gK 11 10,ah 12 1,gK 13 12,mH 14 11 13]) (jC 14 (jS (jR [jK 6]) .ret) .skip)) (jS (jS (jR [ah 15 0,gK 16 15,jA 17 0]) (jB 0 (jL [18,19,20,21,8,7,22,23,24,25,9,26,27,28,29,30,6,31,17] (jS (jR [jH 18 17 16]) (jS (jC 18 .skip (jX 0)) (jS (jB 1 (jS (jR [ah 19 17,gJ 20 7 15 17,iG 21 7 20,Ng 8 180 0 0 0 0 0 0 0 0 0,ah 7 19,eK 7 8 21]) (jS (jR [ah 22 1,ah 23 7,gJ 24 7 22 23,iG 25 7 24,Ng 9 180 0 0 0 0 0 0 0 0 0,eK 7 9 25]) (jS (jR [ah 26 2,iG 27 7 8,iG 28 7 9,BB 29 26 27 28,oS 30 29]) (jC 30 (jS (jR [jK 6]) .ret) .skip))))) (jR [iy 31 17 1,ah 17 31]))))))) (jS (jR [wF 6]) .ret))))
def VD:cP:={n:=32,own:=[],frz:=[],ord:=[]}
theorem KW:aD Tryd.prog VD Tryd.f96=some (VB,32,[(6,none)],false):=by kernel_rfl
def VE:aJ:=(jS (jR [jK 6]) (jS (jS (jR [ah 10 0,gK 11 10,ah 12 1,gK 13 12,mH 14 11 13]) (jC 14 (jS (jR [jK 6]) .ret) .skip)) (jS (jS (jR [ah 15 0,gK 16 15,jA 17 0]) (jB 0 (jL [18,19,20,21,8,7,22,23,24,25,9,26,27,28,29,30,6,31,17] (jS (jR [jH 18 17 16]) (jS (jC 18 .skip (jX 0)) (jS (jB 1 (jS (jR [ah 19 17,gJ 20 7 15 17,iG 21 7 20,OL 8 185 0 0 0 0 0 0 0 0 0,ah 7 19,eK 7 8 21]) (jS (jR [ah 22 1,ah 23 7,gJ 24 7 22 23,iG 25 7 24,OL 9 185 0 0 0 0 0 0 0 0 0,eK 7 9 25]) (jS (jR [ah 26 2,iG 27 7 8,iG 28 7 9,BB 29 26 27 28,oS 30 29]) (jC 30 (jS (jR [jK 6]) .ret) .skip))))) (jR [iy 31 17 1,ah 17 31]))))))) (jS (jR [wF 6]) .ret))))
def VF:cP:={n:=32,own:=[],frz:=[],ord:=[]}
theorem KX:aD Tryd.prog VF Tryd.f97=some (VE,32,[(6,none)],false):=by kernel_rfl
def Qc:aJ:=(jS (jR [ah 4 1,ah 5 0,pX 6 19 5,fp 7 4,eK 1 7 6]) (jR [ah 8 1,fp 9 8,gA 10 1 9,OM 11 10 1099511627776,ah 12 11,fP 13 1 12,Fl 14 13 12,jE 15 1 14 12,JV 16 15 1099511627776 12,jF 17 12 16,pX 18 36 17]))
def Qd:cP:={n:=19,own:=[],frz:=[],ord:=[],pan:=[(0,2),(1,10)]}
theorem Hz:aD Tryd.prog Qd Tryd.f113=some (Qc,19,[],false):=by kernel_rfl
def Qe:aJ:=(jS (jR [jA 4 0]) (jS (jR [ah 6 0,pX 7 19 6,ah 5 7]) (jS (jR [ah 8 5,Fg 9 8 0,ah 10 9,fP 11 5 10,JV 12 11 100000 10,jF 13 10 12,ah 14 13,fP 15 5 14,fP 16 0 14,Fl 17 16 14,iA 18 0 17 14,jE 19 1 18 14,Fc 20 19 14,Nj 21 15 20 14,jF 22 14 21,pX 23 36 22]) (jS (jR [ah 24 5,ah 4 24]) .ret))))
def Qf:cP:={n:=25,own:=[],frz:=[],ord:=[],pan:=[(1,1),(2,15)]}
theorem HA:aD Tryd.prog Qf Tryd.f114=some (Qe,25,[(4,none)],false):=by kernel_rfl
def Qg:aJ:=(jS (jR [ah 4 1,fp 5 4,gA 6 1 5,OM 7 6 1099511627776,ah 8 7,fP 9 1 8,Fl 10 9 8,jE 11 1 10 8,JV 12 11 1099511627776 8,jF 13 8 12,pX 14 36 13]) (jR [ah 15 0,ah 16 1,fp 17 16,gA 18 1 17,jt 19 26 15 18]))
def Qh:cP:={n:=20,own:=[],frz:=[],ord:=[],pan:=[(0,10)]}
theorem BD:aD Tryd.prog Qh Tryd.f116=some (Qg,20,[],false):=by kernel_rfl
def Qi:aJ:=(jS (jR [jA 4 0]) (jS (jR [ah 5 1,.op (some 6) (.bin .leq (.t 5) (.c (.int .i64 100000))) none,pX 7 36 6]) (jS (jR [ah 8 0,ah 9 1,jt 10 26 8 9]) (jS (jR [ah 11 1,ah 4 11]) .ret))))
def Qj:cP:={n:=12,own:=[],frz:=[],ord:=[],pan:=[(1,2)]}
theorem HB:aD Tryd.prog Qj Tryd.f117=some (Qi,12,[(4,none)],false):=by kernel_rfl
def Qk:aJ:=(jS (jR [jA 5 0]) (jB 0 (jL [6,7,4,8,9,10,11,12,13,14,15,16,17,18,19,5] (jS (jR [Fe 6 5 8]) (jS (jC 6 .skip (jX 0)) (jS (jB 1 (jS (jR [ah 7 5,ah 4 7]) (jD [ah 8 0,fp 9 8,gI 10 0 9,ah 11 1,fp 12 11,tH 13 1 12,ah 14 4,Ff 15 8 14,.op (some 16) (.bin .shr (.t 13) (.t 15)) none,tJ 17 16,Nd 18 42 10 17]))) (jR [iy 19 5 1,ah 5 19])))))))
def Ql:cP:={n:=20,own:=[],frz:=[],ord:=[(3,.range 11,[[],[0],[0,1],[],[3],[3,4],[],[6],[3,4,5,6,7],[3,4,5,6,7,8],.range 10])],co:=[18]}
theorem BF:aD Tryd.prog Ql Tryd.f118=some (Qk,20,[],false):=by kernel_rfl
def c119:aJ:=(jS (jR [lA 3 3 1,jA 4 0]) (jS (jR [ah 5 0,jt 6 118 5 3]) (jS (jR [gA 7 1 3,ah 4 7]) .ret)))
def Qm:cP:={n:=8,own:=[3],frz:=[],ord:=[]}
theorem HC:aD Tryd.prog Qm Tryd.f119=some (c119,8,[(4,none)],false):=by kernel_rfl
end Go.Fr.Tryd
