/- Part of the proofs of the statements of this seat. -/
import Derived.Test.YthfdbepkalpplaaFW2
import Derived.Test.YthfdbepkalpplaaProg
set_option maxRecDepth 10000
set_option linter.unusedVariables false
set_option linter.unusedSimpArgs false
namespace Go.Fr.Try
open Go Go.RowKit Go.Proofs Go.Fr Go.Fr.T
abbrev jS:=ay.seq
abbrev jC(a:Nat):=ay.cond (.t a)
abbrev jR:=ay.reg
abbrev jD:=ay.regD
abbrev jL:=ay.loop
abbrev jB:=ay.block
abbrev jX:=ay.exit
abbrev aj(a b:Nat):ai:=.op (some a) (.mov (.t b)) none
abbrev bO(a b c:Nat):ai:=.op (some a) (.fieldA b (.t c)) none
abbrev cg(a b c:Nat):ai:=.op (some a) (.load false b (.t c)) none
abbrev dY(a b c:Nat):ai:=.op (some a) (.load true b (.t c)) none
abbrev ef(a:Nat):ai:=.op (some a) (.mov (.c (.bool false))) none
abbrev fI(a b c:Nat):ai:=.op (some a) (.mov (.t b)) (some (c,true))
abbrev fW(a b c:Nat):ai:=.op (some a) (.pick (.t b) (.t c) (.c (.bool false))) none
abbrev gA(a b c:Nat):ai:=.op (some a) (.boxF b (.t c)) none
abbrev gB(a b c:Nat):ai:=.op none (.store a (.t b) (.t c)) none
abbrev iJ(a b c d:Nat):ai:=.op (some a) (.fieldA b (.t c)) (some (d,true))
abbrev cR(a b c:Nat):ai:=.op (some a) (.pick (.t b) (.c (.bool true)) (.t c)) none
abbrev dm(a b c d:Nat):ai:=.op (some a) (.fieldA b (.t c)) (some (d,false))
abbrev dD(a:Nat)(b:Int):ai:=.op (some a) (.mov (.c (.int .i64 b))) none
abbrev dS(a b c:Nat):ai:=.op (some a) (.extr (.t b) c) none
abbrev eK(a b c:Nat):ai:=.op (some a) (.mov (.t b)) (some (c,false))
abbrev eL(a b c d:Nat):ai:=.op (some a) (.load false b (.t c)) (some (d,false))
abbrev eV(a b:Nat):ai:=.op (some a) (.len (.t b)) none
abbrev fq(a b c:Nat):ai:=.op (some a) (.loadD false b (.t c)) none
abbrev fU(a b:Nat)(c:Int):ai:=.op (some a) (.bin .eql (.t b) (.c (.int .i64 c))) none
abbrev f7(a b c d:Nat):ai:=.op (some a) (.idxA b (.t c) (.t d)) none
abbrev gG(a b:Nat)(c d:Int)(e f:Nat):ai:=.op (some a) (.alloc b [(.int .i64 c),(.int .i64 d),(.slice none e f)]) none
abbrev gR(a b c d:Nat):ai:=.op (some a) (.call b [(.t c),(.t d)]) none
abbrev ic(a b c d:Nat):ai:=.op (some a) (.load false b (.t c)) (some (d,true))
abbrev iE(a b:Nat)(c:Int):ai:=.op (some a) (.bin .add (.t b) (.c (.int .i64 c))) none
abbrev iY(a b:Nat):ai:=.op (some a) (.un .not (.t b)) none
abbrev iZ(a b c:Nat):ai:=.op (some a) (.bin .lss (.t b) (.t c)) none
abbrev jO(a b c:Nat):ai:=.op (some a) (.un .not (.t b)) (some (c,false))
abbrev jP(a b c d:Nat):ai:=.op (some a) (.loadD false b (.t c)) (some (d,true))
abbrev kR(a b c:Nat):ai:=.op (some a) (.loadD true b (.t c)) none
abbrev kX(a b c:Nat):ai:=.op (some a) (.len (.t b)) (some (c,false))
abbrev lC(a b c d:Nat):ai:=.op (some a) (.loadD true b (.t c)) (some (d,true))
abbrev nO(a b c d:Nat):ai:=.op (some a) (.load true b (.t c)) (some (d,false))
abbrev nP(a b c d:Nat):ai:=.op (some a) (.loadD true b (.t c)) (some (d,false))
abbrev nQ(a b:Nat)(c:Int):ai:=.op (some a) (.bin .geq (.t b) (.c (.int .i64 c))) none
abbrev oK(a b c d:Nat):ai:=.op (some a) (.load true b (.t c)) (some (d,true))
abbrev qi(a b c:Nat):ai:=.op (some a) (.len (.t b)) (some (c,true))
abbrev qj(a b:Nat)(c:Int)(d:Nat):ai:=.op (some a) (.bin .eql (.t b) (.c (.int .i64 c))) (some (d,true))
abbrev rq(a:Nat):ai:=.op (some a) (.mov (.c (.bool true))) none
abbrev si(a b:Nat)(c:Int)(d:Nat):ai:=.op (some a) (.bin .gtr (.t b) (.c (.int .i64 c))) (some (d,false))
abbrev tJ(a b c d:Nat):ai:=.op (some a) (.callD b [(.t c),(.t d)]) none
abbrev uW(a b c d e:Nat):ai:=.op (some a) (.idxA b (.t c) (.t d)) (some (e,true))
abbrev vR(a b c:Nat):ai:=.op (some a) (.call b [(.t c)]) none
abbrev vS(a b c d:Nat):ai:=.op (some a) (.call b [(.t c)]) (some (d,false))
abbrev vT(a b c d:Nat):ai:=.op (some a) (.pick (.t b) (.c (.bool true)) (.t c)) (some (d,true))
abbrev yd(a b:Nat):ai:=.op (some a) (.call b []) none
abbrev ye(a b c d e:Nat):ai:=.op (some a) (.callD b [(.t c),(.t d)]) (some (e,true))
abbrev yg(a b c d:Nat):ai:=.op (some a) (.loadD false b (.t c)) (some (d,false))
abbrev yh(a b c d:Nat):ai:=.op (some a) (.bin .lss (.t b) (.t c)) (some (d,true))
abbrev zG(a b c:Nat):ai:=.op (some a) (.mov (.c (.slice none b c))) none
abbrev zH(a b c d:Nat):ai:=.op (some a) (.bin .neq (.t b) (.t c)) (some (d,false))
abbrev zI(a b:Nat)(c:Int):ai:=.op (some a) (.bin .neq (.t b) (.c (.int .i64 c))) none
abbrev zJ(a b:Nat)(c:Int):ai:=.op (some a) (.bin .lss (.t b) (.c (.int .i64 c))) none
abbrev zK(a b:Nat):ai:=.op (some a) (.nilck (.t b)) none
abbrev BV(a b c:Nat):ai:=.op (some a) (.un .not (.t b)) (some (c,true))
abbrev BW(a b c d e:Nat):ai:=.op (some a) (.mkF b c d [(.t e)]) none
abbrev BX(a b c d e:Nat):ai:=.op (some a) (.idxA b (.t c) (.t d)) (some (e,false))
abbrev BZ(a b c d e:Nat):ai:=.op (some a) (.callD b [(.t c),(.t d)]) (some (e,false))
abbrev B0(a b c:Nat):ai:=.op (some a) (.box b (.t c)) none
abbrev Dz(a b c d e:Nat):ai:=.op (some a) (.call b [(.t c),(.t d),(.t e)]) none
abbrev DA(a b c:Nat):ai:=.op (some a) (.callV (.t b) [(.t c)]) none
abbrev EZ(a b c:Nat):ai:=.op (some a) (.bin .neq (.t b) (.t c)) none
abbrev E0(a b:Nat)(c:Int):ai:=.op (some a) (.bin .gtr (.t b) (.c (.int .i64 c))) none
abbrev E4(a b c:Nat):ai:=.op (some a) (.bin .eql (.t b) (.t c)) none
abbrev E5(a b c d:Nat):ai:=.op (some a) (.bin .eql (.t b) (.t c)) (some (d,true))
abbrev E6(a:Nat)(b c:Int)(d e f g:Nat)(h:Int)(i j k:Nat):ai:=.op (some a) (.build [(.int .i64 b),(.int .i64 c),(.slice none d e)] [(f,g,(.c (.int .i64 h))),(i,j,(.t k))]) none
abbrev E7(a b c d:Nat):ai:=.op (some a) (.bin .geq (.t b) (.t c)) (some (d,false))
abbrev H6(a b:Nat)(c:Int):ai:=.op (some a) (.call b [(.c (.int .i64 c))]) none
abbrev H7(a b:Nat)(c:Int)(d:Nat):ai:=.op (some a) (.bin .lss (.t b) (.c (.int .i64 c))) (some (d,false))
abbrev H8(a b:Nat)(c:Int)(d:Nat):ai:=.op (some a) (.bin .neq (.t b) (.c (.int .i64 c))) (some (d,true))
abbrev H9(a b:Nat)(c:Int)(d e f g:Nat):ai:=.op (some a) (.alloc b [(.bool false),(.int .i64 c),(.slice none d e),(.slice none f g)]) none
abbrev Ia(a b c:Nat):ai:=.op (some a) (.mkfn b [] [(.t c)]) none
abbrev Ib(a b c:Nat):ai:=.op none (.storeD a (.t b) (.t c)) none
abbrev Ic(a:Nat):ai:=.pc none (.pan (.t a)) none
abbrev Kf(a b c d e:Nat):ai:=.op (some a) (.call b [(.t c),(.t d)]) (some (e,false))
abbrev Kg(a b c d e:Nat):ai:=.op (some a) (.call b [(.t c),(.t d)]) (some (e,true))
abbrev Kh(a b c d:Nat):ai:=.op (some a) (.loadR false b (.t c)) (some (d,true))
abbrev Ki(a:Nat)(b:Int)(c d:Nat)(e:Int):ai:=.op (some a) (.build [(.int .i64 b)] [(c,d,(.c (.int .i64 e)))]) none
abbrev Kj(a b c:Nat):ai:=.op (some a) (.mkif b (.t c)) none
abbrev Kk(a b:Nat):ai:=.op (some a) (.mov (.c (.int .i64 (-b)))) none
abbrev Ns(a b c d e f:Nat):ai:=.op (some a) (.mkF b c d [(.t e)]) (some (f,false))
abbrev Nt(a b c d:Nat)(e f:Int)(g h i j:Nat):ai:=.op (some a) (.app b c d [(.int .i64 e),(.int .i64 f),(.slice none g h)] (.t i) (.t j)) none
abbrev Nu(a b c d e f:Nat):ai:=.op (some a) (.call b [(.t c),(.t d),(.t e),(.t f)]) none
abbrev Nv(a b:Nat)(c:Int)(d:Nat):ai:=.op (some a) (.bin .eql (.t b) (.c (.int .i64 c))) (some (d,false))
abbrev Nw(a b c d:Nat)(e f:Int)(g h:Nat):ai:=.op (some a) (.app b c d [(.int .i64 e),(.int .i64 f)] (.t g) (.t h)) none
abbrev Nx(a b:Nat)(c:Int)(d:Nat):ai:=.op (some a) (.bin .neq (.t b) (.c (.int .i64 c))) (some (d,false))
abbrev Ny(a b c d e f g h:Nat):ai:=.op (some a) (.call b [(.t c),(.t d),(.t e),(.t f),(.t g)]) (some (h,true))
abbrev Nz(a b c d e:Nat):ai:=.op (some a) (.mkfn b [] [(.t c),(.t d),(.t e)]) none
abbrev NA(a b:Nat)(c:Int)(d:Nat):ai:=.op (some a) (.bin .leq (.t b) (.c (.int .i64 c))) (some (d,true))
abbrev NC(a b c:Nat):ai:=.op (some a) (.bin .add (.t b) (.t c)) none
abbrev ND(a:Nat)(b c:Int)(d e f g h i j k:Nat):ai:=.op (some a) (.build [(.int .i64 b),(.int .i64 c),(.slice none d e)] [(f,g,(.t h)),(i,j,(.t k))]) none
abbrev NE(a b:Nat)(c:Int):ai:=.op (some a) (.alloc b [(.int .i64 c)]) none
abbrev NF(a b c:Nat):ai:=.op (some a) (.nilck (.t b)) (some (c,true))
abbrev NG(a b:Nat)(c:Int):ai:=.op (some a) (.bin .sub (.t b) (.c (.int .i64 c))) none
abbrev NH(a b c d e f g h i j k l m n o p:Nat)(q:Int):ai:=.op (some a) (.alloc b [(.slice none c d),(.slice none e f),(.slice none g h),(.slice none i j),(.slice none k l),(.slice none m n),(.slice none o p),(.int .i64 q)]) none
abbrev NI(a b:Nat)(c:Int)(d:Nat):ai:=.op (some a) (.callD b [(.c (.int .i64 c)),(.t d)]) none
abbrev NJ(a b c d e f:Nat):ai:=.op (some a) (.mkFD b c d [(.t e)]) (some (f,true))
abbrev NK(a b c:Nat)(d:Int)(e:Nat):ai:=.op (some a) (.idxA b (.t c) (.c (.int .i64 d))) (some (e,true))
abbrev Rh(a b c d:Nat):ai:=.op (some a) (.callD b [(.t c)]) (some (d,false))
abbrev Ri(a b c d e f g:Nat):ai:=.op (some a) (.mkF b c d [(.t e),(.t f)]) (some (g,false))
abbrev Rj(a b c:Nat)(d:Int):ai:=.op (some a) (.call b [(.t c),(.c (.int .i64 d))]) none
abbrev Kl(a b:Nat):ai:=.op (some a) (.alloc b [.nilFunc]) none
abbrev Km(a b:Nat)(c d:Int):ai:=.op (some a) (.alloc b [(.int .i64 c),(.int .i64 d)]) none
abbrev Ko(a b c:Nat):ai:=.op (some a) (.mm true [(.t b),(.t c)]) none
abbrev Kq(a b c d:Nat):ai:=.op (some a) (.mkfn b [] [(.t c),(.t d)]) none
abbrev Kr(a b:Nat)(c:Int):ai:=.op none (.store a (.t b) (.c (.int .i64 c))) none
abbrev Ks(a b c:Nat)(d:Int):ai:=.pc (some a) (.call b [(.t c),(.c (.int .i64 d))]) none
abbrev Kt(a b c:Nat):ai:=.op none (.storeX a (.t b) (.t c)) none
abbrev Ku(a b c:Nat):ai:=.op none (.mupd false (.t a) (.t b) (.t c)) none
abbrev Kv(a:Nat)(b c:Int)(d e:Nat):ai:=.op (some a) (.build [(.int .i64 b),(.int .i64 c),(.slice none d e)] []) none
abbrev Kw(a:Nat)(b c d:Int)(e f:Nat)(g h:Int)(i j:Nat)(k:Int)(l m n:Nat):ai:=.op (some a) (.build [(.int .i64 b),(.int .i64 c),(.int .i64 d),(.slice none e f),(.int .i64 g),(.int .i64 h),(.slice none i j),(.int .i64 k)] [(l,m,(.t n))]) none
abbrev Kx(a b:Nat)(c:Int)(d:Nat):ai:=.op (some a) (.call b [(.c (.int .i64 c)),(.t d)]) none
abbrev Ky(a b c:Nat)(d:Int):ai:=.op (some a) (.idxA b (.t c) (.c (.int .i64 d))) none
abbrev Kz(a b:Nat)(c:Int)(d e f g:Nat):ai:=.op (some a) (.allocD b [(.bool false),(.int .i64 c),(.slice none d e),(.slice none f g)]) none
abbrev P7(a:Nat)(b:Int)(c d e f g:Nat):ai:=.op (some a) (.build [(.bool false),(.int .i64 b),(.slice none c d),(.slice none e f)] []) (some (g,true))
abbrev P8(a b c d e f:Nat):ai:=.op (some a) (.build [(.slice none b c),(.map none),(.map none)] [(d,e,(.t f))]) none
abbrev P9(a b c d:Nat):ai:=.op (some a) (.eqA false [true,true] (.t b) (.t c)) (some (d,true))
abbrev Qa(a b:Nat)(c d e:Int)(f g:Nat)(h i:Int)(j k:Nat)(l:Int):ai:=.op (some a) (.alloc b [(.int .i64 c),(.int .i64 d),(.int .i64 e),(.slice none f g),(.int .i64 h),(.int .i64 i),(.slice none j k),(.int .i64 l)]) none
abbrev Qb(a:Nat)(b c:Int):ai:=.op (some a) (.build [(.int .i64 b),(.int .i64 c)] []) none
abbrev Qc(a:Nat)(b c d:Int)(e f:Nat)(g h:Int)(i j:Nat)(k:Int)(l m:Nat)(n:Int)(o p q r s t:Nat):ai:=.op (some a) (.build [(.int .i64 b),(.int .i64 c),(.int .i64 d),(.slice none e f),(.int .i64 g),(.int .i64 h),(.slice none i j),(.int .i64 k)] [(l,m,(.c (.int .i64 n))),(o,p,(.t q)),(r,s,(.t t))]) none
abbrev Qd(a b c d e f g h i j k l m n o:Nat)(p:Int)(q r s t u v w x y z aa ab:Nat):ai:=.op (some a) (.build [(.slice none b c),(.slice none d e),(.slice none f g),(.slice none h i),(.slice none j k),(.slice none l m),(.slice none n o),(.int .i64 p)] [(q,r,(.t s)),(t,u,(.t v)),(w,x,(.t y)),(z,aa,(.t ab))]) none
abbrev Qe(a:Nat)(b:Int)(c d e f:Nat):ai:=.op (some a) (.build [(.bool false),(.int .i64 b),(.slice none c d),(.slice none e f)] []) none
abbrev Qf(a b c d e:Nat)(f:Int)(g:Nat):ai:=.op (some a) (.callD b [(.t c),(.c (.slice none d e)),(.c (.int .i64 f)),(.t g)]) none
abbrev Qg(a:Nat)(b:Int)(c d e f g h:Nat)(i:Int)(j k l m n o p:Nat):ai:=.op (some a) (.build [(.bool false),(.int .i64 b),(.slice none c d),(.slice none e f)] [(g,h,(.c (.int .i64 i))),(j,k,(.t l)),(m,n,(.t o))]) (some (p,true))
def c3:ay:=(jS (jR [gA 5 29 0,gA 8 32 3,ef 10]) (jS (jR [yd 18 11,aj 11 18]) (jS (jS (jR [aj 19 1,vR 20 12 19,iY 21 20,aj 22 21,eK 23 2 22,vS 24 12 23 22,jO 25 24 22,cR 26 22 25,aj 27 26,nO 28 3 8 27,Ns 29 32 1 3 28 27,vS 30 12 29 27,jO 31 30 27,cR 32 27 31,aj 33 32,dm 34 2 5 33,eL 35 1 34 33,kX 36 35 33,si 37 36 20 33,cR 38 33 37]) (jC 38 (jS (jR [aj 39 11,aj 10 39]) .ret) .skip)) (jS (jR [H6 40 13 0,H6 41 13 1,H6 42 13 2,H6 43 13 3,.op (some 44) (.mkF 32 4 3 [(.t 40),(.t 41),(.t 42),(.t 43)]) none,aj 12 44]) (jS (jS (jD [kR 45 8 5,aj 46 12,eV 47 46,kR 48 3 8,.op (some 49) (.callD 14 [(.t 45),(.t 47),(.t 48)]) none,aj 50 49,fI 51 12 50,lC 52 3 8 50,lC 54 3 8 50,ye 53 16 51 52 50,ye 55 15 53 54 50,BV 56 55 50,fW 57 50 56]) (jC 57 (jS (jR [ef 10]) .ret) .skip)) (jS (jR [aj 58 1,eV 59 58,aj 13 59]) (jS (jS (jR [dY 60 8 5,aj 61 13,dY 62 3 8,Dz 63 14 60 61 62,iY 64 63]) (jC 64 (jS (jR [aj 65 11,aj 10 65]) .ret) .skip)) (jS (jR [aj 66 1,dY 67 3 8,gR 68 16 66 67,gG 14 32 0 0 0 0,gB 3 14 68]) (jS (jR [zG 15 0 0]) (jS (jR [rq 16]) (jS (jS (jR [dD 17 0]) (jB 0 (jL [69,70,71,74,75,76,77,78,79,80,81,82,15,83,84,85,86,87,88,89,90,91,92,93,94,95,96,97,98,99,16,72,73,17] (jS (jS (jR [aj 69 17,aj 70 13,iZ 71 69 70]) (jC 71 .skip (jX 0))) (jS (jB 1 (jS (jR [aj 74 15,aj 75 2,aj 76 1,aj 77 17,f7 78 3 76 77,dY 79 3 78,gR 80 16 75 79,BW 81 32 1 3 80,Nt 82 32 3 40 0 0 0 0 74 81,aj 15 82]) (jD [aj 83 16,aj 84 83,fI 85 1 84,fI 86 17 84,uW 87 3 85 86 84,lC 88 3 87 84,.op (some 89) (.callD 17 [(.t 88)]) (some (84,true)),fW 90 84 89,aj 91 90,lC 92 8 5 91,fI 93 4 91,fI 94 1 91,fI 95 17 91,uW 96 3 94 95 91,lC 97 3 96 91,.op (some 98) (.callD 14 [(.t 92),(.t 93),(.t 97)]) (some (91,true)),fW 99 91 98,aj 16 99]))) (jR [aj 72 17,iE 73 72 1,aj 17 73])))))) (jS (jS (jS (jR [.frz 82]) (jD [aj 100 2,kR 101 3 14,aj 103 15,kR 104 3 8,tJ 102 16 100 101,tJ 105 16 103 104,tJ 106 15 102 105,iY 107 106])) (jC 107 (jS (jR [ef 10]) .ret) .skip)) (jS (jD [aj 108 11,aj 109 108,fI 110 16 109,BV 111 110 109,fI 112 111 109,eK 113 4 112,H7 114 113 0 112,vT 115 112 114 109,fI 116 115 109,eK 117 4 116,si 118 117 4 116,vT 119 116 118 109,fI 120 119 109,nP 121 8 5 120,eK 122 4 120,nP 123 3 14 120,nP 125 3 14 120,.op (some 124) (.callD 14 [(.t 121),(.t 122),(.t 123)]) (some (120,false)),Rh 126 18 125 120,.op (some 127) (.bin .leq (.t 126) (.c (.int .i64 8))) (some (120,false)),.op (some 128) (.eqB false (.t 124) (.t 127)) (some (120,false)),vT 129 120 128 109,fW 130 109 129,aj 10 130]) .ret)))))))))))))
def c4:ay:=(jS (jR [gA 6 32 2,gA 7 32 3,ef 8]) (jS (jR [yd 14 11,aj 9 14]) (jS (jS (jR [aj 15 0,vR 16 12 15,iY 17 16,aj 18 17,eK 19 1 18,vS 20 12 19 18,jO 21 20 18,cR 22 18 21,aj 23 22,nO 24 3 6 23,nO 25 3 7 23,Ri 26 32 2 3 24 25 23,vS 27 12 26 23,jO 28 27 23,cR 29 23 28,aj 30 29,eK 31 0 30,nO 32 3 6 30,nO 33 3 7 30,Ri 34 32 2 3 32 33 30,Kf 35 19 31 34 30,jO 36 35 30,cR 37 30 36,aj 38 37,eK 39 1 38,kX 40 39 38,eK 41 0 38,kX 42 41 38,zH 43 40 42 38,cR 44 38 43,aj 45 44,eK 46 1 45,vS 47 20 46 45,jO 48 47 45,cR 49 45 48,aj 50 49,nO 51 3 6 50,eK 52 0 50,kX 53 52 50,Kf 54 21 51 53 50,jO 55 54 50,cR 56 50 55,aj 57 56,nO 58 3 7 57,eK 59 0 57,kX 60 59 57,Kf 61 21 58 60 57,jO 62 61 57,cR 63 57 62]) (jC 63 (jS (jR [aj 64 9,aj 8 64]) .ret) .skip)) (jS (jS (jR [dD 10 0]) (jB 0 (jL [65,66,67,68,71,72,73,74,75,76,77,78,79,80,81,82,83,84,85,86,87,88,89,90,91,92,93,94,95,96,97,98,99,100,101,8,69,70,10] (jS (jS (jR [aj 65 10,aj 66 0,eV 67 66,iZ 68 65 67]) (jC 68 .skip (jX 0))) (jS (jB 1 (jS (jD [aj 71 0,aj 72 10,f7 73 3 71 72,bO 74 0 73,fq 75 1 74,zI 76 75 0,aj 77 76,fI 78 0 77,fI 79 10 77,uW 80 3 78 79 77,lC 81 3 80 77,fI 82 0 77,qi 83 82 77,ye 84 21 81 83 77,BV 85 84 77,fI 86 85 77,eK 87 1 86,eK 88 0 86,eK 89 10 86,BX 90 3 88 89 86,nP 91 3 90 86,eK 93 1 86,eK 94 10 86,BX 95 3 93 94 86,nP 96 3 95 86,BZ 92 22 87 91 86,BZ 97 15 92 96 86,jO 98 97 86,vT 99 86 98 77,fW 100 77 99]) (jC 100 (jS (jR [aj 101 9,aj 8 101]) .ret) .skip))) (jR [aj 69 10,iE 70 69 1,aj 10 70])))))) (jS (jS (jD [aj 102 1,kR 103 3 6,aj 105 1,kR 106 3 7,tJ 104 22 102 103,tJ 107 22 105 106,tJ 108 15 104 107,iY 109 108]) (jC 109 (jS (jR [aj 110 9,aj 8 110]) .ret) .skip)) (jS (jR [aj 112 0,dY 113 3 6,dY 114 3 7,Dz 115 23 112 113 114,aj 111 115,dS 116 111 0,dS 117 111 1,aj 11 116,aj 12 117]) (jS (jS (jR [aj 118 12,zI 119 118 0]) (jC 119 (jS (jR [aj 120 9,aj 121 120,fI 122 12 121,H8 123 122 8 121,fW 124 121 123,aj 8 124]) .ret) .skip)) (jS (jS (jR [aj 125 11,eV 126 125,aj 127 1,eV 128 127,EZ 129 126 128]) (jC 129 (jS (jR [ef 8]) .ret) .skip)) (jS (jS (jR [dD 13 0]) (jB 2 (jL [130,131,132,133,136,137,138,139,140,141,142,143,144,145,146,147,148,149,150,151,152,153,154,155,156,157,158,159,160,161,162,163,164,165,8,134,135,13] (jS (jS (jR [aj 130 13,aj 131 11,eV 132 131,iZ 133 130 132]) (jC 133 .skip (jX 2))) (jS (jB 3 (jS (jD [aj 136 11,aj 137 13,f7 138 3 136 137,bO 139 0 138,fq 140 1 139,zI 141 140 0,aj 142 141,fI 143 11 142,fI 144 13 142,uW 145 3 143 144 142,lC 146 3 145 142,fI 147 1 142,qi 148 147 142,ye 149 21 146 148 142,BV 150 149 142,fI 151 150 142,eK 152 1 151,eK 153 11 151,eK 154 13 151,BX 155 3 153 154 151,nP 156 3 155 151,eK 158 1 151,eK 159 13 151,BX 160 3 158 159 151,nP 161 3 160 151,BZ 157 22 152 156 151,BZ 162 15 157 161 151,jO 163 162 151,vT 164 151 163 142,fW 165 142 164]) (jC 165 (jS (jR [ef 8]) .ret) .skip))) (jR [aj 134 13,iE 135 134 1,aj 13 135])))))) (jS (jR [aj 166 9,aj 8 166]) .ret))))))))))
def c5:ay:=(jS (jR [gA 3 32 0,gA 4 32 1,ef 6]) (jS (jR [yd 14 11,aj 7 14]) (jS (jS (jR [aj 15 2,vR 16 12 15,iY 17 16,aj 18 17,nO 19 3 3 18,nO 20 3 4 18,Ri 21 32 2 3 19 20 18,vS 22 12 21 18,jO 23 22 18,cR 24 18 23,aj 25 24,eK 26 2 25,kX 27 26 25,si 28 27 4 25,cR 29 25 28]) (jC 29 (jS (jR [aj 30 7,aj 6 30]) .ret) .skip)) (jS (jR [dY 32 3 3,dY 33 3 4,aj 34 2,eV 35 34,Dz 36 24 32 33 35,aj 31 36,dS 37 31 0,dS 38 31 1,aj 8 37,aj 9 38]) (jS (jS (jD [aj 39 9,aj 40 39,fI 41 8 40,qi 42 41 40,fI 43 2 40,qi 44 43 40,.op (some 45) (.bin .neq (.t 42) (.t 44)) (some (40,true)),fI 46 45 40,eK 47 8 46,nP 48 3 3 46,nP 50 3 4 46,BZ 49 16 47 48 46,BZ 51 15 49 50 46,jO 52 51 46,vT 53 46 52 40,fW 54 40 53]) (jC 54 (jS (jR [ef 6]) .ret) .skip)) (jS (jS (jR [dY 55 3 3,aj 56 2,eV 57 56,gR 58 25 55 57,iY 59 58]) (jC 59 (jS (jR [aj 60 7,aj 6 60]) .ret) .skip)) (jS (jR [aj 61 2,dY 62 3 3,gR 63 16 61 62,gG 10 32 0 0 0 0,gB 3 10 63]) (jS (jR [dY 65 3 3,dY 66 3 10,aj 67 2,eV 68 67,Dz 69 24 65 66 68,aj 64 69,dS 70 64 0,dS 71 64 1,aj 11 70,aj 12 71]) (jS (jS (jR [aj 72 12,iY 73 72,aj 74 73,eK 75 11 74,kX 76 75 74,eK 77 2 74,kX 78 77 74,zH 79 76 78 74,cR 80 74 79]) (jC 80 (jS (jR [ef 6]) .ret) .skip)) (jS (jS (jR [dD 13 0]) (jB 0 (jL [81,82,83,84,87,88,89,90,91,92,93,94,95,96,97,98,99,100,101,102,103,104,105,106,107,108,109,110,111,112,113,114,115,6,85,86,13] (jS (jS (jR [aj 81 13,aj 82 2,eV 83 82,iZ 84 81 83]) (jC 84 .skip (jX 0))) (jS (jB 1 (jS (jD [kR 87 3 3,aj 88 13,tJ 89 26 87 88,aj 90 89,fI 91 11 90,fI 92 13 90,uW 93 3 91 92 90,lC 94 3 93 90,fI 95 2 90,fI 96 13 90,uW 97 3 95 96 90,lC 98 3 97 90,ye 99 15 94 98 90,BV 100 99 90,fW 101 90 100,aj 102 101,nP 103 3 3 102,eK 104 13 102,BZ 105 26 103 104 102,jO 106 105 102,eK 107 106 102,fI 108 11 107,fI 109 13 107,uW 110 3 108 109 107,iJ 111 0 110 107,jP 112 1 111 107,H8 113 112 0 107,.op (some 114) (.pick (.t 107) (.t 113) (.c (.bool false))) (some (102,false)),cR 115 102 114]) (jC 115 (jS (jR [ef 6]) .ret) .skip))) (jR [aj 85 13,iE 86 85 1,aj 13 86])))))) (jS (jR [aj 116 7,aj 6 116]) .ret)))))))))))
def c8:ay:=(jS (jR [gA 5 29 0,gA 9 32 4,ef 10]) (jS (jR [yd 18 29,aj 11 18]) (jS (jS (jR [dY 19 8 5,aj 20 1,gR 21 30 19 20,iY 22 21,aj 23 22,eK 24 2 23,kX 25 24 23,si 26 25 10 23,cR 27 23 26,aj 28 27,nO 29 3 9 28,Ns 30 32 1 3 29 28,vS 31 12 30 28,jO 32 31 28,cR 33 28 32]) (jC 33 (jS (jR [aj 34 11,aj 10 34]) .ret) .skip)) (jS (jR [dY 36 8 5,aj 37 1,aj 38 3,dY 39 3 9,Nu 40 34 36 37 38 39,aj 35 40,dS 41 35 0,dS 42 35 1,H9 12 64 0 0 0 0 0,gB 4 12 41,aj 13 42]) (jS (jS (jR [aj 43 13,zI 44 43 0]) (jC 44 (jS (jR [aj 45 11,aj 46 45,fI 47 13 46,qj 48 47 9 46,fI 49 48 46,eK 50 13 49,Nv 51 50 15 49,vT 52 49 51 46,fI 53 52 46,eK 54 13 53,Nv 55 54 2 53,vT 56 53 55 46,fW 57 46 56,aj 58 57,oK 59 4 12 58,P7 60 0 0 0 0 0 58,Kg 61 35 59 60 58,fW 62 58 61,aj 10 62]) .ret) .skip)) (jS (jR [.op (some 63) (.mkF 72 0 2 []) none,aj 64 1,Nw 65 72 2 16 0 0 63 64,aj 66 2,Nw 67 72 2 16 0 0 65 66,aj 14 67]) (jS (jR [dY 69 8 5,aj 70 14,aj 71 3,dY 72 3 9,Nu 73 34 69 70 71 72,aj 68 73,dS 74 68 0,dS 75 68 1,H9 15 64 0 0 0 0 0,gB 4 15 74,aj 16 75]) (jS (jS (jR [dY 76 4 12,Rj 77 36 76 400,E0 78 77 400,aj 79 78,eK 80 16 79,Nx 81 80 0 79,cR 82 79 81]) (jC 82 (jS (jR [ef 10]) .ret) .skip)) (jS (jS (jR [dD 17 0]) (jB 0 (jL [83,84,85,86,87,90,91,92,93,94,95,96,97,98,10,88,89,17] (jS (jS (jR [aj 83 17,bO 84 5 5,cg 85 1 84,eV 86 85,iZ 87 83 86]) (jC 87 .skip (jX 0))) (jS (jB 1 (jS (jD [kR 90 8 5,bO 91 5 5,fq 92 1 91,aj 93 17,f7 94 8 92 93,kR 95 8 94,tJ 96 31 90 95,iY 97 96]) (jC 97 (jS (jR [aj 98 11,aj 10 98]) .ret) .skip))) (jR [aj 88 17,iE 89 88 1,aj 17 89])))))) (jS (jR [aj 99 11,aj 100 99,oK 101 8 5 100,fI 102 1 100,fI 103 3 100,oK 104 3 9 100,oK 105 4 12 100,Ny 106 37 101 102 103 104 105 100,fW 107 100 106,aj 108 107,oK 109 8 5 108,fI 110 14 108,fI 111 3 108,oK 112 3 9 108,oK 113 4 15 108,Ny 114 37 109 110 111 112 113 108,fW 115 108 114,aj 10 115]) .ret))))))))))
def c12:ay:=(jS (jR [ef 2]) (jS (jS (jR [dD 3 0]) (jB 0 (jL [4,5,6,7,10,11,12,13,14,15,2,8,9,3] (jS (jS (jR [aj 4 3,aj 5 0,eV 6 5,iZ 7 4 6]) (jC 7 .skip (jX 0))) (jS (jB 1 (jS (jR [aj 10 0,aj 11 3,f7 12 3 10 11,dY 13 3 12,Rj 14 46 13 30,E0 15 14 30]) (jC 15 (jS (jR [ef 2]) .ret) .skip))) (jR [aj 8 3,iE 9 8 1,aj 3 9])))))) (jS (jR [aj 16 0,eV 17 16,.op (some 18) (.bin .leq (.t 17) (.c (.int .i64 8))) none,aj 2 18]) .ret)))
def Yj:dc:={n:=19,own:=[],frz:=[],ord:=[]}
theorem NM:aB Try.prog Yj Try.f12=some (c12,19,[(2,none)],false):=by kernel_rfl
def c14:ay:=(jS (jR [gA 3 29 0,gA 4 3 1,gA 5 32 2,ef 6]) (jS (jS (jR [cg 8 1 4,zJ 9 8 0,aj 10 9,eL 11 1 4 10,si 12 11 4 10,cR 13 10 12,aj 14 13,nO 15 3 5 14,vS 16 47 15 14,si 17 16 8 14,cR 18 14 17]) (jC 18 (jS (jR [ef 6]) .ret) .skip)) (jS (jR [Kl 7 39]) (jS (jR [Nz 19 48 4 3 7,gB 1 7 19]) (jS (jR [cg 20 1 7,dY 21 3 5,DA 22 20 21,aj 6 22]) .ret)))))
def Yk:dc:={n:=23,own:=[3,4,5],frz:=[],ord:=[]}
theorem NN:aB Try.prog Yk Try.f14=some (c14,23,[(6,none)],false):=by kernel_rfl
def c15:ay:=(jS (jR [gA 2 32 0,gA 3 32 1,ef 4]) (jS (jR [bO 5 0 2,cg 6 1 5,bO 7 0 3,cg 8 1 7,E4 9 6 8,aj 10 9,iJ 11 1 2 10,ic 12 1 11 10,iJ 13 1 3 10,ic 14 1 13 10,E5 15 12 14 10,fW 16 10 15,aj 17 16,iJ 18 2 2 17,ic 19 1 18 17,iJ 20 2 3 17,ic 21 1 20 17,Kg 22 45 19 21 17,fW 23 17 22,aj 4 23]) .ret))
def Yl:dc:={n:=24,own:=[2,3],frz:=[],ord:=[]}
theorem NP:aB Try.prog Yl Try.f15=some (c15,24,[(4,none)],false):=by kernel_rfl
def c16:ay:=(jS (jR [gA 2 30 0,gA 3 32 1,gG 4 32 0 0 0 0]) (jS (jR [dY 5 3 3,Ia 6 53 2,gR 7 52 5 6,gB 3 4 7]) .ret))
def Ym:dc:={n:=8,own:=[2,3],frz:=[],ord:=[]}
theorem NQ:aB Try.prog Ym Try.f16=some (c16,8,[(4,some (true,3))],false):=by kernel_rfl
def c17:ay:=(jS (jR [gA 1 32 0,ef 2]) (jS (jR [bO 3 0 1,cg 4 1 3,nQ 5 4 1,aj 6 5,iJ 7 0 1 6,ic 8 1 7 6,NA 9 8 5 6,fW 10 6 9,aj 2 10]) .ret))
def Yn:dc:={n:=11,own:=[1],frz:=[],ord:=[]}
theorem NR:aB Try.prog Yn Try.f17=some (c17,11,[(2,none)],false):=by kernel_rfl
def Yo:ay:=(jS (jR [gA 3 32 1,gG 4 32 0 0 0 0]) (jS (jR [aj 7 0,P8 8 0 0 0 1 7,B0 9 93 8,.op (some 5) (.alloc 89 [(.pointer none)]) none,gB 1 5 9]) (jS (jR [gG 6 32 0 0 0 0]) (jS (jR [Nz 10 57 5 3 6,vR 11 56 10]) (jS (jR [dY 12 3 6,gB 3 4 12]) .ret)))))
def Yp:dc:={n:=13,own:=[3],frz:=[],ord:=[]}
theorem Gd:aB Try.prog Yp Try.f22=some (Yo,13,[(4,some (true,3))],false):=by kernel_rfl
def Yq:ay:=(jS (jR [gA 4 32 1,gA 5 32 2,zG 6 0 0,dD 7 0]) (jS (jR [aj 10 0,vR 11 61 10,P8 12 0 0 0 1 11,B0 13 93 12,.op (some 8) (.alloc 89 [(.pointer none)]) none,gB 1 8 13]) (jS (jR [Nz 14 62 8 4 5,vR 15 56 14,aj 9 15]) (jS (jS (jR [aj 16 9,zI 17 16 0]) (jC 17 (jS (jR [aj 18 9,zG 6 0 0,aj 7 18]) .ret) .skip)) (jS (jR [cg 19 1 8,vR 20 65 19,aj 6 20,dD 7 0]) .ret)))))
def Yr:dc:={n:=21,own:=[4,5],frz:=[],ord:=[]}
theorem NS:aB Try.prog Yr Try.f23=some (Yq,21,[(6,none),(7,none)],false):=by kernel_rfl
def Yt:ay:=(jS (jR [gA 3 32 0,gA 4 32 1,gA 5 3 2,zG 6 0 0,ef 7]) (jS (jS (jR [cg 13 1 5,zJ 14 13 0,aj 15 14,eL 16 1 5 15,si 17 16 4 15,cR 18 15 17]) (jC 18 (jS (jR [zG 6 0 0,ef 7]) .ret) .skip)) (jS (jR [.op (some 19) (.mkmap) none,.op (some 8) (.alloc 101 [(.map none)]) none,gB 1 8 19]) (jS (jR [Kl 9 37]) (jS (jR [Nz 20 66 9 5 8,gB 1 9 20]) (jS (jS (jR [cg 21 1 9,dY 22 3 3,dY 23 3 4,.op (some 24) (.callV (.t 21) [(.t 22),(.t 23)]) none,iY 25 24]) (jC 25 (jS (jR [zG 6 0 0,ef 7]) .ret) .skip)) (jS (jR [cg 26 1 5,.op (some 27) (.makeS 32 3 40 [(.int .i64 0),(.int .i64 0),(.slice none 0 0)] (.t 26) (.t 26)) none,aj 10 27]) (jS (jS (jR [cg 28 1 8,.op (some 29) (.mrange (.t 28)) none]) (jB 0 (jL [30,31,32,33,34,12,11,35,36,37,38] (jS (jR [.op (some 30) (.mnext (.t 29)) none,dS 31 30 0]) (jS (jC 31 .skip (jX 0)) (jB 1 (jS (jR [.op (some 32) (.mentry (.t 29)) none,dS 33 32 0,dS 34 32 1,gG 12 32 0 0 0 0,aj 11 33,gB 3 12 34]) (jR [aj 35 10,aj 36 11,dY 37 3 12,f7 38 3 35 36,gB 3 38 37])))))))) (jS (jR [aj 39 10,aj 6 39,rq 7]) .ret)))))))))
def I3:dc:={n:=40,own:=[3,4,5],frz:=[],ord:=[]}
theorem Ge:aB Try.prog I3 Try.f24=some (Yt,40,[(6,none),(7,none)],false):=by kernel_rfl
def Yu:ay:=(jS (jR [gG 2 32 0 0 0 0]) (jS (jR [aj 3 0,E6 4 0 0 0 0 0 1 9 1 1 3,gB 3 2 4]) .ret))
def Yv:dc:={n:=5,own:=[],frz:=[],ord:=[]}
theorem NT:aB Try.prog Yv Try.f27=some (Yu,5,[(2,some (true,3))],false):=by kernel_rfl
def Yw:ay:=(jS (jR [gA 2 29 0,ef 4]) (jS (jS (jR [bO 6 2 2,cg 7 1 6,eV 8 7,E0 9 8 20,aj 10 9,dm 11 5 2 10,eL 12 1 11 10,kX 13 12 10,si 14 13 12 10,cR 15 10 14,aj 16 15,eK 17 1 16,kX 18 17 16,si 19 18 10 16,cR 20 16 19]) (jC 20 (jS (jR [ef 4]) .ret) .skip)) (jS (jS (jR [dD 5 0]) (jB 0 (jL [21,22,23,24,25,28,29,30,31,32,33,34,35,36,37,38,39,40,41,42,43,44,45,46,4,26,27,5] (jS (jS (jR [aj 21 5,bO 22 5 2,cg 23 1 22,eV 24 23,iZ 25 21 24]) (jC 25 .skip (jX 0))) (jS (jB 1 (jS (jR [bO 28 5 2,cg 29 1 28,aj 30 5,f7 31 8 29 30,bO 32 3 31,cg 33 1 32,eV 34 33,E0 35 34 6,aj 36 35,dm 37 5 2 36,eL 38 1 37 36,eK 39 5 36,BX 40 8 38 39 36,dm 41 4 40 36,nO 42 3 41 36,Ns 43 32 1 3 42 36,vS 44 12 43 36,jO 45 44 36,cR 46 36 45]) (jC 46 (jS (jR [ef 4]) .ret) .skip))) (jR [aj 26 5,iE 27 26 1,aj 5 27])))))) (jS (jR [rq 4]) .ret))))
def Yx:dc:={n:=47,own:=[2],frz:=[],ord:=[]}
theorem NU:aB Try.prog Yx Try.f30=some (Yw,47,[(4,none)],false):=by kernel_rfl
def Yy:ay:=(jS (jR [gA 2 29 0,gA 3 56 1,ef 4]) (jS (jS (jR [bO 8 0 3,cg 9 1 8,zJ 10 9 0,aj 11 10,dm 12 0 3 11,eL 13 1 12 11,dm 14 3 2 11,eL 15 1 14 11,kX 16 15 11,E7 17 13 16 11,cR 18 11 17,aj 19 18,dm 20 1 3 19,eL 21 1 20 19,H7 22 21 0 19,cR 23 19 22,aj 24 23,dm 25 2 3 24,eL 26 1 25 24,H7 27 26 0 24,cR 28 24 27,aj 29 28,dm 30 2 3 29,eL 31 1 30 29,si 32 31 4 29,cR 33 29 32,aj 34 33,dm 35 4 3 34,nO 36 3 35 34,vS 37 17 36 34,jO 38 37 34,cR 39 34 38,aj 40 39,nO 41 8 2 40,dm 42 2 3 40,eL 43 1 42 40,dm 44 4 3 40,nO 45 3 44 40,.op (some 46) (.call 72 [(.t 41),(.t 43),(.t 45)]) (some (40,false)),jO 47 46 40,cR 48 40 47]) (jC 48 (jS (jR [ef 4]) .ret) .skip)) (jS (jS (jR [dD 5 0]) (jB 0 (jL [49,50,51,52,55,56,57,58,59,4,53,54,5] (jS (jS (jR [aj 49 5,bO 50 2 3,cg 51 1 50,iZ 52 49 51]) (jC 52 .skip (jX 0))) (jS (jB 1 (jS (jR [aj 55 5,bO 56 4 3,dY 57 3 56,gR 58 73 55 57,iY 59 58]) (jC 59 (jS (jR [ef 4]) .ret) .skip))) (jR [aj 53 5,iE 54 53 1,aj 5 54])))))) (jS (jS (jR [dD 6 0]) (jB 2 (jL [60,61,62,63,64,67,68,69,70,71,7,72,73,74,75,76,77,78,79,80,81,82,83,84,85,86,87,88,89,90,91,92,93,94,4,65,66,6] (jS (jS (jR [aj 60 6,bO 61 3 3,cg 62 1 61,eV 63 62,iZ 64 60 63]) (jC 64 .skip (jX 2))) (jS (jB 3 (jS (jR [bO 67 3 3,cg 68 1 67,aj 69 6,f7 70 2 68 69,dY 71 2 70,Km 7 72 0 0,gB 2 7 71]) (jS (jR [bO 72 0 7,cg 73 1 72,zJ 74 73 0,aj 75 74,dm 76 0 7 75,eL 77 1 76 75,dm 78 2 3 75,eL 79 1 78 75,E7 80 77 79 75,cR 81 75 80,aj 82 81,dm 83 1 7 82,eL 84 1 83 82,H7 85 84 0 82,cR 86 82 85,aj 87 86,dm 88 1 7 87,eL 89 1 88 87,dm 90 3 2 87,eL 91 1 90 87,kX 92 91 87,E7 93 89 92 87,cR 94 87 93]) (jC 94 (jS (jR [ef 4]) .ret) .skip)))) (jR [aj 65 6,iE 66 65 1,aj 6 66])))))) (jS (jR [rq 4]) .ret)))))
def Yz:dc:={n:=95,own:=[2,3],frz:=[],ord:=[]}
theorem NV:aB Try.prog Yz Try.f31=some (Yy,95,[(4,none)],false):=by kernel_rfl
def YA:ay:=(jS (jR [gA 2 64 0,gA 3 64 1,ef 4]) (jS (jS (jR [bO 6 0 2,cg 7 1 6,bO 8 0 3,cg 9 1 8,.op (some 10) (.eqB true (.t 7) (.t 9)) none,aj 11 10,dm 12 1 2 11,eL 13 1 12 11,dm 14 1 3 11,eL 15 1 14 11,zH 16 13 15 11,cR 17 11 16,aj 18 17,dm 19 2 2 18,eL 20 1 19 18,dm 21 2 3 18,eL 22 1 21 18,Kf 23 45 20 22 18,jO 24 23 18,cR 25 18 24,aj 26 25,dm 27 3 2 26,eL 28 1 27 26,kX 29 28 26,dm 30 3 3 26,eL 31 1 30 26,kX 32 31 26,zH 33 29 32 26,cR 34 26 33]) (jC 34 (jS (jR [ef 4]) .ret) .skip)) (jS (jS (jR [dD 5 0]) (jB 0 (jL [35,36,37,38,39,42,43,44,45,46,47,48,49,50,51,52,53,4,40,41,5] (jS (jS (jR [aj 35 5,bO 36 3 2,cg 37 1 36,eV 38 37,iZ 39 35 38]) (jC 39 .skip (jX 0))) (jS (jB 1 (jS (jD [bO 42 3 2,fq 43 1 42,aj 44 5,f7 45 4 43 44,kR 46 4 45,bO 47 3 3,fq 48 1 47,aj 49 5,f7 50 4 48 49,kR 51 4 50,tJ 52 35 46 51,iY 53 52]) (jC 53 (jS (jR [ef 4]) .ret) .skip))) (jR [aj 40 5,iE 41 40 1,aj 5 41])))))) (jS (jR [rq 4]) .ret))))
def YB:dc:={n:=54,own:=[2,3],frz:=[],ord:=[(6,.range 12,[[],[0],[],[0,1,2],.range 4,[],[5],[],[5,6,7],[5,6,7,8],.range 10,.range 11])]}
theorem NW:aB Try.prog YB Try.f35=some (YA,54,[(4,none)],false):=by kernel_rfl
def YC:ay:=(jS (jR [gA 2 64 0,dD 4 0]) (jS (jR [dD 5 1]) (jS (jS (jR [dD 6 0]) (jB 0 (jL [7,8,9,10,11,12,13,14,15,16,19,20,21,22,23,24,25,26,27,28,29,5,17,18,6] (jS (jS (jR [aj 7 6,bO 8 3 2,cg 9 1 8,eV 10 9,iZ 11 7 10,aj 12 11,fI 13 5 12,fI 14 1 12,.op (some 15) (.bin .leq (.t 13) (.t 14)) (some (12,true)),fW 16 12 15]) (jC 16 .skip (jX 0))) (jS (jB 1 (jR [aj 19 5,bO 20 3 2,cg 21 1 20,aj 22 6,f7 23 4 21 22,dY 24 4 23,aj 25 1,aj 26 5,.op (some 27) (.bin .sub (.t 25) (.t 26)) none,gR 28 36 24 27,NC 29 19 28,aj 5 29])) (jR [aj 17 6,iE 18 17 1,aj 6 18])))))) (jS (jR [aj 30 5,aj 4 30]) .ret))))
def YD:dc:={n:=31,own:=[2],frz:=[],ord:=[]}
theorem NX:aB Try.prog YD Try.f36=some (YC,31,[(4,none)],false):=by kernel_rfl
def YE:ay:=(jS (jR [gA 5 29 0,gA 8 32 3,gA 9 64 4,ef 10]) (jS (jS (jR [bO 15 0 9,cg 16 1 15]) (jC 16 (jS (jR [bO 17 1 8,cg 18 1 17,aj 19 2,.op (some 20) (.build [(.int .i64 0),(.int .i64 0)] [(0,1,(.t 18)),(1,1,(.t 19))]) none,Km 11 72 0 0,gB 2 11 20]) (jS (jD [bO 21 0 8,fq 22 1 21,fU 23 22 5,aj 24 23,fI 25 1 24,iJ 26 1 9 24,jP 27 1 26 24,ye 28 85 25 27 24,fW 29 24 28,aj 30 29,fI 31 1 30,iJ 32 1 9 30,jP 33 1 32 30,uW 34 2 31 33 30,lC 35 2 34 30,lC 36 2 11 30,P9 37 35 36 30,fW 38 30 37,aj 39 38,iJ 40 2 9 39,jP 41 1 40 39,qi 42 41 39,iJ 43 3 9 39,jP 44 1 43 39,qi 45 44 39,.op (some 46) (.bin .add (.t 42) (.t 45)) (some (39,true)),qj 47 46 0 39,fW 48 39 47,aj 10 48]) .ret)) .skip)) (jS (jS (jR [bO 49 5 5,cg 50 1 49,bO 51 1 9,cg 52 1 51,gR 53 86 50 52,iY 54 53]) (jC 54 (jS (jR [ef 10]) .ret) .skip)) (jS (jR [bO 55 5 5,cg 56 1 55,bO 57 1 9,cg 58 1 57,f7 59 8 56 58,dY 60 8 59,Qa 12 56 0 0 0 0 0 0 0 0 0 0,gB 8 12 60]) (jS (jS (jD [bO 61 0 12,fq 62 1 61,aj 63 2,EZ 64 62 63,aj 65 64,dm 66 2 9 65,yg 67 1 66 65,kX 68 67 65,dm 69 2 12 65,yg 70 1 69 65,zH 71 68 70 65,cR 72 65 71,aj 73 72,dm 74 3 9 73,yg 75 1 74 73,kX 76 75 73,dm 77 3 12 73,yg 78 1 77 73,kX 79 78 73,zH 80 76 79 73,cR 81 73 80,aj 82 81,dm 83 2 9 82,yg 84 1 83 82,dm 85 4 12 82,nP 86 3 85 82,nP 88 3 8 82,BZ 87 16 84 86 82,BZ 89 80 87 88 82,jO 90 89 82,cR 91 82 90]) (jC 91 (jS (jR [ef 10]) .ret) .skip)) (jS (jS (jR [bO 92 3 12,cg 93 1 92,eV 94 93,dD 95 0]) (jB 0 (jL [96,97,98,99,14,13,100,101,102,103,104,105,106,107,108,109,110,111,112,113,114,115,116,117,118,119,120,121,122,123,124,10,125,95] (jS (jR [iZ 96 95 94]) (jS (jC 96 .skip (jX 0)) (jS (jB 1 (jS (jR [aj 97 95,f7 98 2 93 95,dY 99 2 98,Km 14 72 0 0,aj 13 97,gB 2 14 99]) (jS (jD [bO 100 2 9,fq 101 1 100,bO 102 0 14,fq 103 1 102,tJ 104 84 101 103,iY 105 104,aj 106 105,nP 107 8 5 106,eK 108 1 106,dm 109 1 14 106,yg 110 1 109 106,dm 111 2 9 106,yg 112 1 111 106,dm 113 0 14 106,yg 114 1 113 106,BX 115 3 112 114 106,nP 116 3 115 106,dm 117 3 9 106,yg 118 1 117 106,eK 119 13 106,BX 120 4 118 119 106,nP 121 4 120 106,.op (some 122) (.callD 37 [(.t 107),(.t 108),(.t 110),(.t 116),(.t 121)]) (some (106,false)),jO 123 122 106,cR 124 106 123]) (jC 124 (jS (jR [ef 10]) .ret) .skip)))) (jR [iE 125 95 1,aj 95 125]))))))) (jS (jR [rq 10]) .ret)))))))
def YF:dc:={n:=126,own:=[5,8,9],frz:=[],ord:=[(3,.range 29,[[],[0],[0,1],[0,1,2],.range 4,.range 4,[0,1,2,3,5],.range 7,.range 8,.range 9,.range 10,.range 10,[0,1,2,3,4,5,6,7,8,9,11],.range 13,.range 14,.range 10,.range 16,.range 17,.range 18,.range 19,.range 20,.range 21,.range 19,[0,1,2,3,4,5,6,7,8,9,10,11,12,13,14,15,16,17,18,22],[0,1,2,3,4,5,6,7,8,9,10,11,12,13,14,15,16,17,18,22,23],.range 25,.range 26,.range 27,.range 28]),(7,[0,1,2,3,4,5,6,7,8,9,10,11,12,13,14,15,16,17,18,19,20,21,22,23,24,25,27,26,28,29,30],[[],[0],[],[0,1,2],.range 4,.range 5,.range 6,.range 7,.range 5,[0,1,2,3,4,8],.range 10,.range 11,.range 12,.range 13,.range 14,.range 15,.range 13,[0,1,2,3,4,5,6,7,8,9,10,11,12,16],[0,1,2,3,4,5,6,7,8,9,10,11,12,16,17],.range 19,.range 20,.range 21,.range 22,.range 23,.range 22,[0,1,2,3,4,5,6,7,8,9,10,11,12,13,14,15,16,17,18,19,20,21,24],.range 26,.range 22,.range 28,.range 29,.range 30]),(12,.range 25,[[],[0],[],[2],.range 4,.range 5,.range 6,.range 7,.range 7,.range 7,[0,1,2,3,4,5,6,9],.range 7,[0,1,2,3,4,5,6,11],.range 7,[0,1,2,3,4,5,6,13],[0,1,2,3,4,5,6,11,12,13,14],[0,1,2,3,4,5,6,11,12,13,14,15],.range 7,[0,1,2,3,4,5,6,17],.range 7,[0,1,2,3,4,5,6,17,18,19],[0,1,2,3,4,5,6,17,18,19,20],.range 22,.range 23,.range 24])]}
theorem Gf:aB Try.prog YF Try.f37=some (YE,126,[(10,none)],false):=by kernel_rfl
def YG:ay:=(jS (jR [gG 0 32 0 0 0 0]) (jS (jR [.op (some 1) (.build [(.int .i64 0),(.int .i64 0),(.slice none 0 0)] [(0,1,(.c (.int .i64 1)))]) none,gB 3 0 1]) .ret))
def YH:dc:={n:=2,own:=[],frz:=[],ord:=[]}
theorem NY:aB Try.prog YH Try.f42=some (YG,2,[(0,some (true,3))],false):=by kernel_rfl
def YI:ay:=(jS (jR [gA 3 32 1,gG 4 32 0 0 0 0]) (jS (jR [aj 5 0,dY 6 3 3,BW 7 32 1 3 6,ND 8 0 0 0 0 0 1 5 2 1 7,gB 3 4 8]) .ret))
def YJ:dc:={n:=9,own:=[3],frz:=[],ord:=[]}
theorem NZ:aB Try.prog YJ Try.f44=some (YI,9,[(4,some (true,3))],false):=by kernel_rfl
def YK:ay:=(jS (jR [ef 4]) (jS (jS (jR [aj 6 0,eV 7 6,aj 8 1,eV 9 8,EZ 10 7 9]) (jC 10 (jS (jR [ef 4]) .ret) .skip)) (jS (jS (jR [dD 5 0]) (jB 0 (jL [11,12,13,14,17,18,19,20,21,22,23,24,25,26,4,15,16,5] (jS (jS (jR [aj 11 5,aj 12 0,eV 13 12,iZ 14 11 13]) (jC 14 .skip (jX 0))) (jS (jB 1 (jS (jD [aj 17 0,aj 18 5,f7 19 3 17 18,kR 20 3 19,aj 21 1,aj 22 5,f7 23 3 21 22,kR 24 3 23,tJ 25 15 20 24,iY 26 25]) (jC 26 (jS (jR [ef 4]) .ret) .skip))) (jR [aj 15 5,iE 16 15 1,aj 5 16])))))) (jS (jR [rq 4]) .ret))))
def YL:dc:={n:=27,own:=[],frz:=[],ord:=[(6,.range 10,[[],[],[0,1],[0,1,2],[],[],[4,5],[4,5,6],.range 8,.range 9])]}
theorem N0:aB Try.prog YL Try.f45=some (YK,27,[(4,none)],false):=by kernel_rfl
def YM:ay:=(jS (jR [gA 2 32 0,dD 4 0]) (jS (jR [dD 5 1]) (jS (jS (jR [dD 6 0]) (jB 0 (jL [7,8,9,10,11,12,13,14,15,16,19,20,21,22,23,24,25,26,27,28,29,5,17,18,6] (jS (jS (jR [aj 7 6,bO 8 2 2,cg 9 1 8,eV 10 9,iZ 11 7 10,aj 12 11,fI 13 5 12,fI 14 1 12,.op (some 15) (.bin .leq (.t 13) (.t 14)) (some (12,true)),fW 16 12 15]) (jC 16 .skip (jX 0))) (jS (jB 1 (jR [aj 19 5,bO 20 2 2,cg 21 1 20,aj 22 6,f7 23 3 21 22,dY 24 3 23,aj 25 1,aj 26 5,.op (some 27) (.bin .sub (.t 25) (.t 26)) none,gR 28 46 24 27,NC 29 19 28,aj 5 29])) (jR [aj 17 6,iE 18 17 1,aj 6 18])))))) (jS (jR [aj 30 5,aj 4 30]) .ret))))
def YN:dc:={n:=31,own:=[2],frz:=[],ord:=[]}
theorem N8:aB Try.prog YN Try.f46=some (YM,31,[(4,none)],false):=by kernel_rfl
def YO:ay:=(jS (jR [gA 1 32 0,dD 2 0]) (jS (jR [dD 3 0]) (jS (jS (jR [bO 6 2 1,cg 7 1 6,eV 8 7,dD 9 0]) (jB 0 (jL [10,11,12,5,13,14,15,16,3,17,9] (jS (jR [iZ 10 9 8]) (jS (jC 10 .skip (jX 0)) (jS (jB 1 (jS (jR [f7 11 3 7 9,dY 12 3 11,gG 5 32 0 0 0 0,gB 3 5 12]) (jR [aj 13 3,dY 14 3 5,vR 15 47 14,Ko 16 13 15,aj 3 16]))) (jR [iE 17 9 1,aj 9 17]))))))) (jS (jR [aj 18 3,iE 19 18 1,aj 2 19]) .ret))))
def YP:dc:={n:=20,own:=[1],frz:=[],ord:=[]}
theorem N9:aB Try.prog YP Try.f47=some (YO,20,[(2,none)],false):=by kernel_rfl
def YQ:ay:=(jS (jR [gA 4 32 0,ef 5]) (jS (jR [dD 6 0]) (jS (jS (jR [bO 7 0 4,cg 8 1 7]) (jB 0 (jS (jS (jR [fU 10 8 1,aj 9 10]) (jC 9 .skip (jR [fU 11 8 6,aj 9 11]))) (jC 9 .skip (jS (jR [fU 13 8 5,aj 12 13]) (jC 12 (jS (jR [bO 14 1 4,cg 15 1 14,nQ 16 15 0,aj 17 16,iJ 18 1 4 17,ic 19 1 18 17,ic 20 1 1 17,yh 21 19 20 17,fW 22 17 21,aj 23 22,iJ 24 2 4 23,ic 25 1 24 23,qi 26 25 23,qj 27 26 0 23,fW 28 23 27,aj 5 28]) .ret) (jS (jR [fU 30 8 2,aj 29 30]) (jC 29 (jS (jS (jR [bO 31 1 4,cg 32 1 31,zJ 33 32 0,aj 34 33,dm 35 1 4 34,eL 36 1 35 34,dm 37 2 2 34,eL 38 1 37 34,kX 39 38 34,E7 40 36 39 34,cR 41 34 40]) (jC 41 (jS (jR [ef 5]) .ret) .skip)) (jR [bO 42 2 2,cg 43 1 42,bO 44 1 4,cg 45 1 44,f7 46 5 43 45,bO 47 2 46,cg 48 1 47,aj 6 48])) (jS (jS (jR [fU 50 8 3,aj 49 50]) (jC 49 .skip (jS (jR [fU 51 8 4,aj 49 51]) (jC 49 .skip (jS (jR [fU 52 8 8,aj 49 52]) (jC 49 .skip (jR [fU 53 8 7,aj 49 53]))))))) (jC 49 (jR [dD 6 1]) (jS (jR [ef 5]) .ret))))))))))) (jS (jS (jR [bO 54 0 4,cg 55 1 54,zI 56 55 2,aj 57 56,iJ 58 1 4 57,ic 59 1 58 57,H8 60 59 0 57,fW 61 57 60,aj 62 61,dm 63 2 4 62,eL 64 1 63 62,kX 65 64 62,eK 66 6 62,zH 67 65 66 62,cR 68 62 67]) (jC 68 (jS (jR [ef 5]) .ret) .skip)) (jS (jR [bO 69 2 4,cg 70 1 69,Kq 71 50 4 3,gR 72 49 70 71,iY 73 72,aj 5 73]) .ret)))))
def YR:dc:={n:=74,own:=[4],frz:=[],ord:=[]}
theorem kD:aB Try.prog YR Try.f48=some (YQ,74,[(5,none)],false):=by kernel_rfl
def c49:ay:=(jS (jR [ef 4]) (jS (jR [aj 5 0,aj 6 1,gR 7 92 5 6,nQ 8 7 0,aj 4 8]) .ret))
def YS:dc:={n:=9,own:=[],frz:=[],ord:=[]}
theorem tK:aB Try.prog YS Try.f49=some (c49,9,[(4,none)],false):=by kernel_rfl
def YT:ay:=(jS (jR [gA 3 32 0,ef 4]) (jS (jR [bO 6 0 1,cg 7 1 6,fU 8 7 7,aj 9 8,iJ 10 0 3 9,ic 11 1 10 9,qj 12 11 6 9,fW 13 9 12,aj 5 13]) (jS (jR [dY 14 3 3,vR 15 51 14,iY 16 15,aj 17 16,fI 18 5 17,BV 19 18 17,fW 20 17 19,aj 21 20,eL 22 1 2 21,nO 23 3 3 21,.op (some 24) (.callV (.t 22) [(.t 23)]) (some (21,false)),jO 25 24 21,cR 26 21 25,aj 4 26]) .ret)))
def YU:dc:={n:=27,own:=[3],frz:=[],ord:=[]}
theorem Oa:aB Try.prog YU Try.f50=some (YT,27,[(4,none)],false):=by kernel_rfl
def c51:ay:=(jS (jR [gA 1 32 0,ef 2]) (jS (jR [bO 3 0 1,cg 4 1 3,nQ 5 4 1,aj 6 5,iJ 7 0 1 6,ic 8 1 7 6,NA 9 8 5 6,fW 10 6 9,aj 2 10]) .ret))
def YV:dc:={n:=11,own:=[1],frz:=[],ord:=[]}
theorem Ob:aB Try.prog YV Try.f51=some (c51,11,[(2,none)],false):=by kernel_rfl
def YW:ay:=(jS (jR [gA 2 32 0,gG 4 32 0 0 0 0]) (jS (jS (jR [aj 11 1,dY 12 3 2,DA 13 11 12,aj 10 13,dS 14 10 0,dS 15 10 1,gG 5 32 0 0 0 0,gB 3 5 14,aj 6 15]) (jS (jR [aj 16 6]) (jC 16 (jS (jR [dY 17 3 5,gB 3 4 17]) .ret) .skip))) (jS (jR [bO 18 0 2,cg 19 1 18,bO 20 1 2,cg 21 1 20,ND 22 0 0 0 0 0 1 19 1 1 21,gG 7 32 0 0 0 0,gB 3 7 22]) (jS (jS (jR [bO 23 2 2,cg 24 1 23,eV 25 24,dD 26 0]) (jB 0 (jL [27,28,29,9,30,31,32,33,34,35,36,37,38,26] (jS (jR [iZ 27 26 25]) (jS (jC 27 .skip (jX 0)) (jS (jB 1 (jS (jR [f7 28 3 24 26,dY 29 3 28,gG 9 32 0 0 0 0,gB 3 9 29]) (jD [bO 30 2 7,fq 31 1 30,kR 32 3 9,aj 33 1,tJ 34 52 32 33,.op (some 35) (.mkFD 32 1 3 [(.t 34)]) none,.op (some 36) (.appD 32 3 40 [(.int .i64 0),(.int .i64 0),(.slice none 0 0)] (.t 31) (.t 35)) none,bO 37 2 7,Ib 1 37 36]))) (jR [iE 38 26 1,aj 26 38]))))))) (jS (jR [dY 39 3 7,gB 3 4 39]) .ret)))))
def YX:dc:={n:=40,own:=[2],frz:=[],ord:=[(8,.range 9,[[],[0],[],[],[2,3],[2,3,4],.range 6,.range 7,.range 8])]}
theorem Gg:aB Try.prog YX Try.f52=some (YW,40,[(4,some (true,3))],false):=by kernel_rfl
def YZ:ay:=(jS (jR [gA 2 32 0,gG 3 32 0 0 0 0,ef 4]) (jS (jS (jR [bO 5 0 2,cg 6 1 5,fU 7 6 5,aj 8 7,iJ 9 1 2 8,ic 10 1 9 8,.op (some 11) (.bin .geq (.t 10) (.c (.int .i64 0))) (some (8,true)),fW 12 8 11,aj 13 12,iJ 14 1 2 13,ic 15 1 14 13,ic 16 1 1 13,qi 17 16 13,yh 18 15 17 13,fW 19 13 18]) (jC 19 (jS (jR [cg 20 1 1,bO 21 1 2,cg 22 1 21,f7 23 3 20 22,dY 24 3 23,gB 3 3 24,rq 4]) .ret) .skip)) (jS (jR [dY 25 3 2,gB 3 3 25,ef 4]) .ret)))
def Y0:dc:={n:=26,own:=[2],frz:=[],ord:=[]}
theorem Gh:aB Try.prog Y0 Try.f53=some (YZ,26,[(3,some (true,3)),(4,none)],false):=by kernel_rfl
def Vm:ay:=(jR [NE 2 45 0])
def Y1:ay:=(jS (jR [aj 4 0,.pc (some 5) (.callV (.t 4) []) none]) (jS (jR [Kr 1 2 0]) .ret))
def Y2:dc:={n:=6,own:=[],frz:=[],ord:=[],pan:=[(2,1)]}
theorem B6:BR Try.prog Y2 Try.f56=some (Vm,Y1,93,[2],3,[(2,some (false,1))]):=by kernel_rfl
def Y3:ay:=(jS (jR [cg 3 1 0,Ks 4 58 3 1]) (jS (jR [cg 5 1 0,dY 6 3 1,gR 7 59 5 6]) (jC 7 (jR [cg 8 1 0,dY 9 3 1,gR 10 60 8 9,gB 3 2 10]) .skip)))
def Y4:dc:={n:=11,own:=[],frz:=[],ord:=[],pan:=[(0,1)]}
theorem Gi:aB Try.prog Y4 Try.f57=some (Y3,11,[],false):=by kernel_rfl
def Y5:ay:=(jS (jR [B0 2 89 0,gA 3 32 1,ef 4]) (jS (jS (jR [bO 5 0 3,cg 6 1 5,zJ 7 6 1,aj 8 7,dm 9 0 3 8,eL 10 1 9 8,si 11 10 9 8,cR 12 8 11]) (jC 12 (jS (jR [ef 4]) .ret) .skip)) (jS (jS (jR [bO 13 0 3,cg 14 1 13,fU 15 14 9]) (jC 15 (jS (jD [bO 16 1 3,fq 17 1 16,nQ 18 17 0,aj 19 18,iJ 20 1 3 19,jP 21 1 20 19,jP 22 1 2 19,NF 23 22 19,iJ 24 0 23 19,Kh 25 1 24 19,qi 26 25 19,yh 27 21 26 19,fW 28 19 27,aj 29 28,iJ 30 2 3 29,jP 31 1 30 29,qi 32 31 29,qj 33 32 0 29,fW 34 29 33,aj 4 34]) .ret) .skip)) (jS (jR [bO 35 2 3,cg 36 1 35,Ia 37 94 2,gR 38 49 36 37,iY 39 38,aj 4 39]) .ret))))
def Y6:dc:={n:=40,own:=[3],frz:=[],ord:=[(4,.range 20,[[],[0],[0,1],[0,1,2],.range 4,.range 5,.range 4,[0,1,2,3,6],[0,1,2,3,6,7],[0,1,2,3,6,7,8],[0,1,2,3,6,7,8,9],.range 11,.range 12,.range 13,.range 14,.range 15,.range 16,.range 17,.range 18,.range 19])],bk:=[(24,999999)]}
theorem Ca:aB Try.prog Y6 Try.f59=some (Y5,40,[(4,none)],false):=by kernel_rfl
def Y7:ay:=(jS (jR [B0 2 89 0,gA 3 32 1,gG 4 32 0 0 0 0]) (jS (jR [dY 5 3 3,Ia 6 95 2,gR 7 52 5 6,gB 3 4 7]) .ret))
def Y8:dc:={n:=8,own:=[3],frz:=[],ord:=[]}
theorem Oc:aB Try.prog Y8 Try.f60=some (Y7,8,[(4,some (true,3))],false):=by kernel_rfl
def Y9:ay:=(jS (jR [zG 2 0 0]) (jS (jS (jR [aj 3 0,.op (some 4) (.eqS false (.t 3) (.c (.slice none 0 0))) none]) (jC 4 (jS (jR [zG 2 0 0]) .ret) .skip)) (jS (jR [.op (some 5) (.mkR 32 0 3 []) none,aj 6 0,Nt 7 32 3 40 0 0 0 0 5 6,aj 2 7]) .ret)))
def Za:dc:={n:=8,own:=[5],frz:=[],ord:=[]}
theorem Gj:aB Try.prog Za Try.f61=some (Y9,8,[(2,none)],false):=by kernel_rfl
def Zb:ay:=(jS (jR [cg 3 1 0,Ks 4 58 3 1]) (jS (jS (jD [fq 5 1 0,kR 6 3 1,.op (some 7) (.callO 59 [(.t 5),(.t 6)]) none,iY 8 7,aj 9 8,yg 10 1 0 9,nP 11 3 2 9,.op (some 12) (.callO 59 [(.t 10),(.t 11)]) (some (9,false)),jO 13 12 9,cR 14 9 13,aj 15 14,nP 16 3 1 15,nP 18 3 2 15,Rh 17 47 16 15,Rh 19 47 18 15,.op (some 20) (.mm true [(.t 17),(.t 19)]) (some (15,false)),si 21 20 8 15,cR 22 15 21]) (jC 22 (jR [Ki 23 0 0 1 1,Kj 24 98 23,Ic 24]) .skip)) (jS (jR [cg 25 1 0,dY 26 3 1,dY 27 3 2,.pc (some 28) (.call 63 [(.t 25),(.t 26),(.t 27)]) none]) (jS (jR [cg 29 1 0,Ks 30 58 29 2]) (jS (jR [cg 31 1 0,dY 32 3 1,.pc (some 33) (.call 64 [(.t 31),(.t 32)]) none,E0 34 33 8]) (jC 34 (jR [Ki 35 0 0 1 2,Kj 36 98 35,Ic 36]) .skip))))))
def Zc:dc:={n:=37,own:=[],frz:=[],ord:=[(1,[0,1,2,3,4,5,6,7,8,9,10,11,13,12,14,15,16,17],[[],[],[0,1],[0,1,2],.range 4,.range 5,.range 5,.range 7,.range 8,.range 9,.range 10,.range 11,.range 12,.range 11,.range 14,.range 15,.range 16,.range 17])],co:=[7,12],pan:=[(0,1),(2,2),(3,3),(4,1),(5,2),(6,2)]}
theorem Cb:aB Try.prog Zc Try.f62=some (Zb,37,[],false):=by kernel_rfl
def Zd:ay:=(jS (jR [B0 4 32 1,B0 5 32 2]) (jS (.regX [.op (some 7) (.mov (.t 0)) none,.op (some 8) (.loadK 4 true 3 (.t 4)) none,.op (some 10) (.mov (.t 0)) none,.op (some 11) (.loadK 5 true 3 (.t 5)) none,.pc (some 9) (.call 96 [(.t 7),(.t 8)]) none,.pc (some 12) (.call 96 [(.t 10),(.t 11)]) none,.op none (.storeK 4 3 (.t 4) (.t 9)) none,.op none (.storeK 5 3 (.t 5) (.t 12)) none]) (jB 0 (jS (jR [bO 56 0 4,cg 57 1 56,fU 58 57 9,aj 59 58,iJ 60 0 5 59,ic 61 1 60 59,qj 62 61 9 59,fW 63 59 62,aj 55 63]) (jC 55 (jS (jR [bO 64 1 4,cg 65 1 64,bO 66 1 5,cg 67 1 66,EZ 68 65 67]) (jC 68 (jD [aj 69 0,zK 70 69,bO 71 0 70,fq 72 1 71,bO 73 1 4,fq 74 1 73,bO 75 1 5,fq 76 1 75,Ko 77 74 76,bO 78 1 4,fq 79 1 78,bO 80 1 5,fq 81 1 80,.op (some 82) (.mm false [(.t 79),(.t 81)]) none,E6 83 0 0 0 0 0 1 9 1 1 82,f7 84 3 72 77,Kt 3 84 83]) .skip)) (jS (jR [bO 86 0 4,cg 87 1 86,fU 88 87 9,aj 85 88]) (jC 85 (jS (jS (jR [aj 89 0,bO 90 1 4,cg 91 1 90,dY 92 3 5,Dz 93 97 89 91 92]) (jC 93 (jR [Ki 94 0 0 1 8,Kj 95 98 94,Ic 95]) .skip)) (jD [aj 96 0,zK 97 96,bO 98 0 97,fq 99 1 98,bO 100 1 4,fq 101 1 100,.op (some 102) (.loadK 5 true 3 (.t 5)) none,f7 103 3 99 101,Kt 3 103 102])) (jS (jR [bO 105 0 5,cg 106 1 105,fU 107 106 9,aj 104 107]) (jC 104 (jR [aj 108 0,dY 109 3 5,dY 110 3 4,.pc (some 111) (.call 63 [(.t 108),(.t 109),(.t 110)]) none]) (jS (jS (jR [bO 13 0 4,cg 14 1 13,bO 15 0 5,cg 16 1 15,EZ 17 14 16,aj 18 17,dm 19 1 4 18,eL 20 1 19 18,dm 21 1 5 18,eL 22 1 21 18,zH 23 20 22 18,cR 24 18 23,aj 25 24,dm 26 2 4 25,eL 27 1 26 25,kX 28 27 25,dm 29 2 5 25,eL 30 1 29 25,kX 31 30 25,zH 32 28 31 25,cR 33 25 32]) (jC 33 (jR [Ki 34 0 0 1 8,Kj 35 98 34,Ic 35]) .skip)) (jS (jR [bO 36 2 4,cg 37 1 36,eV 38 37,dD 39 0]) (jB 1 (jL [40,41,6,42,43,44,45,46,47,48,49,50,51,52,53,54,39] (jS (jR [iZ 40 39 38]) (jS (jC 40 .skip (jX 1)) (jS (jB 2 (jS (jR [aj 41 39,aj 6 41]) (.regX [.op (some 42) (.mov (.t 0)) none,.op (some 43) (.fieldA 2 (.t 4)) none,.op (some 44) (.loadD false 1 (.t 43)) none,.op (some 45) (.mov (.t 6)) none,.op (some 46) (.idxA 3 (.t 44) (.t 45)) none,.op (some 47) (.loadD true 3 (.t 46)) none,.op (some 48) (.fieldA 2 (.t 5)) none,.op (some 49) (.loadD false 1 (.t 48)) none,.op (some 50) (.mov (.t 6)) none,.op (some 51) (.idxA 3 (.t 49) (.t 50)) none,.op (some 52) (.loadD true 3 (.t 51)) none,.pc (some 53) (.call 63 [(.t 42),(.t 47),(.t 52)]) none]))) (jR [iE 54 39 1,aj 39 54])))))))))))))))))
def Ze:dc:={n:=112,own:=[],frz:=[],ord:=[(1,[0,1,3,4,2,5,6,7],[[],[],[0,1],[],[],.range 5,.range 6,.range 7]),(11,.range 17,[[],[0],[0,1],[0,1,2],[],[4],[],[6],[4,5,6,7],[],[9],[],[11],[9,10,11,12],[9,10,11,12,13],.range 15,.range 16]),(15,.range 9,[[],[0],[0,1],[0,1,2],[],[4],[],.range 7,.range 8]),(7,.range 12,[[],[],[1],[],[1,2,3],[1,2,3,4],[],[6],[],[6,7,8],[6,7,8,9],.range 11])],co:=[1000084,1000103],pan:=[(3,2),(14,2),(17,3)],bx:=[4,5],px:=[9,12,53]}
theorem oL:aB Try.prog Ze Try.f63=some (Zd,112,[],false):=by kernel_rfl
def Zf:ay:=(jS (jR [gA 3 32 1,dD 4 0]) (jS (jS (jD [bO 11 0 3,fq 12 1 11,fU 13 12 9,aj 14 13,fI 15 0 14,NF 16 15 14,iJ 17 0 16 14,jP 18 1 17 14,iJ 19 1 3 14,jP 20 1 19 14,uW 21 3 18 20 14,iJ 22 0 21 14,Kh 23 1 22 14,H8 24 23 0 14,fW 25 14 24]) (jC 25 (jS (jS (jD [aj 27 0,zK 28 27,bO 29 1 28,fq 30 1 29,bO 31 1 3,fq 32 1 31,.op (some 33) (.mlook false true (.int .i64 0) (.t 30) (.t 32)) none,aj 26 33,dS 34 26 0,dS 35 26 1,aj 5 34,aj 6 35]) (jS (jR [aj 36 6]) (jC 36 (jS (jR [aj 37 5,aj 4 37]) .ret) .skip))) (jS (jS (jD [aj 38 0,zK 39 38,bO 40 2 39,fq 41 1 40,bO 42 1 3,fq 43 1 42,.op (some 44) (.mlook false false (.bool false) (.t 41) (.t 43)) none]) (jC 44 (jR [Ki 45 0 0 1 1,Kj 46 98 45,Ic 46]) .skip)) (jS (jD [aj 47 0,zK 48 47,bO 49 2 48,fq 50 1 49,bO 51 1 3,fq 52 1 51,.op none (.mupd false (.t 50) (.t 52) (.c (.bool true))) none]) (jS (.regX [.op (some 53) (.mov (.t 0)) none,.op (some 54) (.mov (.t 0)) none,.op (some 55) (.nilck (.t 54)) none,.op (some 56) (.fieldA 0 (.t 55)) none,.op (some 57) (.loadD false 1 (.t 56)) none,.op (some 58) (.fieldA 1 (.t 3)) none,.op (some 59) (.loadD false 1 (.t 58)) none,.op (some 60) (.idxA 3 (.t 57) (.t 59)) none,.op (some 61) (.loadR true 3 (.t 60)) none,.pc (some 62) (.call 64 [(.t 53),(.t 61)]) none,.op (some 7) (.mov (.t 62)) none]) (jS (jD [aj 63 0,zK 64 63,bO 65 1 64,fq 66 1 65,bO 67 1 3,fq 68 1 67,aj 69 7,Ku 66 68 69]) (jS (jR [aj 70 7,aj 4 70]) .ret)))))) .skip)) (jS (jR [dD 8 0]) (jS (jS (jR [bO 71 2 3,cg 72 1 71,eV 73 72,dD 74 0]) (jB 0 (jL [75,76,77,10,78,79,80,81,82,8,83,74] (jS (jR [iZ 75 74 73]) (jS (jC 75 .skip (jX 0)) (jS (jB 1 (jS (jR [f7 76 3 72 74,dY 77 3 76,gG 10 32 0 0 0 0,gB 3 10 77]) (jR [aj 78 8,aj 79 0,dY 80 3 10,.pc (some 81) (.call 64 [(.t 79),(.t 80)]) none,Ko 82 78 81,aj 8 82]))) (jR [iE 83 74 1,aj 74 83]))))))) (jS (jR [aj 84 8,iE 85 84 1,aj 4 85]) .ret)))))
def Zg:dc:={n:=86,own:=[3],frz:=[],ord:=[(1,.range 15,[[],[0],[0,1],[0,1,2],.range 4,.range 5,.range 6,.range 7,.range 4,[0,1,2,3,8],.range 10,.range 11,.range 12,.range 13,.range 14]),(2,.range 12,[[],[0],[0,1],[0,1,2],[],[4],.range 6,.range 7,.range 8,.range 8,.range 9,.range 11]),(5,.range 7,[[],[0],[0,1],[0,1,2],[],[4],.range 6]),(7,.range 7,[[],[0],[0,1],[0,1,2],[],[4],.range 6]),(8,.range 11,[[],[],[1],[1,2],[1,2,3],[],[5],[1,2,3,4,5,6],[1,2,3,4,5,6,7],.range 9,.range 10]),(9,.range 8,[[],[0],[0,1],[0,1,2],[],[4],[],.range 7])],co:=[1000050,1000066],pan:=[(6,2),(15,3)],px:=[62],bk:=[(22,999999),(60,999999)]}
theorem mP:aB Try.prog Zg Try.f64=some (Zf,86,[(4,none)],false):=by kernel_rfl
def Zh:ay:=(jS (jR [zG 2 0 0]) (jS (jR [.op (some 9) (.mkmap) none,.op (some 3) (.alloc 90 [(.map none)]) none,gB 1 3 9]) (jS (jS (jR [aj 10 0,zK 11 10,bO 12 0 11,cg 13 1 12,eV 14 13,NG 15 14 1,aj 4 15]) (jB 0 (jL [16,17,20,21,22,23,5,24,25,26,27,28,29,30,18,19,4] (jS (jS (jR [aj 16 4,nQ 17 16 0]) (jC 17 .skip (jX 0))) (jS (jB 1 (jS (jR [aj 20 0,aj 21 4,E6 22 0 0 0 0 0 1 9 1 1 21,gR 23 96 20 22,gG 5 32 0 0 0 0,gB 3 5 23]) (jS (jR [bO 24 0 5,cg 25 1 24,fU 26 25 9]) (jC 26 (jR [cg 27 1 3,bO 28 1 5,cg 29 1 28,aj 30 4,Ku 27 29 30]) .skip)))) (jR [aj 18 4,NG 19 18 1,aj 4 19])))))) (jS (jR [zG 6 0 0]) (jS (jS (jR [aj 31 0,zK 32 31,bO 33 0 32,cg 34 1 33,eV 35 34,dD 36 0]) (jB 2 (jL [37,38,7,39,40,41,42,43,44,8,45,46,47,48,49,50,51,52,53,54,55,56,57,58,6,59,36] (jS (jR [iZ 37 36 35]) (jS (jC 37 .skip (jX 2)) (jS (jB 3 (jS (jR [aj 38 36,aj 7 38]) (jS (jR [aj 39 0,aj 40 7,E6 41 0 0 0 0 0 1 9 1 1 40,gR 42 60 39 41,Ia 43 98 3,gR 44 52 42 43,gG 8 32 0 0 0 0,gB 3 8 44]) (jS (jS (jR [bO 45 0 8,cg 46 1 45,fU 47 46 9,aj 48 47,iJ 49 1 8 48,ic 50 1 49 48,fI 51 7 48,E5 52 50 51 48,fW 53 48 52]) (jC 53 (jR [Kv 54 0 0 0 0,gB 3 8 54]) .skip)) (jR [aj 55 6,dY 56 3 8,BW 57 32 1 3 56,Nt 58 32 3 40 0 0 0 0 55 57,aj 6 58]))))) (jR [iE 59 36 1,aj 36 59]))))))) (jS (jR [aj 60 6,aj 2 60]) .ret))))))
def Zi:dc:={n:=61,own:=[],frz:=[],ord:=[]}
theorem Od:aB Try.prog Zi Try.f65=some (Zh,61,[(2,none)],false):=by kernel_rfl
def Zj:ay:=(jS (jR [gA 5 32 0,gA 6 32 1,ef 7]) (jS (jS (jR [bO 10 0 5,cg 11 1 10,zI 12 11 5]) (jC 12 (jS (jR [bO 13 0 5,cg 14 1 13,bO 15 0 6,cg 16 1 15,E4 17 14 16,aj 18 17,iJ 19 1 5 18,ic 20 1 19 18,iJ 21 1 6 18,ic 22 1 21 18,E5 23 20 22 18,fW 24 18 23,aj 25 24,iJ 26 2 5 25,ic 27 1 26 25,iJ 28 2 6 25,ic 29 1 28 25,ic 30 1 2 25,.op (some 31) (.call 67 [(.t 27),(.t 29),(.t 30)]) (some (25,true)),fW 32 25 31,aj 7 32]) .ret) .skip)) (jS (jS (jR [bO 33 1 5,cg 34 1 33,zJ 35 34 0,aj 36 35,dm 37 1 5 36,eL 38 1 37 36,eL 39 1 3 36,E7 40 38 39 36,cR 41 36 40]) (jC 41 (jS (jR [ef 7]) .ret) .skip)) (jS (jS (jR [cg 43 1 4,bO 44 1 5,cg 45 1 44,.op (some 46) (.mlook false true (.agg #[(.int .i64 0),(.int .i64 0),(.slice none 0 0)]) (.t 43) (.t 45)) none,aj 42 46,dS 47 42 0,dS 48 42 1,gG 8 32 0 0 0 0,gB 3 8 47,aj 9 48]) (jS (jR [aj 49 9]) (jC 49 (jS (jR [dY 50 3 8,dY 51 3 6,gR 52 68 50 51,aj 7 52]) .ret) .skip))) (jS (jR [cg 53 1 4,bO 54 1 5,cg 55 1 54,dY 56 3 6,Ku 53 55 56]) (jS (jR [rq 7]) .ret))))))
def Zk:dc:={n:=57,own:=[5,6],frz:=[],ord:=[]}
theorem tL:aB Try.prog Zk Try.f66=some (Zj,57,[(7,none)],false):=by kernel_rfl
def Zl:ay:=(jS (jR [ef 6]) (jS (jS (jR [aj 10 0,eV 11 10,aj 12 1,eV 13 12,EZ 14 11 13]) (jC 14 (jS (jR [ef 6]) .ret) .skip)) (jS (jS (jR [aj 15 0,eV 16 15,dD 17 0]) (jB 0 (jL [18,19,20,21,8,7,22,23,24,25,9,26,27,28,29,30,6,31,17] (jS (jR [iZ 18 17 16]) (jS (jC 18 .skip (jX 0)) (jS (jB 1 (jS (jR [aj 19 17,f7 20 3 15 17,dY 21 3 20,gG 8 32 0 0 0 0,aj 7 19,gB 3 8 21]) (jS (jR [aj 22 1,aj 23 7,f7 24 3 22 23,dY 25 3 24,gG 9 32 0 0 0 0,gB 3 9 25]) (jS (jR [aj 26 2,dY 27 3 8,dY 28 3 9,.op (some 29) (.callV (.t 26) [(.t 27),(.t 28)]) none,iY 30 29]) (jC 30 (jS (jR [ef 6]) .ret) .skip))))) (jR [iE 31 17 1,aj 17 31]))))))) (jS (jR [rq 6]) .ret))))
def Zm:dc:={n:=32,own:=[],frz:=[],ord:=[]}
theorem wD:aB Try.prog Zm Try.f67=some (Zl,32,[(6,none)],false):=by kernel_rfl
def Zn:ay:=(jS (jR [gA 2 32 0,gA 3 32 1,ef 4]) (jS (jR [bO 5 0 2,cg 6 1 5,bO 7 0 3,cg 8 1 7,E4 9 6 8,aj 10 9,iJ 11 1 2 10,ic 12 1 11 10,iJ 13 1 3 10,ic 14 1 13 10,E5 15 12 14 10,fW 16 10 15,aj 17 16,iJ 18 2 2 17,ic 19 1 18 17,iJ 20 2 3 17,ic 21 1 20 17,.op (some 22) (.call 67 [(.t 19),(.t 21),(.fn 68)]) (some (17,true)),fW 23 17 22,aj 4 23]) .ret))
def Zo:dc:={n:=24,own:=[2,3],frz:=[],ord:=[]}
theorem Oe:aB Try.prog Zo Try.f68=some (Zn,24,[(4,none)],false):=by kernel_rfl
def Zp:ay:=(jS (jR [NH 0 29 0 0 0 0 0 0 0 0 0 0 0 0 0 0 0]) (jS (jR [.op (some 1) (.mkF 9 1 1 [(.c (.string ⟨#[109]⟩))]) none,.op (some 2) (.mkF 9 1 1 [(.c (.string ⟨#[116]⟩))]) none,.op (some 3) (.mkF 3 1 1 [(.c (.int .i64 0))]) none,yd 4 42,Kw 5 0 0 0 0 0 0 0 0 0 0 4 3 4,Qb 6 0 0,BW 7 72 1 2 6,H6 8 71 0,Kx 9 44 3 8,Qc 10 0 0 0 0 0 0 0 0 0 0 2 1 1 3 1 7 4 3 9,.op (some 11) (.mkF 56 2 8 [(.t 5),(.t 10)]) none,Qd 12 0 0 0 0 0 0 0 0 0 0 0 0 0 0 0 0 1 1 3 1 2 4 1 3 5 1 11,gB 8 0 12]) .ret))
def Zq:dc:={n:=13,own:=[],frz:=[],ord:=[]}
theorem Og:aB Try.prog Zq Try.f70=some (Zp,13,[(0,some (true,8))],false):=by kernel_rfl
def Zr:ay:=(jS (jR [gG 2 32 0 0 0 0]) (jS (jR [aj 3 0,E6 4 0 0 0 0 0 1 5 1 1 3,gB 3 2 4]) .ret))
def Zs:dc:={n:=5,own:=[],frz:=[],ord:=[]}
theorem Oh:aB Try.prog Zs Try.f71=some (Zr,5,[(2,some (true,3))],false):=by kernel_rfl
def Zt:ay:=(jS (jR [gA 3 29 0,gA 5 32 2,ef 6]) (jS (jR [aj 7 1,nQ 8 7 0,aj 9 8,fI 10 1 9,NA 11 10 4 9,fW 12 9 11,aj 13 12,oK 14 8 3 13,fI 15 1 13,oK 16 3 5 13,.op (some 17) (.call 99 [(.t 14),(.t 15),(.t 16),(.c (.int .i64 8))]) (some (13,true)),fW 18 13 17,aj 6 18]) .ret))
def Zu:dc:={n:=19,own:=[3,5],frz:=[],ord:=[]}
theorem Oi:aB Try.prog Zu Try.f72=some (Zt,19,[(6,none)],false):=by kernel_rfl
def Zv:ay:=(jS (jR [gA 3 32 1,ef 4]) (jS (jS (jR [bO 6 0 3,cg 7 1 6,fU 8 7 5]) (jC 8 (jS (jR [bO 9 1 3,cg 10 1 9,aj 11 0,E4 12 10 11,aj 4 12]) .ret) .skip)) (jS (jS (jR [dD 5 0]) (jB 0 (jL [13,14,15,16,17,20,21,22,23,24,25,26,4,18,19,5] (jS (jS (jR [aj 13 5,bO 14 2 3,cg 15 1 14,eV 16 15,iZ 17 13 16]) (jC 17 .skip (jX 0))) (jS (jB 1 (jS (jR [aj 20 0,bO 21 2 3,cg 22 1 21,aj 23 5,f7 24 3 22 23,dY 25 3 24,gR 26 73 20 25]) (jC 26 (jS (jR [rq 4]) .ret) .skip))) (jR [aj 18 5,iE 19 18 1,aj 5 19])))))) (jS (jR [ef 4]) .ret))))
def Zw:dc:={n:=27,own:=[3],frz:=[],ord:=[]}
theorem Oj:aB Try.prog Zw Try.f73=some (Zv,27,[(4,none)],false):=by kernel_rfl
def Zx:ay:=(jS (jR [gA 3 32 0,gG 6 32 0 0 0 0,ef 7]) (jS (jB 0 (jS (jS (jR [bO 14 0 3,cg 15 1 14,zJ 16 15 1,aj 13 16]) (jC 13 .skip (jS (jR [bO 17 0 3,cg 18 1 17,E0 19 18 5,aj 13 19]) (jC 13 .skip (jR [bO 20 0 3,cg 21 1 20,fU 22 21 5,aj 23 22,iJ 24 1 3 23,ic 25 1 24 23,.op (some 26) (.bin .lss (.t 25) (.c (.int .i64 0))) (some (23,true)),fI 27 26 23,dm 28 1 3 27,eL 29 1 28 27,eK 30 1 27,E7 31 29 30 27,vT 32 27 31 23,fI 33 32 23,dm 34 2 3 33,eL 35 1 34 33,kX 36 35 33,si 37 36 0 33,vT 38 33 37 23,fW 39 23 38,aj 13 39]))))) (jC 13 (jS (jR [Kv 40 0 0 0 0,gB 3 6 40,ef 7]) .ret) (jS (jR [bO 42 0 3,cg 43 1 42,fU 44 43 5,aj 41 44]) (jC 41 (jS (jR [aj 45 2,bO 46 1 3,cg 47 1 46,NC 48 45 47,E6 49 0 0 0 0 0 1 9 1 1 48,gB 3 6 49,rq 7]) .ret) .skip))))) (jS (jR [bO 50 0 3,cg 51 1 50,bO 52 1 3,cg 53 1 52,ND 54 0 0 0 0 0 1 51 1 1 53,gG 8 32 0 0 0 0,gB 3 8 54]) (jS (jS (jR [bO 55 2 3,cg 56 1 55,eV 57 56,dD 58 0]) (jB 1 (jL [59,60,61,10,63,64,65,66,62,67,68,11,12,69,70,71,7,72,73,74,75,76,77,78,58] (jS (jR [iZ 59 58 57]) (jS (jC 59 .skip (jX 1)) (jS (jB 2 (jS (jR [f7 60 3 56 58,dY 61 3 60,gG 10 32 0 0 0 0,gB 3 10 61]) (jS (jR [dY 63 3 10,aj 64 1,aj 65 2,Dz 66 74 63 64 65,aj 62 66,dS 67 62 0,dS 68 62 1,gG 11 32 0 0 0 0,gB 3 11 67,aj 12 68]) (jS (jS (jR [aj 69 12,iY 70 69]) (jC 70 (jS (jR [Kv 71 0 0 0 0,gB 3 6 71,ef 7]) .ret) .skip)) (jR [bO 72 2 8,cg 73 1 72,dY 74 3 11,BW 75 32 1 3 74,Nt 76 32 3 40 0 0 0 0 73 75,bO 77 2 8,gB 1 77 76]))))) (jR [iE 78 58 1,aj 58 78]))))))) (jS (jR [dY 79 3 8,gB 3 6 79,rq 7]) .ret)))))
def Zy:dc:={n:=80,own:=[3],frz:=[],ord:=[]}
theorem Cc:aB Try.prog Zy Try.f74=some (Zx,80,[(6,some (true,3)),(7,none)],false):=by kernel_rfl
def Zz:ay:=(jS (jR [ef 4]) (jS (jR [aj 5 0,aj 6 1,gR 7 101 5 6,nQ 8 7 0,aj 4 8]) .ret))
def ZA:dc:={n:=9,own:=[],frz:=[],ord:=[]}
theorem Ol:aB Try.prog ZA Try.f78=some (Zz,9,[(4,none)],false):=by kernel_rfl
def ZB:ay:=(jS (jR [gA 2 110 0,ef 3]) (jS (jR [bO 4 0 2,cg 5 1 4,bO 6 0 1,cg 7 1 6,E4 8 5 7,aj 9 8,iJ 10 1 2 9,oK 11 3 10 9,iJ 12 1 1 9,oK 13 3 12 9,Kg 14 80 11 13 9,fW 15 9 14,aj 3 15]) .ret))
def ZC:dc:={n:=16,own:=[2],frz:=[],ord:=[]}
theorem Om:aB Try.prog ZC Try.f79=some (ZB,16,[(3,none)],false):=by kernel_rfl
def ZD:ay:=(jS (jR [gA 2 32 0,gA 3 32 1,ef 4]) (jS (jR [bO 5 0 2,cg 6 1 5,bO 7 0 3,cg 8 1 7,E4 9 6 8,aj 10 9,iJ 11 1 2 10,ic 12 1 11 10,iJ 13 1 3 10,ic 14 1 13 10,E5 15 12 14 10,fW 16 10 15,aj 17 16,iJ 18 2 2 17,ic 19 1 18 17,iJ 20 2 3 17,ic 21 1 20 17,.op (some 22) (.call 67 [(.t 19),(.t 21),(.fn 80)]) (some (17,true)),fW 23 17 22,aj 4 23]) .ret))
def ZE:dc:={n:=24,own:=[2,3],frz:=[],ord:=[]}
theorem Oo:aB Try.prog ZE Try.f80=some (ZD,24,[(4,none)],false):=by kernel_rfl
def ZF:ay:=(jS (jR [dD 4 0]) (jS (jS (jR [aj 6 0,eV 7 6,dD 8 0]) (jB 0 (jL [9,10,5,11,12,13,14,15,16,17,4,18,8] (jS (jR [iZ 9 8 7]) (jS (jC 9 .skip (jX 0)) (jS (jB 1 (jS (jR [aj 10 8,aj 5 10]) (jS (jR [aj 11 1,aj 12 0,aj 13 5,f7 14 2 12 13,dY 15 2 14,DA 16 11 15]) (jC 16 (jS (jR [aj 17 5,aj 4 17]) .ret) .skip)))) (jR [iE 18 8 1,aj 8 18]))))))) (jS (jR [Kk 4 1]) .ret)))
def ZG:dc:={n:=19,own:=[],frz:=[],ord:=[]}
theorem Gk:aB Try.prog ZG Try.f81=some (ZF,19,[(4,none)],false):=by kernel_rfl
def ZH:ay:=(jS (jR [gA 2 72 0,ef 3]) (jS (jR [bO 4 1 1,bO 5 0 4,cg 6 1 5,fU 7 6 5,aj 8 7,oK 9 2 2 8,iJ 10 1 1 8,iJ 11 1 10 8,ic 12 1 11 8,iJ 13 0 1 8,ic 14 1 13 8,.op (some 15) (.build [(.int .i64 0),(.int .i64 0)] [(0,1,(.t 12)),(1,1,(.t 14))]) (some (8,true)),P9 16 9 15 8,fW 17 8 16,aj 3 17]) .ret))
def ZI:dc:={n:=18,own:=[2],frz:=[],ord:=[]}
theorem Oq:aB Try.prog ZI Try.f82=some (ZH,18,[(3,none)],false):=by kernel_rfl
def ZJ:ay:=(jR [cg 1 1 0,cg 2 1 0,eV 3 2,NG 4 3 1,.op (some 5) (.slc 4 (.t 1) none (some (.t 4))) none,gB 1 0 5])
def XR:dc:={n:=6,own:=[],frz:=[],ord:=[]}
def ZK:ay:=(jS (jR [ef 4]) (jS (jR [aj 5 1,nQ 6 5 0,aj 7 6,fI 8 1 7,fI 9 0 7,qi 10 9 7,yh 11 8 10 7,fW 12 7 11,aj 4 12]) .ret))
def ZL:dc:={n:=13,own:=[],frz:=[],ord:=[]}
theorem Ot:aB Try.prog ZL Try.f84=some (ZK,13,[(4,none)],false):=by kernel_rfl
def ZM:ay:=(jS (jR [ef 4]) (jS (jR [aj 5 1,nQ 6 5 0,aj 7 6,fI 8 1 7,fI 9 0 7,qi 10 9 7,yh 11 8 10 7,fW 12 7 11,aj 4 12]) .ret))
def ZN:dc:={n:=13,own:=[],frz:=[],ord:=[]}
theorem Ou:aB Try.prog ZN Try.f85=some (ZM,13,[(4,none)],false):=by kernel_rfl
def ZO:ay:=(jS (jR [ef 4]) (jS (jR [aj 5 1,nQ 6 5 0,aj 7 6,fI 8 1 7,fI 9 0 7,qi 10 9 7,yh 11 8 10 7,fW 12 7 11,aj 4 12]) .ret))
def ZP:dc:={n:=13,own:=[],frz:=[],ord:=[]}
theorem Ov:aB Try.prog ZP Try.f86=some (ZO,13,[(4,none)],false):=by kernel_rfl
def ZQ:ay:=(jS (jR [gA 2 29 0,gA 3 56 1,ef 4]) (jS (jD [bO 7 4 2,fq 8 1 7,bO 9 0 3,fq 10 1 9,tJ 11 111 8 10,aj 12 11,iJ 13 4 2 12,jP 14 1 13 12,iJ 15 0 3 12,jP 16 1 15 12,uW 17 1 14 16 12,jP 18 1 17 12,iJ 19 1 3 12,jP 20 1 19 12,E5 21 18 20 12,fW 22 12 21,aj 5 22]) (jS (jD [bO 23 4 3,bO 24 0 23,fq 25 1 24,fU 26 25 2,aj 27 26,iJ 28 2 2 27,jP 29 1 28 27,iJ 30 4 3 27,iJ 31 1 30 27,jP 32 1 31 27,ye 33 112 29 32 27,fW 34 27 33,aj 35 34,iJ 36 2 2 35,jP 37 1 36 35,iJ 38 4 3 35,iJ 39 1 38 35,jP 40 1 39 35,uW 41 5 37 40 35,iJ 42 1 41 35,jP 43 1 42 35,iJ 44 1 3 35,jP 45 1 44 35,E5 46 43 45 35,fW 47 35 46,aj 6 47]) (jS (jR [aj 48 5,iY 49 48,aj 50 49,fI 51 6 50,BV 52 51 50,fW 53 50 52,aj 4 53]) .ret))))
def ZR:dc:={n:=54,own:=[2,3],frz:=[],ord:=[(1,.range 17,[[],[0],[],[2],.range 4,.range 5,.range 6,.range 7,.range 6,[0,1,2,3,4,5,8],.range 10,.range 11,.range 6,[0,1,2,3,4,5,12],.range 14,.range 15,.range 16]),(2,.range 26,[[],[0],[0,1],[0,1,2],.range 4,.range 5,.range 6,.range 5,[0,1,2,3,4,7],[0,1,2,3,4,7,8],.range 10,.range 11,.range 12,.range 13,.range 14,.range 13,[0,1,2,3,4,5,6,7,8,9,10,11,12,15],[0,1,2,3,4,5,6,7,8,9,10,11,12,15,16],.range 18,.range 19,.range 20,.range 13,[0,1,2,3,4,5,6,7,8,9,10,11,12,21],.range 23,.range 24,.range 25])]}
theorem Ow:aB Try.prog ZR Try.f89=some (ZQ,54,[(4,none)],false):=by kernel_rfl
def ZS:ay:=(jS (jR [dD 4 0]) (jS (jS (jR [aj 6 0,eV 7 6,dD 8 0]) (jB 0 (jL [9,10,5,11,12,13,14,15,16,17,4,18,8] (jS (jR [iZ 9 8 7]) (jS (jC 9 .skip (jX 0)) (jS (jB 1 (jS (jR [aj 10 8,aj 5 10]) (jS (jR [aj 11 1,aj 12 0,aj 13 5,f7 14 8 12 13,dY 15 8 14,DA 16 11 15]) (jC 16 (jS (jR [aj 17 5,aj 4 17]) .ret) .skip)))) (jR [iE 18 8 1,aj 8 18]))))))) (jS (jR [Kk 4 1]) .ret)))
def ZT:dc:={n:=19,own:=[],frz:=[],ord:=[]}
theorem Ox:aB Try.prog ZT Try.f90=some (ZS,19,[(4,none)],false):=by kernel_rfl
def ZU:ay:=(jS (jR [gA 2 56 0,ef 3]) (jS (jR [dY 4 8 2,dY 5 8 1,gR 6 32 4 5,aj 3 6]) .ret))
def ZV:dc:={n:=7,own:=[2],frz:=[],ord:=[]}
theorem Oy:aB Try.prog ZV Try.f91=some (ZU,7,[(3,none)],false):=by kernel_rfl
def ZW:ay:=(jS (jR [dD 4 0]) (jS (jS (jR [aj 6 0,eV 7 6,dD 8 0]) (jB 0 (jL [9,10,5,11,12,13,14,15,16,17,4,18,8] (jS (jR [iZ 9 8 7]) (jS (jC 9 .skip (jX 0)) (jS (jB 1 (jS (jR [aj 10 8,aj 5 10]) (jS (jR [aj 11 1,aj 12 0,aj 13 5,f7 14 3 12 13,dY 15 3 14,DA 16 11 15]) (jC 16 (jS (jR [aj 17 5,aj 4 17]) .ret) .skip)))) (jR [iE 18 8 1,aj 8 18]))))))) (jS (jR [Kk 4 1]) .ret)))
def ZX:dc:={n:=19,own:=[],frz:=[],ord:=[]}
theorem tM:aB Try.prog ZX Try.f92=some (ZW,19,[(4,none)],false):=by kernel_rfl
def ZY:ay:=(jB 0 (jS (jR [.op (some 6) (.eqN false (.t 4)) none]) (jC 6 (jR [aj 1 4]) (jS (jR [.op (some 7) (.tas 98 (.agg #[(.int .i64 0)]) (.t 4)) none,dS 8 7 1,dS 9 7 0]) (jC 8 (jS (jR [NE 2 98 0,gB 1 2 9]) (jR [bO 10 0 2,cg 11 1 10,gB 1 0 11])) (jS (jR [aj 3 4]) (jR [aj 5 3,Ic 5])))))))
def Z0:dc:={n:=12,own:=[],frz:=[],ord:=[],pan:=[(2,1)]}
theorem Oz:BU Try.prog Z0 Try.f93=some (ZY,4):=by kernel_rfl
def Z1:ay:=(jS (jR [gA 2 32 0,ef 3]) (jS (jR [cg 4 1 1,dY 5 3 2,gR 6 59 4 5,iY 7 6,aj 3 7]) .ret))
def Z2:dc:={n:=8,own:=[2],frz:=[],ord:=[]}
theorem Cd:aB Try.prog Z2 Try.f94=some (Z1,8,[(3,none)],false):=by kernel_rfl
def Z3:ay:=(jS (jR [gA 2 32 0,gG 3 32 0 0 0 0,ef 4]) (jS (jS (jD [bO 5 0 2,fq 6 1 5,fU 7 6 9,aj 8 7,jP 9 1 1 8,NF 10 9 8,iJ 11 0 10 8,Kh 12 1 11 8,iJ 13 1 2 8,jP 14 1 13 8,uW 15 3 12 14 8,iJ 16 0 15 8,Kh 17 1 16 8,H8 18 17 0 8,fW 19 8 18]) (jC 19 (jS (jD [fq 20 1 1,fq 21 1 1,zK 22 21,bO 23 0 22,.op (some 24) (.loadR false 1 (.t 23)) none,bO 25 1 2,fq 26 1 25,f7 27 3 24 26,.op (some 28) (.loadR true 3 (.t 27)) none,.op (some 29) (.callO 60 [(.t 20),(.t 28)]) none,Ib 3 3 29,rq 4]) .ret) .skip)) (jS (jR [dY 30 3 2,gB 3 3 30,ef 4]) .ret)))
def Z4:dc:={n:=31,own:=[2],frz:=[],ord:=[(1,.range 15,[[],[0],[0,1],[0,1,2],.range 4,.range 5,.range 6,.range 7,.range 4,[0,1,2,3,8],.range 10,.range 11,.range 12,.range 13,.range 14]),(2,.range 12,[[],[],[1],[1,2],[1,2,3],[],[5],[1,2,3,4,5,6],[1,2,3,4,5,6,7],.range 9,.range 10,.range 11])],co:=[29],bk:=[(11,999999),(16,999999),(23,999999),(27,999999)]}
theorem Gl:aB Try.prog Z4 Try.f95=some (Z3,31,[(3,some (true,3)),(4,none)],false):=by kernel_rfl
def Z5:ay:=(jS (jR [B0 3 32 1,gG 4 32 0 0 0 0]) (jS (jB 0 (jL [5,6,7,8,9,10,11,12,13,14,15,16,17,18,19,20,21,22,23,24,25,26,27] (jS (jS (jD [bO 5 0 3,fq 6 1 5,fU 7 6 9,aj 8 7,fI 9 0 8,NF 10 9 8,iJ 11 0 10 8,jP 12 1 11 8,iJ 13 1 3 8,jP 14 1 13 8,uW 15 3 12 14 8,iJ 16 0 15 8,Kh 17 1 16 8,H8 18 17 0 8,fW 19 8 18]) (jC 19 .skip (jX 0))) (jB 1 (jD [aj 20 0,zK 21 20,bO 22 0 21,fq 23 1 22,bO 24 1 3,fq 25 1 24,f7 26 3 23 25,.op (some 27) (.loadR true 3 (.t 26)) none,Ib 3 3 27]))))) (jS (jR [dY 28 3 3,gB 3 4 28]) .ret)))
def Z6:dc:={n:=29,own:=[],frz:=[],ord:=[(1,.range 15,[[],[0],[0,1],[0,1,2],.range 4,.range 5,.range 6,.range 7,.range 4,[0,1,2,3,8],.range 10,.range 11,.range 12,.range 13,.range 14]),(2,.range 9,[[],[0],[0,1],[0,1,2],[],[4],.range 6,.range 7,.range 8])],bk:=[(16,999999),(26,999999)]}
theorem Gm:aB Try.prog Z6 Try.f96=some (Z5,29,[(4,some (true,3))],false):=by kernel_rfl
def Z7:ay:=(jS (jR [B0 3 89 0,gA 4 3 1,B0 5 32 2,ef 6]) (jS (jR [cg 7 1 3,dY 8 3 5,gR 9 96 7 8,gB 3 5 9]) (jS (jS (jR [bO 10 0 5,cg 11 1 10,fU 12 11 9]) (jC 12 (jS (jR [bO 13 1 5,cg 14 1 13,cg 15 1 4,E4 16 14 15,aj 6 16]) .ret) .skip)) (jS (jR [bO 17 2 5,cg 18 1 17,Kq 19 113 3 4,gR 20 49 18 19,aj 6 20]) .ret))))
def Z8:dc:={n:=21,own:=[4],frz:=[],ord:=[]}
theorem Gn:aB Try.prog Z8 Try.f97=some (Z7,21,[(6,none)],false):=by kernel_rfl
def Z9:ay:=(jS (jR [gA 2 32 0,gG 3 32 0 0 0 0,ef 4]) (jS (jS (jR [bO 5 0 2,cg 6 1 5,fU 7 6 9]) (jC 7 (jS (jR [cg 8 1 1,bO 9 1 2,cg 10 1 9,.op (some 11) (.mlook false false (.int .i64 0) (.t 8) (.t 10)) none,E6 12 0 0 0 0 0 1 9 1 1 11,gB 3 3 12,rq 4]) .ret) .skip)) (jS (jR [dY 13 3 2,gB 3 3 13,ef 4]) .ret)))
def A98:dc:={n:=14,own:=[2],frz:=[],ord:=[]}
theorem Gp:aB Try.prog A98 Try.f98=some (Z9,14,[(3,some (true,3)),(4,none)],false):=by kernel_rfl
def c99:ay:=(jS (jR [gA 4 29 0,gA 6 32 2,ef 8]) (jS (jS (jR [aj 11 3,zJ 12 11 1]) (jC 12 (jS (jR [ef 8]) .ret) .skip)) (jS (jR [bO 13 2 6,cg 14 1 13,eV 15 14,aj 9 15]) (jS (jS (jR [bO 16 0 6,cg 17 1 16]) (jB 0 (jS (jS (jR [fU 19 17 1,aj 18 19]) (jC 18 .skip (jR [fU 20 17 6,aj 18 20]))) (jC 18 (jS (jR [bO 21 1 6,cg 22 1 21,fU 23 22 0,aj 24 23,fI 25 9 24,qj 26 25 0 24,fW 27 24 26,aj 8 27]) .ret) (jS (jR [fU 29 17 5,aj 28 29]) (jC 28 (jS (jR [bO 30 1 6,cg 31 1 30,nQ 32 31 0,aj 33 32,iJ 34 1 6 33,ic 35 1 34 33,fI 36 1 33,yh 37 35 36 33,fW 38 33 37,aj 39 38,fI 40 9 39,qj 41 40 0 39,fW 42 39 41,aj 8 42]) .ret) (jS (jR [fU 44 17 2,aj 43 44]) (jC 43 (jS (jR [bO 45 1 6,cg 46 1 45,zJ 47 46 0,aj 48 47,dm 49 1 6 48,eL 50 1 49 48,dm 51 2 4 48,eL 52 1 51 48,kX 53 52 48,E7 54 50 53 48,cR 55 48 54,aj 56 55,eK 57 9 56,dm 58 2 4 56,eL 59 1 58 56,dm 60 1 6 56,eL 61 1 60 56,BX 62 5 59 61 56,dm 63 2 62 56,eL 64 1 63 56,zH 65 57 64 56,cR 66 56 65]) (jC 66 (jS (jR [ef 8]) .ret) .skip)) (jS (jS (jR [fU 68 17 3,aj 67 68]) (jC 67 .skip (jS (jR [fU 69 17 4,aj 67 69]) (jC 67 .skip (jR [fU 70 17 8,aj 67 70]))))) (jC 67 (jS (jR [bO 71 1 6,cg 72 1 71,zI 73 72 0,aj 74 73,eK 75 9 74,Nx 76 75 1 74,cR 77 74 76]) (jC 77 (jS (jR [ef 8]) .ret) .skip)) (jS (jR [fU 79 17 7,aj 78 79]) (jC 78 (jS (jS (jR [bO 80 1 6,cg 81 1 80,zI 82 81 0,aj 83 82,eK 84 9 83,Nx 85 84 1 83,cR 86 83 85]) (jC 86 (jS (jR [ef 8]) .ret) .skip)) (jS (jR [bO 87 2 6,cg 88 1 87,Ky 89 3 88 0,bO 90 0 89,cg 91 1 90,fU 92 91 6]) (jC 92 (jS (jD [kR 93 8 4,aj 94 1,bO 95 2 6,fq 96 1 95,Ky 97 3 96 0,kR 98 3 97,aj 99 3,NG 100 99 1,.op (some 101) (.callD 99 [(.t 93),(.t 94),(.t 98),(.t 100)]) none,aj 8 101]) .ret) .skip))) (jS (jR [ef 8]) .ret))))))))))))) (jS (jS (jR [dD 10 0]) (jB 1 (jL [102,103,104,107,108,109,110,111,112,113,114,115,116,117,118,119,120,121,122,123,124,125,126,8,105,106,10] (jS (jS (jR [aj 102 10,aj 103 9,iZ 104 102 103]) (jC 104 .skip (jX 1))) (jS (jB 2 (jS (jD [bO 107 2 6,fq 108 1 107,aj 109 10,f7 110 3 108 109,kR 111 3 110,.op (some 112) (.callD 17 [(.t 111)]) none,iY 113 112,aj 114 113,nP 115 8 4 114,eK 116 1 114,dm 117 2 6 114,yg 118 1 117 114,eK 119 10 114,BX 120 3 118 119 114,nP 121 3 120 114,eK 122 3 114,.op (some 123) (.bin .sub (.t 122) (.c (.int .i64 1))) (some (114,false)),.op (some 124) (.callD 99 [(.t 115),(.t 116),(.t 121),(.t 123)]) (some (114,false)),jO 125 124 114,cR 126 114 125]) (jC 126 (jS (jR [ef 8]) .ret) .skip))) (jR [aj 105 10,iE 106 105 1,aj 10 106])))))) (jS (jR [rq 8]) .ret))))))
def A99:dc:={n:=127,own:=[4,6],frz:=[],ord:=[(23,.range 10,[[],[],[],[2],[2,3],[2,3,4],[],[6],.range 8,.range 9]),(27,.range 20,[[],[0],[],[0,1,2],.range 4,.range 5,.range 6,.range 7,.range 8,.range 8,.range 8,[0,1,2,3,4,5,6,7,10],.range 8,[0,1,2,3,4,5,6,7,10,11,12],[0,1,2,3,4,5,6,7,10,11,12,13],.range 8,[0,1,2,3,4,5,6,7,15],.range 17,.range 18,.range 19])]}
theorem Gq:aB Try.prog A99 Try.f99=some (c99,127,[(8,none)],false):=by kernel_rfl
def Vn:ay:=(jS (jR [dD 4 0]) (jS (jS (jR [aj 6 0,eV 7 6,dD 8 0]) (jB 0 (jL [9,10,5,11,12,13,14,15,16,17,4,18,8] (jS (jR [iZ 9 8 7]) (jS (jC 9 .skip (jX 0)) (jS (jB 1 (jS (jR [aj 10 8,aj 5 10]) (jS (jR [aj 11 1,aj 12 0,aj 13 5,f7 14 4 12 13,dY 15 4 14,DA 16 11 15]) (jC 16 (jS (jR [aj 17 5,aj 4 17]) .ret) .skip)))) (jR [iE 18 8 1,aj 8 18]))))))) (jS (jR [Kk 4 1]) .ret)))
def Vo:dc:={n:=19,own:=[],frz:=[],ord:=[]}
theorem KA:aB Try.prog Vo Try.f101=some (Vn,19,[(4,none)],false):=by kernel_rfl
def Vp:ay:=(jS (jR [ef 4]) (jS (jR [aj 5 1,nQ 6 5 0,aj 7 6,fI 8 1 7,fI 9 0 7,qi 10 9 7,yh 11 8 10 7,fW 12 7 11,aj 4 12]) .ret))
def Vq:dc:={n:=13,own:=[],frz:=[],ord:=[]}
theorem KC:aB Try.prog Vq Try.f103=some (Vp,13,[(4,none)],false):=by kernel_rfl
def Vr:ay:=(jS (jR [gA 1 32 0,ef 2]) (jS (jR [bO 3 0 1,cg 4 1 3,nQ 5 4 1,aj 6 5,iJ 7 0 1 6,ic 8 1 7 6,NA 9 8 5 6,fW 10 6 9,aj 2 10]) .ret))
def Vs:dc:={n:=11,own:=[1],frz:=[],ord:=[]}
theorem KD:aB Try.prog Vs Try.f104=some (Vr,11,[(2,none)],false):=by kernel_rfl
def Vt:ay:=(jS (jR [gA 2 32 0]) (jS (jS (jR [bO 6 0 2,cg 7 1 6,fU 8 7 5]) (jC 8 (jR [aj 9 1,bO 10 1 2,cg 11 1 10,DA 12 9 11]) .skip)) (jS (jR [bO 13 2 2,cg 14 1 13,eV 15 14,dD 16 0]) (jB 0 (jL [17,18,19,5,20,21,22,23,16] (jS (jR [iZ 17 16 15]) (jS (jC 17 .skip (jX 0)) (jS (jB 1 (jS (jR [f7 18 3 14 16,dY 19 3 18,gG 5 32 0 0 0 0,gB 3 5 19]) (jR [dY 20 3 5,aj 21 1,gR 22 105 20 21]))) (jR [iE 23 16 1,aj 16 23])))))))))
def Vu:dc:={n:=24,own:=[2],frz:=[],ord:=[]}
theorem KE:aB Try.prog Vu Try.f105=some (Vt,24,[],false):=by kernel_rfl
def Vv:ay:=(jR [cg 3 1 1,aj 4 0,f7 5 1 3 4,.op none (.store 1 (.t 5) (.c (.bool true))) none])
def Vw:dc:={n:=6,own:=[],frz:=[],ord:=[]}
theorem KF:aB Try.prog Vw Try.f106=some (Vv,6,[],false):=by kernel_rfl
def Vx:ay:=(jS (jR [gA 3 72 0,ef 4]) (jS (jR [cg 5 1 1,bO 6 0 3,cg 7 1 6,gR 8 108 5 7,iY 9 8,aj 10 9,dm 11 3 2 10,eL 12 1 11 10,dm 13 1 3 10,eL 14 1 13 10,Kf 15 103 12 14 10,jO 16 15 10,cR 17 10 16,aj 4 17]) .ret))
def Vy:dc:={n:=18,own:=[3],frz:=[],ord:=[]}
theorem KG:aB Try.prog Vy Try.f107=some (Vx,18,[(4,none)],false):=by kernel_rfl
def Vz:ay:=(jS (jR [ef 4]) (jS (jR [aj 5 1,nQ 6 5 0,aj 7 6,fI 8 1 7,fI 9 0 7,qi 10 9 7,yh 11 8 10 7,fW 12 7 11,aj 4 12]) .ret))
def VA:dc:={n:=13,own:=[],frz:=[],ord:=[]}
theorem KH:aB Try.prog VA Try.f108=some (Vz,13,[(4,none)],false):=by kernel_rfl
def VB:ay:=(jS (jR [ef 4]) (jS (jR [aj 5 0,aj 6 1,gR 7 116 5 6,nQ 8 7 0,aj 4 8]) .ret))
def VD:dc:={n:=9,own:=[],frz:=[],ord:=[]}
theorem KI:aB Try.prog VD Try.f109=some (VB,9,[(4,none)],false):=by kernel_rfl
def VE:ay:=(jS (jR [ef 4]) (jS (jR [aj 5 0,aj 6 1,gR 7 81 5 6,nQ 8 7 0,aj 4 8]) .ret))
def VF:dc:={n:=9,own:=[],frz:=[],ord:=[]}
theorem KJ:aB Try.prog VF Try.f110=some (VE,9,[(4,none)],false):=by kernel_rfl
def VG:ay:=(jS (jR [ef 4]) (jS (jR [aj 5 1,nQ 6 5 0,aj 7 6,fI 8 1 7,fI 9 0 7,qi 10 9 7,yh 11 8 10 7,fW 12 7 11,aj 4 12]) .ret))
def VH:dc:={n:=13,own:=[],frz:=[],ord:=[]}
theorem KL:aB Try.prog VH Try.f111=some (VG,13,[(4,none)],false):=by kernel_rfl
def VI:ay:=(jS (jR [ef 4]) (jS (jR [aj 5 1,nQ 6 5 0,aj 7 6,fI 8 1 7,fI 9 0 7,qi 10 9 7,yh 11 8 10 7,fW 12 7 11,aj 4 12]) .ret))
def VJ:dc:={n:=13,own:=[],frz:=[],ord:=[]}
theorem KM:aB Try.prog VJ Try.f112=some (VI,13,[(4,none)],false):=by kernel_rfl
def VK:ay:=(jS (jR [gA 3 32 0,ef 4]) (jS (jR [cg 5 1 1,cg 6 1 2,dY 7 3 3,Dz 8 97 5 6 7,aj 4 8]) .ret))
def VL:dc:={n:=9,own:=[3],frz:=[],ord:=[]}
theorem KN:aB Try.prog VL Try.f113=some (VK,9,[(4,none)],false):=by kernel_rfl
def VN:ay:=(jS (jR [dD 4 0]) (jS (jS (jR [aj 6 0,eV 7 6,dD 8 0]) (jB 0 (jL [9,10,5,11,12,13,14,15,16,17,4,18,8] (jS (jR [iZ 9 8 7]) (jS (jC 9 .skip (jX 0)) (jS (jB 1 (jS (jR [aj 10 8,aj 5 10]) (jS (jR [aj 11 1,aj 12 0,aj 13 5,f7 14 1 12 13,cg 15 1 14,.op (some 16) (.eqB false (.t 11) (.t 15)) none]) (jC 16 (jS (jR [aj 17 5,aj 4 17]) .ret) .skip)))) (jR [iE 18 8 1,aj 8 18]))))))) (jS (jR [Kk 4 1]) .ret)))
def VO:dc:={n:=19,own:=[],frz:=[],ord:=[]}
theorem KO:aB Try.prog VO Try.f116=some (VN,19,[(4,none)],false):=by kernel_rfl
def VP:ay:=(jS (jR [gA 2 32 0,gG 4 32 0 0 0 0]) (jS (jS (jR [aj 11 1,dY 12 3 2,DA 13 11 12,aj 10 13,dS 14 10 0,dS 15 10 1,gG 5 32 0 0 0 0,gB 3 5 14,aj 6 15]) (jS (jR [aj 16 6]) (jC 16 (jS (jR [dY 17 3 5,gB 3 4 17]) .ret) .skip))) (jS (jR [bO 18 0 2,cg 19 1 18,bO 20 1 2,cg 21 1 20,ND 22 0 0 0 0 0 1 19 1 1 21,gG 7 32 0 0 0 0,gB 3 7 22]) (jS (jS (jR [bO 23 2 2,cg 24 1 23,eV 25 24,dD 26 0]) (jB 0 (jL [27,28,29,9,30,31,32,33,34,35,36,37,38,26] (jS (jR [iZ 27 26 25]) (jS (jC 27 .skip (jX 0)) (jS (jB 1 (jS (jR [f7 28 3 24 26,dY 29 3 28,gG 9 32 0 0 0 0,gB 3 9 29]) (.regX [.op (some 30) (.fieldA 2 (.t 7)) none,.op (some 31) (.loadK 7 false 1 (.t 30)) none,.op (some 32) (.loadD true 3 (.t 9)) none,.op (some 33) (.mov (.t 1)) none,.pc (some 34) (.call 52 [(.t 32),(.t 33)]) none,.op (some 35) (.mkFD 32 1 3 [(.t 34)]) none,.op (some 36) (.appD 32 3 40 [(.int .i64 0),(.int .i64 0),(.slice none 0 0)] (.t 31) (.t 35)) none,.op (some 37) (.fieldA 2 (.t 7)) none,.op none (.storeD 1 (.t 37) (.t 36)) none]))) (jR [iE 38 26 1,aj 26 38]))))))) (jS (jR [dY 39 3 7,gB 3 4 39]) .ret)))))
def VQ:dc:={n:=40,own:=[2],frz:=[],ord:=[(8,.range 9,[[],[0],[],[],[2,3],[2,3,4],.range 6,.range 7,.range 8])],px:=[34],bk:=[(30,7)]}
theorem tN:aB Try.prog VQ Try.f52=some (VP,40,[(4,some (true,3))],false):=by kernel_rfl
end Go.Fr.Try
