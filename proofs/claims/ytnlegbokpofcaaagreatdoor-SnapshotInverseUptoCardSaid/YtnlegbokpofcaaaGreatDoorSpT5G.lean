/- Part of the proofs of the statements of this seat. -/
import Derived.Test.YtnlegbokpofcaaaGreatDoorSpW1G
set_option maxRecDepth 10000
set_option linter.unusedVariables false
set_option linter.unusedSimpArgs false
namespace Go.Fr.Tryz
open Go Go.RowKit Go.Proofs Go.Fr Go.Fr.T Go.Fr.Api
theorem kR (z:Nat):1<=(bV z).length:=by
 rw[bV];split<;>simp
theorem Cz (m:Nat):IntKind.wrap .u8 (128+(m:Int).tmod 128)=((UInt8.ofNat (128+m % 128)).toNat:Int):=by
 rw[show(128+(m:Int).tmod 128)=((128+m % 128:Nat):Int) from rfl,UInt8.toNat_ofNat'];simp only[IntKind.wrap,IntKind.bits,IntKind.signed,abM,Nat.reducePow,Int.reducePow];simp
theorem CA (m:Nat):IntKind.wrap .u8 (m:Int)=((UInt8.ofNat m).toNat:Int):=by
 rw[UInt8.toNat_ofNat'];simp only[IntKind.wrap,IntKind.bits,IntKind.signed,abM,Nat.reducePow,Int.reducePow];simp
theorem Sr (t:Nat) (bs:List UInt8):CallsT PZ 50 [.own 1000 0] [.box t [.sl (ak bs),IC 0,.int .i8 0]] (jv [.box t [.sl (ak bs),IC 0,.int .i8 0]] (.sl (ak bs))):=by
 refine aq Tryz.func50 Ov rfl fun b c=>?_;have a:(ak bs).length=bs.length:=aQ;refine Dl.mk (abj 0) (by omega) (abj _) gO ?_;refine zW [1000] rfl rfl rfl (j3 C.sl (?_:((ak bs).drop 0).take (((ak bs).length:Int).toNat-0)=ak bs));rw[iH,a];simp
theorem Ui (t:Nat) (bs:List UInt8) (n:Int) (j:-2305843009213693952<=n) (l:n<=2305843009213693952) (hb:bs.length+(bV (zz n)).length<=70368744177664):CallsT PZ 63 [.own 1000 0,IC n] (WB t bs) (jv (WB t (bs++bV (zz n))) (.tup [])):=by
 refine aq Tryz.func63 OB rfl fun o p=>?_;have k:zz n<=4611686018427387904:=by unfold zz;split<;>omega
 refine Fit.aad (by omega) (by omega) ?_;refine aK (fun f=>?_) (fun e=>?_)
 ·refine Fit.aad (by omega) (by omega) ?_;refine Fit.aad (by omega) (by omega) ?_;refine yE.mk ⟨Nat×List UInt8,(zz n,bs),fun y=>y.1<=4611686018427387904/\y.2++bV y.1=bs++bV (zz n),[4],fun y=>[.int .i64 y.1],fun y=>Fv t y.2,fun y=>y.1,⟨k,rfl⟩,⟨.inr (.inl ⟨?_,rfl⟩),trivial⟩,
   ⟨.inl ⟨_,rfl,.inl ⟨rfl,rfl⟩⟩,.inl ⟨_,rfl,.inl ⟨rfl,rfl⟩⟩,trivial⟩,fun _=>rfl,fun _=>rfl,?_⟩
  ·exact j3 (C.int .i64) (by unfold zz;rw[o6 f];omega)
  rintro⟨m,done⟩ ⟨d,a⟩ _ _;simp only at a d;have h:done.length+(bV m).length<=70368744177664:=by
   have:=j3 List.length a;simp only[aaR] at this;omega
  have j:=kR m;refine aK (fun c=>?_) (fun c=>?_)
  ·have c:128<=m:=by have:(128:Int)<=(m:Int):=c;omega
   have b:bV m=UInt8.ofNat (128+m % 128)::bV (m / 128):=by rw[bV,dif_neg (by omega)]
   refine oG.mk (by omega) ?_;refine Fit.to (m:=128+(m:Int).tmod 128) (bZ (by rw[show(m:Int).tmod 128=((m % 128:Nat):Int) from rfl];omega) (by rw[show(m:Int).tmod 128=((m % 128:Nat):Int) from rfl];omega)) ?_;refine Fit.to (Cz m) ?_;refine callO [1000,1001] [1000,1001] (Bl t [] rfl done (UInt8.ofNat (128+m % 128)) (by omega)) rfl rfl rfl rfl rfl fun _ _=>?_;refine oG.mk (by omega) ?_;refine Fit.to (m:=((m / 128:Nat):Int)) (by show IntKind.wrap .i64 ((m / 128:Nat):Int)=_;exact bZ (by omega) (by omega)) ?_;refine⟨(m / 128,done++[UInt8.ofNat (128+m % 128)]),⟨?_,?_⟩,⟨.inr (.inl ⟨rfl,rfl⟩),trivial⟩,⟨.inl ⟨_,rfl,.inl ⟨rfl,rfl⟩⟩,.inl ⟨_,rfl,.inl ⟨rfl,rfl⟩⟩,trivial⟩,?_⟩
   ·show m / 128<=_;omega
   ·show done++[UInt8.ofNat (128+m % 128)]++bV (m / 128)=bs++bV (zz n);rw[<-a,b];simp
   ·show m / 128<m;omega
  ·have c:m<128:=by have:¬(128:Int)<=(m:Int):=c;omega
   have b:bV m=[UInt8.ofNat m]:=by rw[bV,dif_pos c]
   refine Fit.to (CA m) ?_;refine callO [1000,1001] [1000,1001] (Bl t [] rfl done (UInt8.ofNat m) (by omega)) rfl rfl rfl rfl rfl fun _ _=>?_;exact zW [1000,1001] rfl rfl (j3 (WB t) (by rw[<-a,b])) rfl
 ·refine yE.mk ⟨Nat×List UInt8,(zz n,bs),fun y=>y.1<=4611686018427387904/\y.2++bV y.1=bs++bV (zz n),[4],fun y=>[.int .i64 y.1],fun y=>Fv t y.2,fun y=>y.1,⟨k,rfl⟩,⟨.inr (.inl ⟨?_,rfl⟩),trivial⟩,
   ⟨.inl ⟨_,rfl,.inl ⟨rfl,rfl⟩⟩,.inl ⟨_,rfl,.inl ⟨rfl,rfl⟩⟩,trivial⟩,fun _=>rfl,fun _=>rfl,?_⟩
  ·exact j3 (C.int .i64) (by unfold zz;rw[vv e];omega)
  rintro⟨m,done⟩ ⟨d,a⟩ _ _;simp only at a d;have h:done.length+(bV m).length<=70368744177664:=by
   have:=j3 List.length a;simp only[aaR] at this;omega
  have j:=kR m;refine aK (fun c=>?_) (fun c=>?_)
  ·have c:128<=m:=by have:(128:Int)<=(m:Int):=c;omega
   have b:bV m=UInt8.ofNat (128+m % 128)::bV (m / 128):=by rw[bV,dif_neg (by omega)]
   refine oG.mk (by omega) ?_;refine Fit.to (m:=128+(m:Int).tmod 128) (bZ (by rw[show(m:Int).tmod 128=((m % 128:Nat):Int) from rfl];omega) (by rw[show(m:Int).tmod 128=((m % 128:Nat):Int) from rfl];omega)) ?_;refine Fit.to (Cz m) ?_;refine callO [1000,1001] [1000,1001] (Bl t [] rfl done (UInt8.ofNat (128+m % 128)) (by omega)) rfl rfl rfl rfl rfl fun _ _=>?_;refine oG.mk (by omega) ?_;refine Fit.to (m:=((m / 128:Nat):Int)) (by show IntKind.wrap .i64 ((m / 128:Nat):Int)=_;exact bZ (by omega) (by omega)) ?_;refine⟨(m / 128,done++[UInt8.ofNat (128+m % 128)]),⟨?_,?_⟩,⟨.inr (.inl ⟨rfl,rfl⟩),trivial⟩,⟨.inl ⟨_,rfl,.inl ⟨rfl,rfl⟩⟩,.inl ⟨_,rfl,.inl ⟨rfl,rfl⟩⟩,trivial⟩,?_⟩
   ·show m / 128<=_;omega
   ·show done++[UInt8.ofNat (128+m % 128)]++bV (m / 128)=bs++bV (zz n);rw[<-a,b];simp
   ·show m / 128<m;omega
  ·have c:m<128:=by have:¬(128:Int)<=(m:Int):=c;omega
   have b:bV m=[UInt8.ofNat m]:=by rw[bV,dif_pos c]
   refine Fit.to (CA m) ?_;refine callO [1000,1001] [1000,1001] (Bl t [] rfl done (UInt8.ofNat m) (by omega)) rfl rfl rfl rfl rfl fun _ _=>?_;exact zW [1000,1001] rfl rfl (j3 (WB t) (by rw[<-a,b])) rfl
theorem XU (n:Int):fR kW 167 [.own 1000 0,.pt [IC n] 0] (kW.num n):=by
 intro bs hb;have hb:bs.length+(bV (zz n)).length<=70368744177664:=hb;refine au Tryz.func167 D4 rfl fun b c=>?_;refine aK (fun a=>?_) (fun a=>?_)
 ·have a:-1099511627776<=n:=a;refine vV (u9 (decide (n<=1099511627776))) rfl (fun h=>⟨rfl,?_⟩) fun h=>?_
  ·show(decide (-1099511627776<=n)&&decide (n<=1099511627776))=false;rw[h,abr]
  ·have h:=aa7 h;refine callO [1000,1001] [1000,1001] (Ui 108 bs n (by omega) (by omega) hb) rfl rfl rfl rfl rfl fun _ _=>?_;refine dK [1000,1001] rfl rfl rfl rfl ⟨?_,rfl,rfl⟩;show(decide (-1099511627776<=n)&&decide (n<=1099511627776))=true;simp[a,h]
 ·have a:¬-1099511627776<=n:=a;refine vV (u9 false) rfl (fun h=>⟨rfl,?_⟩) fun h=>by cases h
  show(decide (-1099511627776<=n)&&decide (n<=1099511627776))=false;simp[a]
theorem XV (n:Nat):Vw kW 168 [.own 1000 0,IC n] (kW.siz n) (IC n):=by
 intro bs hb;have hb:bs.length+(bV (zz n)).length<=70368744177664:=hb;refine au Tryz.func168 K8 rfl fun a c=>?_;refine vV (u9 (decide ((n:Int)<=100000))) rfl (fun h=>⟨rfl,h⟩) fun h=>?_;have b:=aa7 h;refine callO [1000,1001] [1000,1001] (Ui 108 bs n (by omega) (by omega) hb) rfl rfl rfl rfl rfl fun _ _=>?_;exact dK [1000,1001] rfl rfl rfl rfl ⟨h,rfl,rfl⟩
def Ae (n:Int) (k:Nat):UInt8:=UInt8.ofNat ((n.fdiv (2 ^ (8*k))).emod 256).toNat
theorem Eg (n:Int) (k:Nat) (h:k<8):(EI n).take (k+1)=(EI n).take k++[Ae n k]:=by
 have a:(EI n).length=8:=by simp[EI]
 rw[List.take_add_one,w8 (by omega)];simp[EI,Ae]
theorem Qt (n:Int) (k:Nat):IntKind.wrap .u8 (n.fdiv (2 ^ (8*k)))=((Ae n k).toNat:Int):=by
 unfold Ae;rw[UInt8.toNat_ofNat'];have b:0<=(n.fdiv (2 ^ (8*k))).emod 256:=Int.emod_nonneg _ (by omega);have a:(n.fdiv (2 ^ (8*k))).emod 256<256:=Int.emod_lt_of_pos _ (by omega);generalize n.fdiv (2 ^ (8*k))=z at b a ⊢;simp only[IntKind.wrap,IntKind.bits,IntKind.signed,abM,Nat.reducePow,Int.reducePow];have c:z.emod 256=z % 256:=rfl;rw[c] at b a ⊢;simp;omega
theorem Uj (n:Int):fR kL 169 [.own 1000 0,.pt [IC n] 0] (kL.num n):=by
 intro bs hb;have hb:bs.length+(EI n).length<=70368744177664:=hb;have f:(EI n).length=8:=by simp[EI]
 refine au Tryz.func169 D5 rfl fun h l=>?_;refine aZ 8 5 [] bs (fun _=>[]) (fun s=>Fv 124 s) (fun k s=>s=bs++(EI n).take k) (by simp) (aj rfl) trivial ⟨.inl ⟨_,rfl,.inl ⟨rfl,rfl⟩⟩,.inl ⟨_,rfl,.inl ⟨rfl,rfl⟩⟩,trivial⟩ (fun _=>rfl) (fun _=>rfl) ?_;rintro k s j d _ _ _;have e:s.length=bs.length+k:=by rw[d];simp[f];omega
 refine aK (fun a=>?_) (fun b=>?_)
 ·have a:k<8:=by omega
  refine Fit.aad (by omega) (by omega) ?_;refine⟨by omega,?_⟩;have c:min ((8:Int)*(k:Int)).toNat 64=8*k:=by omega
  refine Fit.to (m:=((Ae n k).toNat:Int)) (by rw[show(min ((8:Int)*(k:Int)).toNat IntKind.i64.bits)=min ((8:Int)*(k:Int)).toNat 64 from rfl,c];exact Qt n k) ?_;refine Ch [1000,1001] [1000,1001] (Bl 124 [] rfl s (Ae n k) (by omega)) rfl rfl rfl rfl rfl fun _ _=>?_;refine Fit.aad (by omega) (by omega) ?_;exact⟨(k+1,s++[Ae n k]),⟨by omega,by rw[d,Eg n k a];simp⟩,⟨bn,trivial⟩,⟨.inl ⟨_,rfl,.inl ⟨rfl,rfl⟩⟩,.inl ⟨_,rfl,.inl ⟨rfl,rfl⟩⟩,trivial⟩,bq a⟩
 ·have b:k=8:=by omega
  subst b;refine dK [1000,1001] rfl rfl rfl rfl ⟨rfl,?_,rfl⟩;refine j3 (WB 124) ?_;rw[d,abz (by omega)];rfl
theorem XW (n:Nat):Vw kL 170 [.own 1000 0,IC n] (kL.siz n) (IC n):=by
 intro bs hb;have a:CallsT PZ 169 [.own 1000 0,.pt [IC n] 0] (WB 124 bs) (jv (WB 124 (bs++EI n)) (.tup [])):=CallsTX.noPan ((Uj n bs hb).imp (fun Mo c ⟨_,d,b⟩=>⟨d,b⟩) fun v ⟨_,h⟩=>by cases h);refine au Tryz.func170 K9 rfl fun e f=>?_;refine callO [1000,1001] [1000,1001] a rfl rfl rfl rfl rfl fun _ _=>?_;exact dK [1000,1001] rfl rfl rfl rfl ⟨rfl,rfl,rfl⟩
def XY (k:Kd) (f:Nat) (n:Int):Prop:=∀bs,bs.length+(k.num n).1.length<=70368744177664 ->
 CallsTX PZ f [.own 1000 0,.own 1002 0] (WB k.tb bs++[.box 3 [IC n]]) (fun Mo c=>(k.num n).2=true/\Mo=WB k.tb (bs++(k.num n).1)++[.box 3 [IC n]]/\c=.tup []) (fun v=>v=fW/\(k.num n).2=false)
theorem Uk (n:Int):XY kW 167 n:=by
 intro bs hb;have hb:bs.length+(bV (zz n)).length<=70368744177664:=hb;refine au Tryz.func167 D4 rfl fun b c=>?_;refine aK (fun a=>?_) (fun a=>?_)
 ·have a:-1099511627776<=n:=a;refine vV (u9 (decide (n<=1099511627776))) rfl (fun h=>⟨rfl,?_⟩) fun h=>?_
  ·show(decide (-1099511627776<=n)&&decide (n<=1099511627776))=false;rw[h,abr]
  ·have h:=aa7 h;refine callO [1000,1001] [1000,1001] (Ui 108 bs n (by omega) (by omega) hb) rfl rfl rfl rfl rfl fun _ _=>?_;refine dK [1000,1001,1002] rfl rfl rfl rfl ⟨?_,rfl,rfl⟩;show(decide (-1099511627776<=n)&&decide (n<=1099511627776))=true;simp[a,h]
 ·have a:¬-1099511627776<=n:=a;refine vV (u9 false) rfl (fun h=>⟨rfl,?_⟩) fun h=>by cases h
  show(decide (-1099511627776<=n)&&decide (n<=1099511627776))=false;simp[a]
theorem Ul (n:Int):XY kL 169 n:=by
 intro bs hb;have hb:bs.length+(EI n).length<=70368744177664:=hb;have f:(EI n).length=8:=by simp[EI]
 refine au Tryz.func169 D5 rfl fun h l=>?_;refine aZ 8 5 [] bs (fun _=>[]) (fun s=>[(1000,.box 124 [.rw 1001,IC 0,.int .i8 0]),(1001,.row 5 1 (ak s)),(1002,.box 3 [IC n])]) (fun k s=>s=bs++(EI n).take k) (by simp) (aj rfl) trivial ⟨.inl ⟨_,rfl,.inl ⟨rfl,rfl⟩⟩,.inl ⟨_,rfl,.inl ⟨rfl,rfl⟩⟩,.inl ⟨_,rfl,.inl ⟨rfl,rfl⟩⟩,trivial⟩ (fun _=>rfl) (fun _=>rfl) ?_;rintro k s j d _ _ _;have e:s.length=bs.length+k:=by rw[d];simp[f];omega
 refine aK (fun a=>?_) (fun b=>?_)
 ·have a:k<8:=by omega
  refine Fit.aad (by omega) (by omega) ?_;refine⟨by omega,?_⟩;have c:min ((8:Int)*(k:Int)).toNat 64=8*k:=by omega
  refine Fit.to (m:=((Ae n k).toNat:Int)) (by rw[show(min ((8:Int)*(k:Int)).toNat IntKind.i64.bits)=min ((8:Int)*(k:Int)).toNat 64 from rfl,c];exact Qt n k) ?_;refine Ch [1000,1001] [1000,1001] (Bl 124 [] rfl s (Ae n k) (by omega)) rfl rfl rfl rfl rfl fun _ _=>?_;refine Fit.aad (by omega) (by omega) ?_;exact⟨(k+1,s++[Ae n k]),⟨by omega,by rw[d,Eg n k a];simp⟩,⟨bn,trivial⟩,⟨.inl ⟨_,rfl,.inl ⟨rfl,rfl⟩⟩,.inl ⟨_,rfl,.inl ⟨rfl,rfl⟩⟩,.inl ⟨_,rfl,.inl ⟨rfl,rfl⟩⟩,trivial⟩,bq a⟩
 ·have b:k=8:=by omega
  subst b;refine dK [1000,1001,1002] rfl rfl rfl rfl ⟨rfl,?_,rfl⟩;refine j3 (fun q=>WB 124 q++[.box 3 [IC n]]) ?_;rw[d,abz (by omega)];rfl
theorem Zq (n:Int) (bs:List UInt8):Pc 87 [.own 1000 0,IC n] bs (takeD n bs) (fun b=>.sl (ak b)):=by
 refine au Tryz.func87 OM rfl fun f e=>?_;have j:bs.length<=9223372036854775807:=by
  have:=e _ (abv.2 rfl);exact xw this.1
 have a:(ak bs).length=bs.length:=aQ;refine aK (fun d=>?_) (fun d=>?_)
 ·refine vV (u9 (decide (n<=(ak bs).length))) rfl (fun h=>⟨rfl,?_⟩) fun c=>?_
  ·rw[a] at h;have:=abu h;simp only[takeD];rw[vv (fun q=>this q.2)]
  ·rw[a] at c;have c:=aa7 c;refine Dl.mk (abj 0) d (by rw[a];exact c) gO ?_;refine Dl.mk d (by rw[a];exact c) (abj _) gO ?_;refine dK [1000] rfl rfl rfl rfl ⟨_,_,Bk d c,?_,?_⟩
   ·refine j3 (fun q=>[TO.box 88 [C.sl q]]) (?_:((ak bs).drop n.toNat).take (((ak bs).length:Int).toNat-n.toNat)=ak (bs.drop n.toNat));rw[iH,a,abz (by simp)]
   ·refine j3 C.sl (?_:((ak bs).drop 0).take (n.toNat-0)=ak (bs.take n.toNat));rw[iH];simp
 ·refine vV (u9 false) rfl (fun h=>⟨rfl,?_⟩) fun c=>by cases c
  simp only[takeD];rw[vv (fun q=>d q.1)]
theorem uW {n:Nat}(h:n<9223372036854775808):IntKind.wrap .i64 (n:Int)=n:=by
 simp only[IntKind.wrap,IntKind.bits,IntKind.signed,abJ,abw,ge_iff_le,Nat.reduceSub,Int.reducePow];split<;>omega
theorem or_eq {z c k:Nat}(a:z<128 ^ k) (h:c<128) (f:k<6):IntKind.wrap .i64 ((BitVec.ofInt 64 (z:Int) ||| BitVec.ofInt 64 (((c*128 ^ k:Nat)):Int)).toNat:Int)=((z+c*128 ^ k:Nat):Int):=by
 have b:128 ^ k=2 ^ (7*k):=by rw[Nat.pow_mul]
 have hb:128 ^ k<=128 ^ 5:=Nat.pow_le_pow_right (by omega) (by omega);have d:c*128 ^ k<=127*128 ^ 5:=Nat.mul_le_mul (by omega) hb;have e:(BitVec.ofInt 64 (z:Int) ||| BitVec.ofInt 64 ((c*128 ^ k:Nat):Int)).toNat=z+c*128 ^ k:=by
  rw[BitVec.toNat_or,BitVec.ofInt_natCast,BitVec.ofInt_natCast,BitVec.toNat_ofNat,BitVec.toNat_ofNat,Nat.mod_eq_of_lt (by omega),Nat.mod_eq_of_lt (by omega)];rw[b] at a ⊢;rw[Nat.or_comm,Nat.mul_comm,<-Nat.two_pow_add_eq_or_of_lt a];omega
 rw[e];exact uW (by omega)
theorem xor_eq {z:Nat}(a:z<9223372036854775808):IntKind.wrap .i64 ((BitVec.ofInt 64 ((z / 2:Nat):Int) ^^^ BitVec.ofInt 64 (0-((z % 2:Nat):Int))).toNat:Int)=I7 z:=by
 unfold I7;rcases Nat.mod_two_eq_zero_or_one z with h | h
 ·rw[h,o6 rfl];have e:(BitVec.ofInt 64 ((z / 2:Nat):Int) ^^^ BitVec.ofInt 64 (0-((0:Nat):Int))).toNat=z / 2:=by
   rw[show(0-((0:Nat):Int))=((0:Nat):Int) from rfl,BitVec.ofInt_natCast,BitVec.ofInt_natCast];simp;omega
  rw[e];exact uW (by omega)
 ·rw[h,vv (by omega)];have e:(BitVec.ofInt 64 ((z / 2:Nat):Int) ^^^ BitVec.ofInt 64 (0-((1:Nat):Int))).toNat=18446744073709551615-z / 2:=by
   have:BitVec.ofInt 64 (0-((1:Nat):Int))=BitVec.allOnes 64:=by decide
   rw[this,BitVec.ofInt_natCast,BitVec.xor_allOnes,BitVec.toNat_not,BitVec.toNat_ofNat,Nat.mod_eq_of_lt (by omega)]
  rw[e];simp only[IntKind.wrap,IntKind.bits,IntKind.signed,abJ,abw,ge_iff_le,Nat.reduceSub,Int.reducePow];split<;>omega
def RL (bs:List UInt8):TL:=[(1000,RB bs)]
theorem take1 {x:UInt8}{r:List UInt8}:takeD 1 (x::r)=some ([x],r):=by
 rw[Bk (by omega) (by simp only[aaW];omega)];rfl
theorem IB:takeD 1 []=none:=by simp[takeD]
theorem rn {d:Type}{PS:qJ}{L:TL}{ρ:aY}(b:Nat) {f:Nat}{args a:List C}{bs:List UInt8}{o:Option (d×List UInt8)}{cell:d->C}{K:TL->aY->C->Prop}(h:Pc f a bs o cell)
  (j:L.sub [b]=some [RB bs]) (p:T.mP L [b] [b]=true) (u:(args.map fun c=>c.aaj.ren (cn [b] 1000))=a) (s:o=none->PS.ps fW)
  (k:∀y r,o=some (y,r)->Wf (cell y)->K (((L.aaf [b]).kills (rowsOf L [b])).puts [b] [RB r]) (fP (rowsOf L [b]) ρ) ((cell y).ren (br [b])).slt) (n:mF L [b] PS.hb=true:=by rfl):qf PZ PS f args L ρ K :=
 ck [b] h j (by simp[p,aW,RB];rfl) u rfl (fun v ⟨e,h⟩=>e▸s h) (fun v Mo ⟨y,r,m,q,t⟩ l _=>by subst q t;exact⟨rfl,k y r m l⟩) n
theorem Qu (bs:List UInt8):Pc 44 [.own 1000 0] bs (getD bs) IC:=by
 refine au Tryz.func44 Oj rfl fun hw ho=>?_;refine aZ 6 6 [3] ((0,bs):Nat×List UInt8) (fun s=>[IC s.1]) (fun s=>RL s.2) (fun k s=>mr (6-k) k s.1 s.2=getD bs/\s.1<128 ^ k) ⟨rfl,by simp⟩ (aj rfl) ⟨aj rfl,trivial⟩ ⟨.inl ⟨_,rfl,.inl ⟨rfl,rfl⟩⟩,trivial⟩ (fun _=>rfl) (fun _=>rfl) ?_;rintro k ⟨z,b⟩ hk ⟨a,hz⟩ _ _ _;refine aK (fun n=>?_) (fun t=>?_)
 ·have n:k<6:=by omega
  refine rn 1000 (Zq 1 b) rfl rfl rfl (fun h=>?_) fun y r e _=>?_
  ·refine⟨rfl,?_⟩;cases b with
   | nil=>rw[<-a,show 6-k=(5-k)+1 by omega];rfl
   | cons x r=>rw[take1] at h;cases h
  cases b with
  | nil=>rw[IB] at e;cases e
  | cons x r' =>
   rw[take1] at e;injection e with e
   injection e with e1 e2
   subst e1 e2;refine RO (k:=0) (x:=x) rfl ?_;have hx:=x.toNat_lt;refine Fit.aad (by omega) (by omega) ?_;refine oG.mk (by omega) ?_;have hc:x.toNat % 128<128:=Nat.mod_lt _ (by omega);have o:128 ^ k<=128 ^ 5:=Nat.pow_le_pow_right (by omega) (by omega);have hm:x.toNat % 128*128 ^ k<=127*128 ^ 5:=Nat.mul_le_mul (by omega) o;have aa:((x.toNat:Nat):Int).tmod 128*2 ^ (min ((7:Int)*(k:Int)).toNat 64)=((x.toNat % 128*128 ^ k:Nat):Int):=by
    rw[Int.tmod_eq_emod_of_nonneg (by omega),show min ((7:Int)*(k:Int)).toNat 64=7*k by omega];rw[show(128:Nat) ^ k=2 ^ (7*k) by rw[Nat.pow_mul]]
    push_cast
    rfl
   have l:=or_eq hz hc n;refine Fit.aad (by omega) (by omega) ?_;refine⟨by omega,Fit.to (m:=((x.toNat % 128*128 ^ k:Nat):Int)) (by rw[show(min ((7:Int)*(k:Int)).toNat IntKind.i64.bits)=min ((7:Int)*(k:Int)).toNat 64 from rfl,aa];exact bZ (by omega) (by omega)) ?_⟩;have u:z+x.toNat % 128*128 ^ k<9223372036854775808:=by
    have:z<128 ^ 5:=abP hz o;omega
   refine aK (fun c=>?_) (fun ac=>?_)
   ·have c:x.toNat<128:=by omega
    have d:x.toNat % 128=x.toNat:=Nat.mod_eq_of_lt c;have v:6-k=(6-(k+1))+1:=by omega
    rw[v] at a;simp only[mr] at a;rw[o6 c] at a;have q:=xor_eq u;have f:IntKind.wrap .i64 ((IntKind.wrap .i64 ((BitVec.ofInt 64 (z:Int) ||| BitVec.ofInt 64 ((x.toNat % 128*128 ^ k:Nat):Int)).toNat:Int)).tdiv 2)=(((z+x.toNat % 128*128 ^ k) / 2:Nat):Int):=by
     rw[l,Int.tdiv_eq_ediv_of_nonneg (by omega)];exact bZ (by omega) (by omega)
    have p:0-(IntKind.wrap .i64 ((BitVec.ofInt 64 (z:Int) ||| BitVec.ofInt 64 ((x.toNat % 128*128 ^ k:Nat):Int)).toNat:Int)).tmod 2=0-(((z+x.toNat % 128*128 ^ k) % 2:Nat):Int):=by
     rw[l,Int.tmod_eq_emod_of_nonneg (by omega)];rfl
    have j:IntKind.wrap .i64 (0-(IntKind.wrap .i64 ((BitVec.ofInt 64 (z:Int) ||| BitVec.ofInt 64 ((x.toNat % 128*128 ^ k:Nat):Int)).toNat:Int)).tmod 2)=0-(((z+x.toNat % 128*128 ^ k) % 2:Nat):Int):=by
     rw[p];exact bZ (by omega) (by omega)
    refine aK (fun w=>?_) (fun w=>?_)
    ·refine vV (u9 true) rfl (fun h=>by cases h) fun _=>?_;rw[o6 (.inl (by omega)),<-d] at a;refine oG.mk (by omega) (Fit.to f ?_);refine oG.mk (by omega) (Fit.to j ?_);exact dK [1000] rfl rfl rfl (j3 (C.int .i64) q) ⟨_,r',a.symm,rfl,rfl⟩
    ·refine vV (u9 (decide ((k:Int)=0))) rfl (fun h=>⟨rfl,?_⟩) fun h=>?_
     ·have h:=abu h;rw[<-a,vv (by omega)]
     ·have h:=aa7 h;rw[o6 (.inr (by omega)),<-d] at a;refine oG.mk (by omega) (Fit.to f ?_);refine oG.mk (by omega) (Fit.to j ?_);exact dK [1000] rfl rfl rfl (j3 (C.int .i64) q) ⟨_,r',a.symm,rfl,rfl⟩
   ·refine Fit.aad (by omega) (by omega) ?_;refine⟨(k+1,(z+x.toNat % 128*128 ^ k,r')),⟨by omega,?_,?_⟩,⟨bn,⟨.inr (.inl ⟨j3 C.cel (j3 (C.int .i64) l),rfl⟩),trivial⟩⟩,⟨.inl ⟨_,rfl,.inl ⟨rfl,rfl⟩⟩,trivial⟩,bq n⟩
    ·have v:6-k=(6-(k+1))+1:=by omega
     rw[<-a,v];simp only[mr];rw[vv (by omega),show x.toNat % 128=x.toNat-128 by omega]
    ·rw[Nat.pow_succ];have:x.toNat % 128*128 ^ k<=127*128 ^ k:=Nat.mul_le_mul_right _ (by omega);simp only[];omega
 ·have t:k=6:=by omega
  subst t;refine TM rfl ⟨rfl,?_⟩;rw[<-a];rfl
def Ls (f:Nat):Prop:=∀(t:Nat) (pre post:List C) (x:Int) (bs:List UInt8),cG pre->cG post ->
 CallsTX PZ f [.own 1000 0,.own 1001 pre.length] [RB bs,.win t pre [IC x] post] (fun Mo c=>∃n r,gM bs=some (n,r)/\Mo=[RB r,.win t pre [IC n] post]/\c=.tup []) (fun v=>v=fW/\gM bs=none)
theorem Ss:Ls 164:=by
 intro t pre post x bs _ _;refine au Tryz.func164 K6 rfl fun c d=>?_;refine rn 1000 (Qu bs) rfl rfl rfl (fun h=>⟨rfl,by simp only[gM,h]⟩) fun n r e _=>?_;have b:gM bs=if -bound<=n/\n<=bound then some (n,r) else none:=by simp only[gM,e]
 refine⟨.inl ⟨0,rfl,?_⟩⟩;refine⟨.inl ⟨0,rfl,?_⟩⟩;refine aK (fun a=>?_) (fun a=>?_)
 ·have a:-bound<=n:=a;refine⟨.inl ⟨0,rfl,?_⟩⟩;refine vV (u9 (decide (n<=bound))) rfl (fun h=>⟨rfl,?_⟩) fun h=>?_
  ·rw[b,vv (fun q=>abu h q.2)]
  ·exact dK [1000,1001] rfl rfl rfl rfl ⟨n,r,by rw[b,o6 ⟨a,aa7 h⟩],rfl,rfl⟩
 ·have a:¬-bound<=n:=a;refine vV (u9 false) rfl (fun h=>⟨rfl,?_⟩) fun h=>by cases h
  rw[b,vv (fun q=>a q.1)]
theorem Af (m:Int) (bs:List UInt8):Pc 165 [.own 1000 0,IC m] bs (z9 bs) (fun n=>IC n):=by
 refine au Tryz.func165 K7 rfl fun d f=>?_;refine rn 1000 (Qu bs) rfl rfl rfl (fun h=>⟨rfl,by simp only[z9,h]⟩) fun n r e _=>?_;have b:z9 bs=if 0<=n/\n<=100000/\n<=r.length then some (n.toNat,r) else none:=by simp only[z9,e]
 refine aK (fun a=>?_) (fun a=>?_)
 ·have a:0<=n:=a;refine aK (fun c=>?_) (fun c=>?_)
  ·refine vV (u9 (decide (n<=(ak r).length))) rfl (fun h=>⟨rfl,?_⟩) fun h=>?_
   ·have h:=abu h;rw[aQ] at h;rw[b,vv (fun q=>h q.2.2)]
   ·have h:=aa7 h;rw[aQ] at h;exact dK [1000] rfl rfl rfl (j3 (C.int .i64) (show n=(n.toNat:Int) by omega)) ⟨n.toNat,r,by rw[b,o6 ⟨a,c,h⟩],rfl,rfl⟩
  ·refine vV (u9 false) rfl (fun h=>⟨rfl,?_⟩) fun h=>by cases h
   rw[b,vv (fun q=>c q.2.1)]
 ·refine vV (u9 false) rfl (fun h=>⟨rfl,?_⟩) fun h=>by cases h
  rw[b,vv (fun q=>a q.1)]
theorem Sv:oV PZ 86 "leasehold/snapshot.num"=some 164:=by kernel_rfl
theorem Ag:oV PZ 86 "leasehold/snapshot.size"=some 165:=by kernel_rfl
theorem Lu {cs:List C}{o:Nat}{c:C}(h:cs[o]?=some c):cs=cs.take o++([c]++cs.drop (o+1)):=by
 have a:=(xD.1 h).1;have b:=(xD.1 h).2
 conv=>lhs;rw[<-List.take_append_drop o cs,abI a,b]
 rfl
theorem GN {cs:List C}{o:Nat}{c d:C}(h:cs[o]?=some c):cs.set o d=cs.take o++([d]++cs.drop (o+1)):=by
 have a:=(xD.1 h).1;have b:(cs.set o d)[o]?=some d:=by simp[a]
 have:=Lu b
 rwa [List.take_set_of_le (aa8 o),List.drop_set_of_lt (by omega)] at this
theorem Ls.cell {f:Nat}(h:Ls f) (t:Nat) (cs:List C) (o:Nat) (x:Int) (bs:List UInt8) (hi:cG cs) (b:cs[o]?=some (IC x)) :
  CallsTX PZ f [.own 1000 0,.own 1001 o] [RB bs,.win t cs [] []] (fun Mo c=>∃n r,gM bs=some (n,r)/\Mo=[RB r,.win t (cs.set o (IC n)) [] []]/\c=.tup []) (fun v=>v=fW/\gM bs=none):=by
 have a:(cs.take o).length=o:=by have:=(xD.1 b).1;simp;omega
 have j:cG ([]:List C):=fun c d=>by cases d
 have:=h t (cs.take o) (cs.drop (o+1)) x bs (hi.take o) (hi.drop _);rw[a] at this;refine this.view (vw.same (vw.cons (oC (by simpa using Lu b) (hi.take o) (hi.drop _)) (vw.refl []))) ?_ fun _ h=>h;rintro Mo c ⟨n,r,e,rfl,rfl⟩;exact⟨_,vw.same (vw.cons (oC (by simpa using(GN b).symm) (hi.set rfl) j) (vw.refl [])),n,r,e,rfl,rfl⟩
theorem Ls.box {f:Nat}(h:Ls f) (t:Nat) (x:Int) (bs:List UInt8) :
  CallsTX PZ f [.own 1000 0,.own 1001 0] [RB bs,.box t [IC x]] (fun Mo c=>∃n r,gM bs=some (n,r)/\Mo=[RB r,.box t [IC n]]/\c=.tup []) (fun v=>v=fW/\gM bs=none):=by
 have a:cG ([]:List C):=fun c b=>by cases b
 refine(h t [] [] x bs a a).view (vw.same (vw.cons (xK rfl a a) (vw.refl []))) ?_ fun _ h=>h;rintro Mo c ⟨n,r,e,rfl,rfl⟩;exact⟨_,vw.same (vw.cons (Cw rfl) (vw.refl [])),n,r,e,rfl,rfl⟩
def CB {a:Type}(g:a->C):List C->List Nat->List a->List C
 | cs,o::os,n::ns=>CB g (cs.set o (g n)) os ns
 | cs,_,_=>cs
def Um (f:Nat):Prop:=∀(t:Nat) (cs:List C) (a:List Nat) (bs:List UInt8),cG cs->(∀o∈a,∃x,cs[o]?=some (IC x)) ->
 CallsTX PZ f [.ifo none 86 1000 0,.slo 1001 a] [RB bs,.win t cs [] []] (fun Mo c=>∃ns r,bH gM a.length bs=some (ns,r)/\Mo=[RB r,.win t (CB IC cs a ns) [] []]/\c=.tup []) (fun v=>v=fW/\bH gM a.length bs=none)
theorem Lv {cs:List C}{o p:Nat}{n x:Int}(h:cs[p]?=some (IC x)):∃y,(cs.set o (IC n))[p]?=some (IC y):=by
 have a:=(xD.1 h).1
 by_cases b:o=p
 ·subst b;exact⟨n,by simp[a]⟩
 ·exact⟨x,by rw[abN b];exact h⟩
theorem XZ:Um 85:=by
 intro t cs a bs hi ho;refine au Tryz.func85 Gx rfl fun hw am=>?_;have ar:a.length<=9223372036854775807:=by have h:=hw.2.1;simp only[Wf,maxLen] at h;exact h
 refine aZ a.length 8 [] (cs,bs) (fun _=>[]) (fun s=>[(1000,RB s.2),(1001,.win t s.1 [] [])])
  (fun k s=>(∀ns r,bH gM (a.length-k) s.2=some (ns,r)->∃b,bH gM a.length bs=some (b,r)/\CB IC cs a b=CB IC s.1 (a.drop k) ns)/\(bH gM (a.length-k) s.2=none->bH gM a.length bs=none)/\cG s.1/\∀o∈a,∃x,s.1[o]?=some (IC x))
  ⟨fun ns r h=>⟨ns,h,rfl⟩,fun h=>h,hi,ho⟩ (aj rfl) trivial ⟨.inl ⟨_,rfl,.inl ⟨rfl,rfl⟩⟩,.inl ⟨_,rfl,.inl ⟨rfl,rfl⟩⟩,trivial⟩ (fun _=>rfl) (fun _=>rfl) ?_
 rintro k ⟨ds,c⟩ hk ⟨f,m,h3,h4⟩ _ _ aa;refine aK (fun d=>?_) (fun l=>?_)
 ·have d:k<a.length:=by omega
  refine fC d fun o z w hd=>?_;have j:a.length-k=(a.length-(k+1))+1:=by omega
  simp only[j,hd,bH] at f m;refine rI (h4 o w) fun x hx=>?_;refine⟨by omega,by omega,?_⟩;refine⟨o,z,?_⟩;refine⟨164,Sv,?_⟩;refine ck [1000,1001] (Ss.cell t ds o x c h3 hx) rfl rfl rfl rfl (fun v ⟨e,h⟩=>⟨e,m (by simp only[h])⟩) ?_;rintro v Mo ⟨n,r,e,rfl,rfl⟩ _ _;refine⟨rfl,?_⟩;simp only[e] at f m;refine Fit.aad (by omega) (by omega) ?_;refine⟨(k+1,ds.set o (IC n),r),⟨by omega,fun ns r' h=>?_,fun h=>?_,h3.set rfl,fun p hp=>?_⟩,⟨bn,trivial⟩,⟨.inl ⟨_,rfl,.inl ⟨rfl,rfl⟩⟩,.inl ⟨_,rfl,.inl ⟨rfl,rfl⟩⟩,trivial⟩,bq d⟩
  ·obtain⟨b,u,q⟩:=f (n::ns) r' (by simp only[h]);exact⟨b,u,by rw[q];rfl⟩
  ·exact m (by simp only[h])
  ·obtain⟨y,hy⟩:=h4 p hp;exact Lv hy
 ·have l:a.length-k=0:=by omega
  rw[l] at f;obtain⟨b,u,q⟩:=f [] c rfl;rw[List.drop_eq_nil_of_le (by omega)] at q;exact dK [1000,1001] rfl rfl rfl rfl ⟨b,c,u,by rw[q];rfl,rfl⟩
def Un (f:Nat):Prop:=∀(t:Nat) (cs:List C) (a:List Nat) (bs:List UInt8),cG cs->(∀o∈a,∃x,cs[o]?=some (.bool x)) ->
 CallsTX PZ f [.ifo none 86 1000 0,.slo 1001 a] [RB bs,.win t cs [] []] (fun Mo c=>∃ns r,bH oO a.length bs=some (ns,r)/\Mo=[RB r,.win t (CB C.bool cs a ns) [] []]/\c=.tup []) (fun v=>v=fW/\bH oO a.length bs=none)
theorem IE {cs:List C}{o p:Nat}{n x:Bool}(h:cs[p]?=some (.bool x)):∃y,(cs.set o (.bool n))[p]?=some (.bool y):=by
 have a:=(xD.1 h).1
 by_cases b:o=p
 ·subst b;exact⟨n,by simp[a]⟩
 ·exact⟨x,by rw[abN b];exact h⟩
theorem take_one {cs:List C}{o:Nat}{c:C}(h:cs[o]?=some c):(cs.drop o).take 1=[c]:=by
 have a:=(xD.1 h).1;have b:=(xD.1 h).2;rw[abI a,b];rfl
theorem Fz {cs:List C}{o:Nat}{c d:C}(h:cs[o]?=some c):fN cs o [d]=cs.set o d:=by
 rw[GN (d:=d) h];simp[fN]
theorem Uo {cs:List C}{o:Nat}{c:C}(h:cs[o]?=some c):o+1<=cs.length:=(xD.1 h).1
theorem Uq:Un 103:=by
 intro t cs a bs hi ho;refine au Tryz.func103 DT rfl fun hw ao=>?_;have ax:a.length<=9223372036854775807:=by have h:=hw.2.1;simp only[Wf,maxLen] at h;exact h
 refine aZ a.length 9 [] (cs,bs) (fun _=>[]) (fun s=>[(1000,RB s.2),(1001,.win t s.1 [] [])])
  (fun k s=>(∀ns r,bH oO (a.length-k) s.2=some (ns,r)->∃b,bH oO a.length bs=some (b,r)/\CB C.bool cs a b=CB C.bool s.1 (a.drop k) ns)/\(bH oO (a.length-k) s.2=none->bH oO a.length bs=none)/\cG s.1/\∀o∈a,∃x,s.1[o]?=some (.bool x))
  ⟨fun ns r h=>⟨ns,h,rfl⟩,fun h=>h,hi,ho⟩ (aj rfl) trivial ⟨.inl ⟨_,rfl,.inl ⟨rfl,rfl⟩⟩,.inl ⟨_,rfl,.inl ⟨rfl,rfl⟩⟩,trivial⟩ (fun _=>rfl) (fun _=>rfl) ?_
 rintro k ⟨ds,c⟩ hk ⟨j,f,h3,h4⟩ _ _ ae;refine aK (fun d=>?_) (fun m=>?_)
 ·have d:k<a.length:=by omega
  refine fC d fun o ad ac hd=>?_;have l:a.length-k=(a.length-(k+1))+1:=by omega
  simp only[l,hd,bH] at j f;refine rI (h4 o ac) fun x w=>?_;refine⟨by omega,by omega,?_⟩;refine⟨o,ad,?_⟩;refine⟨.inr ⟨_,take_one w,rfl,?_⟩⟩;refine af (fun _=>?_) (fun _=>?_)
  all_goals
   refine⟨164,Sv,?_⟩;refine ck [1000,6] (Ss.box 3 _ c) rfl rfl rfl rfl (fun v ⟨e,h⟩=>⟨e,f (by simp only[oO,h])⟩) ?_;rintro v Mo ⟨n,r,e,rfl,rfl⟩ _ _;refine⟨rfl,?_⟩;have hb:oO c=if n=0\/n=1 then some (decide (n=1),r) else none:=by simp only[oO,e]
   refine aK (fun hn=>?_) (fun hn=>?_)
  all_goals
   refine vV (u9 _) rfl (fun h=>?_) fun h=>?_
   ·first
     | cases h
     | (have h:=abu h
        exact⟨rfl,f (by rw[hb,vv (fun q=>q.elim hn h)])⟩)
   have z:n=0\/n=1:=by first | exact .inl hn | exact .inr (aa7 h)
   rw[o6 z] at hb;simp only[hb] at j f;refine⟨.inr ⟨ds.set o (.bool (decide (n=1))),Uo w,rfl,Fz w,?_⟩⟩;refine Fit.aad (by omega) (by omega) ?_;refine⟨(k+1,ds.set o (.bool (decide (n=1))),r),⟨by omega,fun ns r' h=>?_,fun h=>?_,h3.set rfl,fun p hp=>?_⟩,⟨bn,trivial⟩,⟨.inl ⟨_,rfl,.inl ⟨rfl,rfl⟩⟩,.inl ⟨_,rfl,.inl ⟨rfl,rfl⟩⟩,trivial⟩,bq d⟩
   ·obtain⟨b,f1,u⟩:=j (decide (n=1)::ns) r' (by simp only[h]);exact⟨b,f1,by rw[u];rfl⟩
   ·exact f (by simp only[h])
   ·obtain⟨y,hy⟩:=h4 p hp;exact IE hy
 ·have m:a.length-k=0:=by omega
  rw[m] at j;obtain⟨b,f1,u⟩:=j [] c rfl;rw[List.drop_eq_nil_of_le (by omega)] at u;exact dK [1000,1001] rfl rfl rfl rfl ⟨b,c,f1,by rw[u];rfl,rfl⟩
def zL (sz:Nat) (l:List C):Prop:=l.length=sz/\dZ l=true/\eH l=true
theorem Lw {a:Type}{cs:a->List C}{z:List C}{done:List a}{n k:Nat}{x:a}(b:done.length=k) (c:k<n) :
  (done.map cs++List.replicate (n-done.length) z).set k (cs x)=(done++[x]).map cs++List.replicate (n-(done++[x]).length) z:=by
 subst b;rw[show n-done.length=(n-(done++[x]).length)+1 by simp;omega,abD,List.set_append_right _ _ (by simp)];simp
theorem iP {α:Type}{f:Nat}{fi ca:List C}{b:Dec α}{z:List C}{cs:α->List C}{sz e:Nat}(hd:iq f fi ca b z cs) (he:nK PZ f) (ad:Mx e=true)
  (ag:∀c∈fi++.ifo none 86 1000 0::ca,c.kill 1001=c/\s6 1001 sz c=c) (d:∀x,zL sz (cs x)) (hz:zL sz z) {n k:Nat}{done:List α}(hk:done.length=k) (al:k<n) (a:List UInt8) :
  lV PZ f (fi++.ifo none 86 1000 0::.elr 1001 k 0::ca) [RB a,.row e sz (done.map cs++List.replicate (n-done.length) z)]
   (fun Mo c=>∃x r,b a=some (x,r)/\Mo=[RB r,.row e sz ((done++[x]).map cs++List.replicate (n-(done++[x]).length) z)]/\c=.tup []) (fun v=>v=fW/\b a=none):=by
 have o:∀l∈done.map cs++List.replicate (n-done.length) z,zL sz l:=by
  intro l m;rcases xo.1 m with m | m
  ·obtain⟨x,_,rfl⟩:=abk.1 m;exact d x
  ·rw[List.eq_of_mem_replicate m];exact hz
 have hj:(done.map cs++List.replicate (n-done.length) z)[k]?=some z:=by
  subst hk;rw[aa4 (by simp),aa6,Nat.sub_self,List.getElem?_replicate,o6 (by omega)]
 have:=CallsTX.aaK (A:=RB a) (R:=fun A' es' c=>∃x r,b a=some (x,r)/\A'=RB r/\es'=cs x/\c=.tup []) (Pp:=fun v=>v=fW/\b a=none) he ad rfl ⟨_,_,rfl⟩ ag hj o
  (fun pre post h1 y=>(hd e pre post a h1 y).imp (fun Mo c ⟨x,r,t,p,s⟩=>⟨RB r,cs x,p,x,r,t,rfl,rfl,s⟩) fun _ h=>h)
  (fun A' es' c ⟨x,r,t,p,s,u⟩=>by
   subst p s u;refine⟨(d x).1,(d x).2.1,(d x).2.2,rfl,fun F L L' v h=>?_⟩;simp only[Rel] at h ⊢;exact h)
 refine⟨fun F Li vs h1 y h3=>?_⟩;have q:=this.out F Li vs h1 y h3;have j:∀{F':aF}{Lo:List Own}{v:Value},iB Li (fun Mo c=>∃A' es',Mo=[A',.row e sz ((done.map cs++List.replicate (n-done.length) z).set k es')]/\∃x r,b a=some (x,r)/\A'=RB r/\es'=cs x/\c=.tup []) F' Lo v ->
   iB Li (fun Mo c=>∃x r,b a=some (x,r)/\Mo=[RB r,.row e sz ((done++[x]).map cs++List.replicate (n-(done++[x]).length) z)]/\c=.tup []) F' Lo v:=by
  rintro F' Lo v ⟨Mo,c,t,p,s,u,A',es',rfl,x,r,e1,rfl,rfl,rfl⟩;exact⟨_,_,t,p,s,u,x,r,e1,by rw[Lw hk al],rfl⟩
 exact⟨q.ent,fun F G L v ac r=>⟨iB.aao _ _ _ _ ac r.1,r.2⟩,fun w hs=>(q.run w hs).mono fun _ _ k=>k.imp (fun⟨v,F',Lo,e1,e2,e3,e4,e5⟩=>⟨v,F',Lo,e1,e2,e3,j e4,e5⟩) id⟩
theorem lQ {bs r:List UInt8}{n:Nat}(h:z9 bs=some (n,r)):n<=100000:=by
 unfold z9 at h;split at h
 ·split at h
  ·injection h with h
   injection h with h1 h2
   omega
  ·cases h
 ·cases h
end Go.Fr.Tryz
