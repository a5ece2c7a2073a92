/- Part of the proofs of the statements of this seat. -/
import Derived.Test.YtnlegbokpofcaaaGreatDoorSpW1G
set_option maxRecDepth 10000
set_option linter.unusedVariables false
set_option linter.unusedSimpArgs false
namespace Go.Fr.Tryz
open Go Go.RowKit Go.Proofs Go.Fr Go.Fr.T Go.Fr.Api
theorem j9 (z:Nat):1<=(bR z).length:=by
 rw[bR];split<;>simp
theorem Cj (m:Nat):IntKind.wrap .u8 (128+(m:Int).tmod 128)=((UInt8.ofNat (128+m % 128)).toNat:Int):=by
 rw[show(128+(m:Int).tmod 128)=((128+m % 128:Nat):Int) from rfl,UInt8.toNat_ofNat'];simp only[IntKind.wrap,IntKind.bits,IntKind.signed,abJ,Nat.reducePow,Int.reducePow];simp
theorem Ck (m:Nat):IntKind.wrap .u8 (m:Int)=((UInt8.ofNat m).toNat:Int):=by
 rw[UInt8.toNat_ofNat'];simp only[IntKind.wrap,IntKind.bits,IntKind.signed,abJ,Nat.reducePow,Int.reducePow];simp
theorem Sc (t:Nat) (bs:List UInt8):CallsT PZ 50 [.own 1000 0] [.box t [.sl (af bs),IC 0,.int .i8 0]] (iQ [.box t [.sl (af bs),IC 0,.int .i8 0]] (.sl (af bs))):=by
 refine au Tryz.func50 Od rfl fun c b=>?_;have a:(af bs).length=bs.length:=aO;refine Bw.mk (abe 0) (by omega) (abe _) eJ ?_;refine zA [1000] rfl rfl rfl (j3 C.sl (?_:((af bs).drop 0).take (((af bs).length:Int).toNat-0)=af bs));rw[gG,a];simp
theorem Ua (t:Nat) (bs:List UInt8) (n:Int) (k:-2305843009213693952<=n) (o:n<=2305843009213693952) (hb:bs.length+(bR (zz n)).length<=70368744177664):CallsT PZ 63 [.own 1000 0,IC n] (WB t bs) (iQ (WB t (bs++bR (zz n))) (.tup [])):=by
 refine au Tryz.func63 Oi rfl fun l p=>?_;have j:zz n<=4611686018427387904:=by unfold zz;split<;>omega
 refine Fit.aae (by omega) (by omega) ?_;refine aM (fun f=>?_) (fun e=>?_)
 ·refine Fit.aae (by omega) (by omega) ?_;refine Fit.aae (by omega) (by omega) ?_;refine x7.mk ⟨Nat×List UInt8,(zz n,bs),fun y=>y.1<=4611686018427387904/\y.2++bR y.1=bs++bR (zz n),[4],fun y=>[.int .i64 y.1],fun y=>Ff t y.2,fun y=>y.1,⟨j,rfl⟩,⟨.inr (.inl ⟨?_,rfl⟩),trivial⟩,
   ⟨.inl ⟨_,rfl,.inl ⟨rfl,rfl⟩⟩,.inl ⟨_,rfl,.inl ⟨rfl,rfl⟩⟩,trivial⟩,fun _=>rfl,fun _=>rfl,?_⟩
  ·exact j3 (C.int .i64) (by unfold zz;rw[eu f];omega)
  rintro⟨m,done⟩ ⟨d,a⟩ _ _;simp only at a d;have h:done.length+(bR m).length<=70368744177664:=by
   have:=j3 List.length a;simp only[yo] at this;omega
  have k:=j9 m;refine aM (fun c=>?_) (fun c=>?_)
  ·have c:128<=m:=by have:(128:Int)<=(m:Int):=c;omega
   have b:bR m=UInt8.ofNat (128+m % 128)::bR (m / 128):=by rw[bR,dif_neg (by omega)]
   refine mr.mk (by omega) ?_;refine Fit.to (m:=128+(m:Int).tmod 128) (bT (by rw[show(m:Int).tmod 128=((m % 128:Nat):Int) from rfl];omega) (by rw[show(m:Int).tmod 128=((m % 128:Nat):Int) from rfl];omega)) ?_;refine Fit.to (Cj m) ?_;refine callO [1000,1001] [1000,1001] (AO t [] rfl done (UInt8.ofNat (128+m % 128)) (by omega)) rfl rfl rfl rfl rfl fun _ _=>?_;refine mr.mk (by omega) ?_;refine Fit.to (m:=((m / 128:Nat):Int)) (by show IntKind.wrap .i64 ((m / 128:Nat):Int)=_;exact bT (by omega) (by omega)) ?_;refine⟨(m / 128,done++[UInt8.ofNat (128+m % 128)]),⟨?_,?_⟩,⟨.inr (.inl ⟨rfl,rfl⟩),trivial⟩,⟨.inl ⟨_,rfl,.inl ⟨rfl,rfl⟩⟩,.inl ⟨_,rfl,.inl ⟨rfl,rfl⟩⟩,trivial⟩,?_⟩
   ·show m / 128<=_;omega
   ·show done++[UInt8.ofNat (128+m % 128)]++bR (m / 128)=bs++bR (zz n);rw[<-a,b];simp
   ·show m / 128<m;omega
  ·have c:m<128:=by have:¬(128:Int)<=(m:Int):=c;omega
   have b:bR m=[UInt8.ofNat m]:=by rw[bR,dif_pos c]
   refine Fit.to (Ck m) ?_;refine callO [1000,1001] [1000,1001] (AO t [] rfl done (UInt8.ofNat m) (by omega)) rfl rfl rfl rfl rfl fun _ _=>?_;exact zA [1000,1001] rfl rfl (j3 (WB t) (by rw[<-a,b])) rfl
 ·refine x7.mk ⟨Nat×List UInt8,(zz n,bs),fun y=>y.1<=4611686018427387904/\y.2++bR y.1=bs++bR (zz n),[4],fun y=>[.int .i64 y.1],fun y=>Ff t y.2,fun y=>y.1,⟨j,rfl⟩,⟨.inr (.inl ⟨?_,rfl⟩),trivial⟩,
   ⟨.inl ⟨_,rfl,.inl ⟨rfl,rfl⟩⟩,.inl ⟨_,rfl,.inl ⟨rfl,rfl⟩⟩,trivial⟩,fun _=>rfl,fun _=>rfl,?_⟩
  ·exact j3 (C.int .i64) (by unfold zz;rw[o6 e];omega)
  rintro⟨m,done⟩ ⟨d,a⟩ _ _;simp only at a d;have h:done.length+(bR m).length<=70368744177664:=by
   have:=j3 List.length a;simp only[yo] at this;omega
  have k:=j9 m;refine aM (fun c=>?_) (fun c=>?_)
  ·have c:128<=m:=by have:(128:Int)<=(m:Int):=c;omega
   have b:bR m=UInt8.ofNat (128+m % 128)::bR (m / 128):=by rw[bR,dif_neg (by omega)]
   refine mr.mk (by omega) ?_;refine Fit.to (m:=128+(m:Int).tmod 128) (bT (by rw[show(m:Int).tmod 128=((m % 128:Nat):Int) from rfl];omega) (by rw[show(m:Int).tmod 128=((m % 128:Nat):Int) from rfl];omega)) ?_;refine Fit.to (Cj m) ?_;refine callO [1000,1001] [1000,1001] (AO t [] rfl done (UInt8.ofNat (128+m % 128)) (by omega)) rfl rfl rfl rfl rfl fun _ _=>?_;refine mr.mk (by omega) ?_;refine Fit.to (m:=((m / 128:Nat):Int)) (by show IntKind.wrap .i64 ((m / 128:Nat):Int)=_;exact bT (by omega) (by omega)) ?_;refine⟨(m / 128,done++[UInt8.ofNat (128+m % 128)]),⟨?_,?_⟩,⟨.inr (.inl ⟨rfl,rfl⟩),trivial⟩,⟨.inl ⟨_,rfl,.inl ⟨rfl,rfl⟩⟩,.inl ⟨_,rfl,.inl ⟨rfl,rfl⟩⟩,trivial⟩,?_⟩
   ·show m / 128<=_;omega
   ·show done++[UInt8.ofNat (128+m % 128)]++bR (m / 128)=bs++bR (zz n);rw[<-a,b];simp
   ·show m / 128<m;omega
  ·have c:m<128:=by have:¬(128:Int)<=(m:Int):=c;omega
   have b:bR m=[UInt8.ofNat m]:=by rw[bR,dif_pos c]
   refine Fit.to (Ck m) ?_;refine callO [1000,1001] [1000,1001] (AO t [] rfl done (UInt8.ofNat m) (by omega)) rfl rfl rfl rfl rfl fun _ _=>?_;exact zA [1000,1001] rfl rfl (j3 (WB t) (by rw[<-a,b])) rfl
theorem Xp (n:Int):fC kW 167 [.own 1000 0,.pt [IC n] 0] (kW.num n):=by
 intro bs hb;have hb:bs.length+(bR (zz n)).length<=70368744177664:=hb;refine ak Tryz.func167 DP rfl fun c b=>?_;refine aM (fun a=>?_) (fun a=>?_)
 ·have a:-1099511627776<=n:=a;refine vM (uY (decide (n<=1099511627776))) rfl (fun h=>⟨rfl,?_⟩) fun h=>?_
  ·show(decide (-1099511627776<=n)&&decide (n<=1099511627776))=false;rw[h,abq]
  ·have h:=aa4 h;refine callO [1000,1001] [1000,1001] (Ua 108 bs n (by omega) (by omega) hb) rfl rfl rfl rfl rfl fun _ _=>?_;refine di [1000,1001] rfl rfl rfl rfl ⟨?_,rfl,rfl⟩;show(decide (-1099511627776<=n)&&decide (n<=1099511627776))=true;simp[a,h]
 ·have a:¬-1099511627776<=n:=a;refine vM (uY false) rfl (fun h=>⟨rfl,?_⟩) fun h=>by cases h
  show(decide (-1099511627776<=n)&&decide (n<=1099511627776))=false;simp[a]
theorem Xq (n:Nat):Vj kW 168 [.own 1000 0,IC n] (kW.siz n) (IC n):=by
 intro bs hb;have hb:bs.length+(bR (zz n)).length<=70368744177664:=hb;refine ak Tryz.func168 KS rfl fun b a=>?_;refine vM (uY (decide ((n:Int)<=100000))) rfl (fun h=>⟨rfl,h⟩) fun h=>?_;have c:=aa4 h;refine callO [1000,1001] [1000,1001] (Ua 108 bs n (by omega) (by omega) hb) rfl rfl rfl rfl rfl fun _ _=>?_;exact di [1000,1001] rfl rfl rfl rfl ⟨h,rfl,rfl⟩
def zN (n:Int) (k:Nat):UInt8:=UInt8.ofNat ((n.fdiv (2 ^ (8*k))).emod 256).toNat
theorem DZ (n:Int) (k:Nat) (h:k<8):(Er n).take (k+1)=(Er n).take k++[zN n k]:=by
 have a:(Er n).length=8:=by simp[Er]
 rw[List.take_add_one,v7 (by omega)];simp[Er,zN]
theorem Qg (n:Int) (k:Nat):IntKind.wrap .u8 (n.fdiv (2 ^ (8*k)))=((zN n k).toNat:Int):=by
 unfold zN;rw[UInt8.toNat_ofNat'];have a:0<=(n.fdiv (2 ^ (8*k))).emod 256:=Int.emod_nonneg _ (by omega);have b:(n.fdiv (2 ^ (8*k))).emod 256<256:=Int.emod_lt_of_pos _ (by omega);generalize n.fdiv (2 ^ (8*k))=z at a b ⊢;simp only[IntKind.wrap,IntKind.bits,IntKind.signed,abJ,Nat.reducePow,Int.reducePow];have c:z.emod 256=z % 256:=rfl;rw[c] at a b ⊢;simp;omega
theorem Ub (n:Int):fC kL 169 [.own 1000 0,.pt [IC n] 0] (kL.num n):=by
 intro bs hb;have hb:bs.length+(Er n).length<=70368744177664:=hb;have e:(Er n).length=8:=by simp[Er]
 refine ak Tryz.func169 DQ rfl fun j h=>?_;refine bw 8 5 [] bs (fun _=>[]) (fun s=>Ff 124 s) (fun k s=>s=bs++(Er n).take k) (by simp) (ah rfl) trivial ⟨.inl ⟨_,rfl,.inl ⟨rfl,rfl⟩⟩,.inl ⟨_,rfl,.inl ⟨rfl,rfl⟩⟩,trivial⟩ (fun _=>rfl) (fun _=>rfl) ?_;rintro k s l c _ _ _;have f:s.length=bs.length+k:=by rw[c];simp[e];omega
 refine aM (fun a=>?_) (fun b=>?_)
 ·have a:k<8:=by omega
  refine Fit.aae (by omega) (by omega) ?_;refine⟨by omega,?_⟩;have d:min ((8:Int)*(k:Int)).toNat 64=8*k:=by omega
  refine Fit.to (m:=((zN n k).toNat:Int)) (by rw[show(min ((8:Int)*(k:Int)).toNat IntKind.i64.bits)=min ((8:Int)*(k:Int)).toNat 64 from rfl,d];exact Qg n k) ?_;refine BQ [1000,1001] [1000,1001] (AO 124 [] rfl s (zN n k) (by omega)) rfl rfl rfl rfl rfl fun _ _=>?_;refine Fit.aae (by omega) (by omega) ?_;exact⟨(k+1,s++[zN n k]),⟨by omega,by rw[c,DZ n k a];simp⟩,⟨bE,trivial⟩,⟨.inl ⟨_,rfl,.inl ⟨rfl,rfl⟩⟩,.inl ⟨_,rfl,.inl ⟨rfl,rfl⟩⟩,trivial⟩,bF a⟩
 ·have b:k=8:=by omega
  subst b;refine di [1000,1001] rfl rfl rfl rfl ⟨rfl,?_,rfl⟩;refine j3 (WB 124) ?_;rw[c,abv (by omega)];rfl
theorem Xr (n:Nat):Vj kL 170 [.own 1000 0,IC n] (kL.siz n) (IC n):=by
 intro bs hb;have b:CallsT PZ 169 [.own 1000 0,.pt [IC n] 0] (WB 124 bs) (iQ (WB 124 (bs++Er n)) (.tup [])):=CallsTX.noPan ((Ub n bs hb).imp (fun Mo c ⟨_,a,d⟩=>⟨a,d⟩) fun v ⟨_,h⟩=>by cases h);refine ak Tryz.func170 KT rfl fun f e=>?_;refine callO [1000,1001] [1000,1001] b rfl rfl rfl rfl rfl fun _ _=>?_;exact di [1000,1001] rfl rfl rfl rfl ⟨rfl,rfl,rfl⟩
def Xt (k:Kd) (f:Nat) (n:Int):Prop:=∀bs,bs.length+(k.num n).1.length<=70368744177664 ->
 CallsTX PZ f [.own 1000 0,.own 1002 0] (WB k.tb bs++[.box 3 [IC n]]) (fun Mo c=>(k.num n).2=true/\Mo=WB k.tb (bs++(k.num n).1)++[.box 3 [IC n]]/\c=.tup []) (fun v=>v=fG/\(k.num n).2=false)
theorem Uc (n:Int):Xt kW 167 n:=by
 intro bs hb;have hb:bs.length+(bR (zz n)).length<=70368744177664:=hb;refine ak Tryz.func167 DP rfl fun c b=>?_;refine aM (fun a=>?_) (fun a=>?_)
 ·have a:-1099511627776<=n:=a;refine vM (uY (decide (n<=1099511627776))) rfl (fun h=>⟨rfl,?_⟩) fun h=>?_
  ·show(decide (-1099511627776<=n)&&decide (n<=1099511627776))=false;rw[h,abq]
  ·have h:=aa4 h;refine callO [1000,1001] [1000,1001] (Ua 108 bs n (by omega) (by omega) hb) rfl rfl rfl rfl rfl fun _ _=>?_;refine di [1000,1001,1002] rfl rfl rfl rfl ⟨?_,rfl,rfl⟩;show(decide (-1099511627776<=n)&&decide (n<=1099511627776))=true;simp[a,h]
 ·have a:¬-1099511627776<=n:=a;refine vM (uY false) rfl (fun h=>⟨rfl,?_⟩) fun h=>by cases h
  show(decide (-1099511627776<=n)&&decide (n<=1099511627776))=false;simp[a]
theorem Ud (n:Int):Xt kL 169 n:=by
 intro bs hb;have hb:bs.length+(Er n).length<=70368744177664:=hb;have e:(Er n).length=8:=by simp[Er]
 refine ak Tryz.func169 DQ rfl fun j h=>?_;refine bw 8 5 [] bs (fun _=>[]) (fun s=>[(1000,.box 124 [.rw 1001,IC 0,.int .i8 0]),(1001,.row 5 1 (af s)),(1002,.box 3 [IC n])]) (fun k s=>s=bs++(Er n).take k) (by simp) (ah rfl) trivial ⟨.inl ⟨_,rfl,.inl ⟨rfl,rfl⟩⟩,.inl ⟨_,rfl,.inl ⟨rfl,rfl⟩⟩,.inl ⟨_,rfl,.inl ⟨rfl,rfl⟩⟩,trivial⟩ (fun _=>rfl) (fun _=>rfl) ?_;rintro k s l c _ _ _;have f:s.length=bs.length+k:=by rw[c];simp[e];omega
 refine aM (fun a=>?_) (fun b=>?_)
 ·have a:k<8:=by omega
  refine Fit.aae (by omega) (by omega) ?_;refine⟨by omega,?_⟩;have d:min ((8:Int)*(k:Int)).toNat 64=8*k:=by omega
  refine Fit.to (m:=((zN n k).toNat:Int)) (by rw[show(min ((8:Int)*(k:Int)).toNat IntKind.i64.bits)=min ((8:Int)*(k:Int)).toNat 64 from rfl,d];exact Qg n k) ?_;refine BQ [1000,1001] [1000,1001] (AO 124 [] rfl s (zN n k) (by omega)) rfl rfl rfl rfl rfl fun _ _=>?_;refine Fit.aae (by omega) (by omega) ?_;exact⟨(k+1,s++[zN n k]),⟨by omega,by rw[c,DZ n k a];simp⟩,⟨bE,trivial⟩,⟨.inl ⟨_,rfl,.inl ⟨rfl,rfl⟩⟩,.inl ⟨_,rfl,.inl ⟨rfl,rfl⟩⟩,.inl ⟨_,rfl,.inl ⟨rfl,rfl⟩⟩,trivial⟩,bF a⟩
 ·have b:k=8:=by omega
  subst b;refine di [1000,1001,1002] rfl rfl rfl rfl ⟨rfl,?_,rfl⟩;refine j3 (fun q=>WB 124 q++[.box 3 [IC n]]) ?_;rw[c,abv (by omega)];rfl
theorem YR (n:Int) (bs:List UInt8):OV 87 [.own 1000 0,IC n] bs (takeD n bs) (fun b=>.sl (af b)):=by
 refine ak Tryz.func87 Ox rfl fun j e=>?_;have f:bs.length<=9223372036854775807:=by
  have:=e _ (abu.2 rfl);exact wR this.1
 have a:(af bs).length=bs.length:=aO;refine aM (fun d=>?_) (fun d=>?_)
 ·refine vM (uY (decide (n<=(af bs).length))) rfl (fun h=>⟨rfl,?_⟩) fun c=>?_
  ·rw[a] at h;have:=abt h;simp only[takeD];rw[o6 (fun q=>this q.2)]
  ·rw[a] at c;have c:=aa4 c;refine Bw.mk (abe 0) d (by rw[a];exact c) eJ ?_;refine Bw.mk d (by rw[a];exact c) (abe _) eJ ?_;refine di [1000] rfl rfl rfl rfl ⟨_,_,AL d c,?_,?_⟩
   ·refine j3 (fun q=>[TO.box 88 [C.sl q]]) (?_:((af bs).drop n.toNat).take (((af bs).length:Int).toNat-n.toNat)=af (bs.drop n.toNat));rw[gG,a,abv (by simp)]
   ·refine j3 C.sl (?_:((af bs).drop 0).take (n.toNat-0)=af (bs.take n.toNat));rw[gG];simp
 ·refine vM (uY false) rfl (fun h=>⟨rfl,?_⟩) fun c=>by cases c
  simp only[takeD];rw[o6 (fun q=>d q.1)]
theorem uP {n:Nat}(h:n<9223372036854775808):IntKind.wrap .i64 (n:Int)=n:=by
 simp only[IntKind.wrap,IntKind.bits,IntKind.signed,abG,abo,ge_iff_le,Nat.reduceSub,Int.reducePow];split<;>omega
theorem or_eq {z c k:Nat}(a:z<128 ^ k) (f:c<128) (h:k<6):IntKind.wrap .i64 ((BitVec.ofInt 64 (z:Int) ||| BitVec.ofInt 64 (((c*128 ^ k:Nat)):Int)).toNat:Int)=((z+c*128 ^ k:Nat):Int):=by
 have d:128 ^ k=2 ^ (7*k):=by rw[Nat.pow_mul]
 have hb:128 ^ k<=128 ^ 5:=Nat.pow_le_pow_right (by omega) (by omega);have b:c*128 ^ k<=127*128 ^ 5:=Nat.mul_le_mul (by omega) hb;have e:(BitVec.ofInt 64 (z:Int) ||| BitVec.ofInt 64 ((c*128 ^ k:Nat):Int)).toNat=z+c*128 ^ k:=by
  rw[BitVec.toNat_or,BitVec.ofInt_natCast,BitVec.ofInt_natCast,BitVec.toNat_ofNat,BitVec.toNat_ofNat,Nat.mod_eq_of_lt (by omega),Nat.mod_eq_of_lt (by omega)];rw[d] at a ⊢;rw[Nat.or_comm,Nat.mul_comm,<-Nat.two_pow_add_eq_or_of_lt a];omega
 rw[e];exact uP (by omega)
theorem xor_eq {z:Nat}(a:z<9223372036854775808):IntKind.wrap .i64 ((BitVec.ofInt 64 ((z / 2:Nat):Int) ^^^ BitVec.ofInt 64 (0-((z % 2:Nat):Int))).toNat:Int)=IW z:=by
 unfold IW;rcases Nat.mod_two_eq_zero_or_one z with h | h
 ·rw[h,eu rfl];have e:(BitVec.ofInt 64 ((z / 2:Nat):Int) ^^^ BitVec.ofInt 64 (0-((0:Nat):Int))).toNat=z / 2:=by
   rw[show(0-((0:Nat):Int))=((0:Nat):Int) from rfl,BitVec.ofInt_natCast,BitVec.ofInt_natCast];simp;omega
  rw[e];exact uP (by omega)
 ·rw[h,o6 (by omega)];have e:(BitVec.ofInt 64 ((z / 2:Nat):Int) ^^^ BitVec.ofInt 64 (0-((1:Nat):Int))).toNat=18446744073709551615-z / 2:=by
   have:BitVec.ofInt 64 (0-((1:Nat):Int))=BitVec.allOnes 64:=by decide
   rw[this,BitVec.ofInt_natCast,BitVec.xor_allOnes,BitVec.toNat_not,BitVec.toNat_ofNat,Nat.mod_eq_of_lt (by omega)]
  rw[e];simp only[IntKind.wrap,IntKind.bits,IntKind.signed,abG,abo,ge_iff_le,Nat.reduceSub,Int.reducePow];split<;>omega
def RL (bs:List UInt8):TL:=[(1000,RB bs)]
theorem take1 {x:UInt8}{r:List UInt8}:takeD 1 (x::r)=some ([x],r):=by
 rw[AL (by omega) (by simp only[aaV];omega)];rfl
theorem Iu:takeD 1 []=none:=by simp[takeD]
theorem rn {d:Type}{PS:qw}{L:TL}{ρ:aV}(b:Nat) {f:Nat}{args a:List C}{bs:List UInt8}{o:Option (d×List UInt8)}{cell:d->C}{K:TL->aV->C->Prop}(h:OV f a bs o cell)
  (j:L.sub [b]=some [RB bs]) (t:T.mE L [b] [b]=true) (s:(args.map fun c=>c.aaj.ren (bZ [b] 1000))=a) (p:o=none->PS.ps fG)
  (k:∀y r,o=some (y,r)->Wf (cell y)->K (((L.aaf [b]).kills (rowsOf L [b])).puts [b] [RB r]) (fw (rowsOf L [b]) ρ) ((cell y).ren (aZ [b])).slt) (n:lW L [b] PS.hb=true:=by rfl):pR PZ PS f args L ρ K :=
 bW [b] h j (by simp[t,aT,RB];rfl) s rfl (fun v ⟨e,h⟩=>e▸p h) (fun v Mo ⟨y,r,q,l,u⟩ m _=>by subst l u;exact⟨rfl,k y r q m⟩) n
theorem Qh (bs:List UInt8):OV 44 [.own 1000 0] bs (getD bs) IC:=by
 refine ak Tryz.func44 N7 rfl fun hw ho=>?_;refine bw 6 6 [3] ((0,bs):Nat×List UInt8) (fun s=>[IC s.1]) (fun s=>RL s.2) (fun k s=>lO (6-k) k s.1 s.2=getD bs/\s.1<128 ^ k) ⟨rfl,by simp⟩ (ah rfl) ⟨ah rfl,trivial⟩ ⟨.inl ⟨_,rfl,.inl ⟨rfl,rfl⟩⟩,trivial⟩ (fun _=>rfl) (fun _=>rfl) ?_;rintro k ⟨z,c⟩ hk ⟨a,hz⟩ _ _ _;refine aM (fun n=>?_) (fun t=>?_)
 ·have n:k<6:=by omega
  refine rn 1000 (YR 1 c) rfl rfl rfl (fun h=>?_) fun y r e _=>?_
  ·refine⟨rfl,?_⟩;cases c with
   | nil=>rw[<-a,show 6-k=(5-k)+1 by omega];rfl
   | cons x r=>rw[take1] at h;cases h
  cases c with
  | nil=>rw[Iu] at e;cases e
  | cons x w =>
   rw[take1] at e;injection e with e
   injection e with e1 e2
   subst e1 e2;refine Rz (k:=0) (x:=x) rfl ?_;have hx:=x.toNat_lt;refine Fit.aae (by omega) (by omega) ?_;refine mr.mk (by omega) ?_;have hc:x.toNat % 128<128:=Nat.mod_lt _ (by omega);have p:128 ^ k<=128 ^ 5:=Nat.pow_le_pow_right (by omega) (by omega);have hm:x.toNat % 128*128 ^ k<=127*128 ^ 5:=Nat.mul_le_mul (by omega) p;have aa:((x.toNat:Nat):Int).tmod 128*2 ^ (min ((7:Int)*(k:Int)).toNat 64)=((x.toNat % 128*128 ^ k:Nat):Int):=by
    rw[Int.tmod_eq_emod_of_nonneg (by omega),show min ((7:Int)*(k:Int)).toNat 64=7*k by omega];rw[show(128:Nat) ^ k=2 ^ (7*k) by rw[Nat.pow_mul]]
    push_cast
    rfl
   have l:=or_eq hz hc n;refine Fit.aae (by omega) (by omega) ?_;refine⟨by omega,Fit.to (m:=((x.toNat % 128*128 ^ k:Nat):Int)) (by rw[show(min ((7:Int)*(k:Int)).toNat IntKind.i64.bits)=min ((7:Int)*(k:Int)).toNat 64 from rfl,aa];exact bT (by omega) (by omega)) ?_⟩;have ab:z+x.toNat % 128*128 ^ k<9223372036854775808:=by
    have:z<128 ^ 5:=abO hz p;omega
   refine aM (fun b=>?_) (fun ac=>?_)
   ·have b:x.toNat<128:=by omega
    have j:x.toNat % 128=x.toNat:=Nat.mod_eq_of_lt b;have v:6-k=(6-(k+1))+1:=by omega
    rw[v] at a;simp only[lO] at a;rw[eu b] at a;have o:=xor_eq ab;have d:IntKind.wrap .i64 ((IntKind.wrap .i64 ((BitVec.ofInt 64 (z:Int) ||| BitVec.ofInt 64 ((x.toNat % 128*128 ^ k:Nat):Int)).toNat:Int)).tdiv 2)=(((z+x.toNat % 128*128 ^ k) / 2:Nat):Int):=by
     rw[l,Int.tdiv_eq_ediv_of_nonneg (by omega)];exact bT (by omega) (by omega)
    have q:0-(IntKind.wrap .i64 ((BitVec.ofInt 64 (z:Int) ||| BitVec.ofInt 64 ((x.toNat % 128*128 ^ k:Nat):Int)).toNat:Int)).tmod 2=0-(((z+x.toNat % 128*128 ^ k) % 2:Nat):Int):=by
     rw[l,Int.tmod_eq_emod_of_nonneg (by omega)];rfl
    have f:IntKind.wrap .i64 (0-(IntKind.wrap .i64 ((BitVec.ofInt 64 (z:Int) ||| BitVec.ofInt 64 ((x.toNat % 128*128 ^ k:Nat):Int)).toNat:Int)).tmod 2)=0-(((z+x.toNat % 128*128 ^ k) % 2:Nat):Int):=by
     rw[q];exact bT (by omega) (by omega)
    refine aM (fun u=>?_) (fun u=>?_)
    ·refine vM (uY true) rfl (fun h=>by cases h) fun _=>?_;rw[eu (.inl (by omega)),<-j] at a;refine mr.mk (by omega) (Fit.to d ?_);refine mr.mk (by omega) (Fit.to f ?_);exact di [1000] rfl rfl rfl (j3 (C.int .i64) o) ⟨_,w,a.symm,rfl,rfl⟩
    ·refine vM (uY (decide ((k:Int)=0))) rfl (fun h=>⟨rfl,?_⟩) fun h=>?_
     ·have h:=abt h;rw[<-a,o6 (by omega)]
     ·have h:=aa4 h;rw[eu (.inr (by omega)),<-j] at a;refine mr.mk (by omega) (Fit.to d ?_);refine mr.mk (by omega) (Fit.to f ?_);exact di [1000] rfl rfl rfl (j3 (C.int .i64) o) ⟨_,w,a.symm,rfl,rfl⟩
   ·refine Fit.aae (by omega) (by omega) ?_;refine⟨(k+1,(z+x.toNat % 128*128 ^ k,w)),⟨by omega,?_,?_⟩,⟨bE,⟨.inr (.inl ⟨j3 C.cel (j3 (C.int .i64) l),rfl⟩),trivial⟩⟩,⟨.inl ⟨_,rfl,.inl ⟨rfl,rfl⟩⟩,trivial⟩,bF n⟩
    ·have v:6-k=(6-(k+1))+1:=by omega
     rw[<-a,v];simp only[lO];rw[o6 (by omega),show x.toNat % 128=x.toNat-128 by omega]
    ·rw[Nat.pow_succ];have:x.toNat % 128*128 ^ k<=127*128 ^ k:=Nat.mul_le_mul_right _ (by omega);simp only[];omega
 ·have t:k=6:=by omega
  subst t;refine Tx rfl ⟨rfl,?_⟩;rw[<-a];rfl
def K9 (f:Nat):Prop:=∀(t:Nat) (pre post:List C) (x:Int) (bs:List UInt8),cq pre->cq post ->
 CallsTX PZ f [.own 1000 0,.own 1001 pre.length] [RB bs,.win t pre [IC x] post] (fun Mo c=>∃n r,gk bs=some (n,r)/\Mo=[RB r,.win t pre [IC n] post]/\c=.tup []) (fun v=>v=fG/\gk bs=none)
theorem Sd:K9 164:=by
 intro t pre post x bs _ _;refine ak Tryz.func164 KQ rfl fun d c=>?_;refine rn 1000 (Qh bs) rfl rfl rfl (fun h=>⟨rfl,by simp only[gk,h]⟩) fun n r e _=>?_;have b:gk bs=if -bound<=n/\n<=bound then some (n,r) else none:=by simp only[gk,e]
 refine⟨.inl ⟨0,rfl,?_⟩⟩;refine⟨.inl ⟨0,rfl,?_⟩⟩;refine aM (fun a=>?_) (fun a=>?_)
 ·have a:-bound<=n:=a;refine⟨.inl ⟨0,rfl,?_⟩⟩;refine vM (uY (decide (n<=bound))) rfl (fun h=>⟨rfl,?_⟩) fun h=>?_
  ·rw[b,o6 (fun q=>abt h q.2)]
  ·exact di [1000,1001] rfl rfl rfl rfl ⟨n,r,by rw[b,eu ⟨a,aa4 h⟩],rfl,rfl⟩
 ·have a:¬-bound<=n:=a;refine vM (uY false) rfl (fun h=>⟨rfl,?_⟩) fun h=>by cases h
  rw[b,o6 (fun q=>a q.1)]
theorem zO (m:Int) (bs:List UInt8):OV 165 [.own 1000 0,IC m] bs (zJ bs) (fun n=>IC n):=by
 refine ak Tryz.func165 KR rfl fun f d=>?_;refine rn 1000 (Qh bs) rfl rfl rfl (fun h=>⟨rfl,by simp only[zJ,h]⟩) fun n r e _=>?_;have b:zJ bs=if 0<=n/\n<=100000/\n<=r.length then some (n.toNat,r) else none:=by simp only[zJ,e]
 refine aM (fun a=>?_) (fun a=>?_)
 ·have a:0<=n:=a;refine aM (fun c=>?_) (fun c=>?_)
  ·refine vM (uY (decide (n<=(af r).length))) rfl (fun h=>⟨rfl,?_⟩) fun h=>?_
   ·have h:=abt h;rw[aO] at h;rw[b,o6 (fun q=>h q.2.2)]
   ·have h:=aa4 h;rw[aO] at h;exact di [1000] rfl rfl rfl (j3 (C.int .i64) (show n=(n.toNat:Int) by omega)) ⟨n.toNat,r,by rw[b,eu ⟨a,c,h⟩],rfl,rfl⟩
  ·refine vM (uY false) rfl (fun h=>⟨rfl,?_⟩) fun h=>by cases h
   rw[b,o6 (fun q=>c q.2.1)]
 ·refine vM (uY false) rfl (fun h=>⟨rfl,?_⟩) fun h=>by cases h
  rw[b,o6 (fun q=>a q.1)]
theorem Se:oI PZ 86 "leasehold/snapshot.num"=some 164:=by kernel_rfl
theorem zP:oI PZ 86 "leasehold/snapshot.size"=some 165:=by kernel_rfl
theorem Lb {cs:List C}{o:Nat}{c:C}(h:cs[o]?=some c):cs=cs.take o++([c]++cs.drop (o+1)):=by
 have a:=(w7.1 h).1;have b:=(w7.1 h).2
 conv=>lhs;rw[<-List.take_append_drop o cs,abD a,b]
 rfl
theorem GA {cs:List C}{o:Nat}{c d:C}(h:cs[o]?=some c):cs.set o d=cs.take o++([d]++cs.drop (o+1)):=by
 have a:=(w7.1 h).1;have b:(cs.set o d)[o]?=some d:=by simp[a]
 have:=Lb b
 rwa [List.take_set_of_le (aa7 o),List.drop_set_of_lt (by omega)] at this
theorem K9.cell {f:Nat}(h:K9 f) (t:Nat) (cs:List C) (o:Nat) (x:Int) (bs:List UInt8) (hi:cq cs) (b:cs[o]?=some (IC x)) :
  CallsTX PZ f [.own 1000 0,.own 1001 o] [RB bs,.win t cs [] []] (fun Mo c=>∃n r,gk bs=some (n,r)/\Mo=[RB r,.win t (cs.set o (IC n)) [] []]/\c=.tup []) (fun v=>v=fG/\gk bs=none):=by
 have a:(cs.take o).length=o:=by have:=(w7.1 b).1;simp;omega
 have d:cq ([]:List C):=fun c j=>by cases j
 have:=h t (cs.take o) (cs.drop (o+1)) x bs (hi.take o) (hi.drop _);rw[a] at this;refine this.view (vw.same (vw.cons (nW (by simpa using Lb b) (hi.take o) (hi.drop _)) (vw.refl []))) ?_ fun _ h=>h;rintro Mo c ⟨n,r,e,rfl,rfl⟩;exact⟨_,vw.same (vw.cons (nW (by simpa using(GA b).symm) (hi.set rfl) d) (vw.refl [])),n,r,e,rfl,rfl⟩
theorem K9.box {f:Nat}(h:K9 f) (t:Nat) (x:Int) (bs:List UInt8) :
  CallsTX PZ f [.own 1000 0,.own 1001 0] [RB bs,.box t [IC x]] (fun Mo c=>∃n r,gk bs=some (n,r)/\Mo=[RB r,.box t [IC n]]/\c=.tup []) (fun v=>v=fG/\gk bs=none):=by
 have a:cq ([]:List C):=fun c b=>by cases b
 refine(h t [] [] x bs a a).view (vw.same (vw.cons (wV rfl a a) (vw.refl []))) ?_ fun _ h=>h;rintro Mo c ⟨n,r,e,rfl,rfl⟩;exact⟨_,vw.same (vw.cons (Ch rfl) (vw.refl [])),n,r,e,rfl,rfl⟩
def Cl {a:Type}(g:a->C):List C->List Nat->List a->List C
 | cs,o::os,n::ns=>Cl g (cs.set o (g n)) os ns
 | cs,_,_=>cs
def Ue (f:Nat):Prop:=∀(t:Nat) (cs:List C) (a:List Nat) (bs:List UInt8),cq cs->(∀o∈a,∃x,cs[o]?=some (IC x)) ->
 CallsTX PZ f [.ifo none 86 1000 0,.slo 1001 a] [RB bs,.win t cs [] []] (fun Mo c=>∃ns r,bA gk a.length bs=some (ns,r)/\Mo=[RB r,.win t (Cl IC cs a ns) [] []]/\c=.tup []) (fun v=>v=fG/\bA gk a.length bs=none)
theorem Lc {cs:List C}{o p:Nat}{n x:Int}(h:cs[p]?=some (IC x)):∃y,(cs.set o (IC n))[p]?=some (IC y):=by
 have a:=(w7.1 h).1
 by_cases b:o=p
 ·subst b;exact⟨n,by simp[a]⟩
 ·exact⟨x,by rw[abK b];exact h⟩
theorem Xu:Ue 85:=by
 intro t cs a bs hi ho;refine ak Tryz.func85 Gp rfl fun hw ao=>?_;have ap:a.length<=9223372036854775807:=by have h:=hw.2.1;simp only[Wf,maxLen] at h;exact h
 refine bw a.length 8 [] (cs,bs) (fun _=>[]) (fun s=>[(1000,RB s.2),(1001,.win t s.1 [] [])])
  (fun k s=>(∀ns r,bA gk (a.length-k) s.2=some (ns,r)->∃b,bA gk a.length bs=some (b,r)/\Cl IC cs a b=Cl IC s.1 (a.drop k) ns)/\(bA gk (a.length-k) s.2=none->bA gk a.length bs=none)/\cq s.1/\∀o∈a,∃x,s.1[o]?=some (IC x))
  ⟨fun ns r h=>⟨ns,h,rfl⟩,fun h=>h,hi,ho⟩ (ah rfl) trivial ⟨.inl ⟨_,rfl,.inl ⟨rfl,rfl⟩⟩,.inl ⟨_,rfl,.inl ⟨rfl,rfl⟩⟩,trivial⟩ (fun _=>rfl) (fun _=>rfl) ?_
 rintro k ⟨ds,c⟩ hk ⟨l,m,h3,h4⟩ _ _ ab;refine aM (fun d=>?_) (fun j=>?_)
 ·have d:k<a.length:=by omega
  refine eU d fun o w z hd=>?_;have f:a.length-k=(a.length-(k+1))+1:=by omega
  simp only[f,hd,bA] at l m;refine rj (h4 o z) fun x hx=>?_;refine⟨by omega,by omega,?_⟩;refine⟨o,w,?_⟩;refine⟨164,Se,?_⟩;refine bW [1000,1001] (Sd.cell t ds o x c h3 hx) rfl rfl rfl rfl (fun v ⟨e,h⟩=>⟨e,m (by simp only[h])⟩) ?_;rintro v Mo ⟨n,r,e,rfl,rfl⟩ _ _;refine⟨rfl,?_⟩;simp only[e] at l m;refine Fit.aae (by omega) (by omega) ?_;refine⟨(k+1,ds.set o (IC n),r),⟨by omega,fun ns r' h=>?_,fun h=>?_,h3.set rfl,fun p hp=>?_⟩,⟨bE,trivial⟩,⟨.inl ⟨_,rfl,.inl ⟨rfl,rfl⟩⟩,.inl ⟨_,rfl,.inl ⟨rfl,rfl⟩⟩,trivial⟩,bF d⟩
  ·obtain⟨b,u,q⟩:=l (n::ns) r' (by simp only[h]);exact⟨b,u,by rw[q];rfl⟩
  ·exact m (by simp only[h])
  ·obtain⟨y,hy⟩:=h4 p hp;exact Lc hy
 ·have j:a.length-k=0:=by omega
  rw[j] at l;obtain⟨b,u,q⟩:=l [] c rfl;rw[List.drop_eq_nil_of_le (by omega)] at q;exact di [1000,1001] rfl rfl rfl rfl ⟨b,c,u,by rw[q];rfl,rfl⟩
def Uf (f:Nat):Prop:=∀(t:Nat) (cs:List C) (a:List Nat) (bs:List UInt8),cq cs->(∀o∈a,∃x,cs[o]?=some (.bool x)) ->
 CallsTX PZ f [.ifo none 86 1000 0,.slo 1001 a] [RB bs,.win t cs [] []] (fun Mo c=>∃ns r,bA oz a.length bs=some (ns,r)/\Mo=[RB r,.win t (Cl C.bool cs a ns) [] []]/\c=.tup []) (fun v=>v=fG/\bA oz a.length bs=none)
theorem Iv {cs:List C}{o p:Nat}{n x:Bool}(h:cs[p]?=some (.bool x)):∃y,(cs.set o (.bool n))[p]?=some (.bool y):=by
 have a:=(w7.1 h).1
 by_cases b:o=p
 ·subst b;exact⟨n,by simp[a]⟩
 ·exact⟨x,by rw[abK b];exact h⟩
theorem take_one {cs:List C}{o:Nat}{c:C}(h:cs[o]?=some c):(cs.drop o).take 1=[c]:=by
 have a:=(w7.1 h).1;have b:=(w7.1 h).2;rw[abD a,b];rfl
theorem Fl {cs:List C}{o:Nat}{c d:C}(h:cs[o]?=some c):fu cs o [d]=cs.set o d:=by
 rw[GA (d:=d) h];simp[fu]
theorem Ug {cs:List C}{o:Nat}{c:C}(h:cs[o]?=some c):o+1<=cs.length:=(w7.1 h).1
theorem Uh:Uf 103:=by
 intro t cs a bs hi ho;refine ak Tryz.func103 DG rfl fun hw av=>?_;have aw:a.length<=9223372036854775807:=by have h:=hw.2.1;simp only[Wf,maxLen] at h;exact h
 refine bw a.length 9 [] (cs,bs) (fun _=>[]) (fun s=>[(1000,RB s.2),(1001,.win t s.1 [] [])])
  (fun k s=>(∀ns r,bA oz (a.length-k) s.2=some (ns,r)->∃b,bA oz a.length bs=some (b,r)/\Cl C.bool cs a b=Cl C.bool s.1 (a.drop k) ns)/\(bA oz (a.length-k) s.2=none->bA oz a.length bs=none)/\cq s.1/\∀o∈a,∃x,s.1[o]?=some (.bool x))
  ⟨fun ns r h=>⟨ns,h,rfl⟩,fun h=>h,hi,ho⟩ (ah rfl) trivial ⟨.inl ⟨_,rfl,.inl ⟨rfl,rfl⟩⟩,.inl ⟨_,rfl,.inl ⟨rfl,rfl⟩⟩,trivial⟩ (fun _=>rfl) (fun _=>rfl) ?_
 rintro k ⟨ds,c⟩ hk ⟨m,j,h3,h4⟩ _ _ ag;refine aM (fun d=>?_) (fun l=>?_)
 ·have d:k<a.length:=by omega
  refine eU d fun o ab ac hd=>?_;have f:a.length-k=(a.length-(k+1))+1:=by omega
  simp only[f,hd,bA] at m j;refine rj (h4 o ac) fun x hx=>?_;refine⟨by omega,by omega,?_⟩;refine⟨o,ab,?_⟩;refine⟨.inr ⟨_,take_one hx,rfl,?_⟩⟩;refine aB (fun _=>?_) (fun _=>?_)
  all_goals
   refine⟨164,Se,?_⟩;refine bW [1000,6] (Sd.box 3 _ c) rfl rfl rfl rfl (fun v ⟨e,h⟩=>⟨e,j (by simp only[oz,h])⟩) ?_;rintro v Mo ⟨n,r,e,rfl,rfl⟩ _ _;refine⟨rfl,?_⟩;have hb:oz c=if n=0\/n=1 then some (decide (n=1),r) else none:=by simp only[oz,e]
   refine aM (fun w=>?_) (fun w=>?_)
  all_goals
   refine vM (uY _) rfl (fun h=>?_) fun h=>?_
   ·first
     | cases h
     | (have h:=abt h
        exact⟨rfl,j (by rw[hb,o6 (fun q=>q.elim w h)])⟩)
   have z:n=0\/n=1:=by first | exact .inl w | exact .inr (aa4 h)
   rw[eu z] at hb;simp only[hb] at m j;refine⟨.inr ⟨ds.set o (.bool (decide (n=1))),Ug hx,rfl,Fl hx,?_⟩⟩;refine Fit.aae (by omega) (by omega) ?_;refine⟨(k+1,ds.set o (.bool (decide (n=1))),r),⟨by omega,fun ns r' h=>?_,fun h=>?_,h3.set rfl,fun p hp=>?_⟩,⟨bE,trivial⟩,⟨.inl ⟨_,rfl,.inl ⟨rfl,rfl⟩⟩,.inl ⟨_,rfl,.inl ⟨rfl,rfl⟩⟩,trivial⟩,bF d⟩
   ·obtain⟨b,f1,u⟩:=m (decide (n=1)::ns) r' (by simp only[h]);exact⟨b,f1,by rw[u];rfl⟩
   ·exact j (by simp only[h])
   ·obtain⟨y,hy⟩:=h4 p hp;exact Iv hy
 ·have l:a.length-k=0:=by omega
  rw[l] at m;obtain⟨b,f1,u⟩:=m [] c rfl;rw[List.drop_eq_nil_of_le (by omega)] at u;exact di [1000,1001] rfl rfl rfl rfl ⟨b,c,f1,by rw[u];rfl,rfl⟩
def zl (sz:Nat) (l:List C):Prop:=l.length=sz/\dJ l=true/\dP l=true
theorem Ld {a:Type}{cs:a->List C}{z:List C}{done:List a}{n k:Nat}{x:a}(c:done.length=k) (b:k<n) :
  (done.map cs++List.replicate (n-done.length) z).set k (cs x)=(done++[x]).map cs++List.replicate (n-(done++[x]).length) z:=by
 subst c;rw[show n-done.length=(n-(done++[x]).length)+1 by simp;omega,abB,List.set_append_right _ _ (by simp)];simp
theorem iy {α:Type}{f:Nat}{fi ca:List C}{b:Dec α}{z:List C}{cs:α->List C}{sz e:Nat}(hd:gS f fi ca b z cs) (he:ni PZ f) (ad:Mn e=true)
  (al:∀c∈fi++.ifo none 86 1000 0::ca,c.kill 1001=c/\sK 1001 sz c=c) (d:∀x,zl sz (cs x)) (hz:zl sz z) {n k:Nat}{done:List α}(hk:done.length=k) (ac:k<n) (a:List UInt8) :
  lp PZ f (fi++.ifo none 86 1000 0::.elr 1001 k 0::ca) [RB a,.row e sz (done.map cs++List.replicate (n-done.length) z)]
   (fun Mo c=>∃x r,b a=some (x,r)/\Mo=[RB r,.row e sz ((done++[x]).map cs++List.replicate (n-(done++[x]).length) z)]/\c=.tup []) (fun v=>v=fG/\b a=none):=by
 have o:∀l∈done.map cs++List.replicate (n-done.length) z,zl sz l:=by
  intro l p;rcases w8.1 p with p | p
  ·obtain⟨x,_,rfl⟩:=abh.1 p;exact d x
  ·rw[List.eq_of_mem_replicate p];exact hz
 have hj:(done.map cs++List.replicate (n-done.length) z)[k]?=some z:=by
  subst hk;rw[aa2 (by simp),aa3,Nat.sub_self,List.getElem?_replicate,eu (by omega)]
 have:=CallsTX.aaK (A:=RB a) (R:=fun A' es' c=>∃x r,b a=some (x,r)/\A'=RB r/\es'=cs x/\c=.tup []) (Pp:=fun v=>v=fG/\b a=none) he ad rfl ⟨_,_,rfl⟩ al hj o
  (fun pre post h1 u=>(hd e pre post a h1 u).imp (fun Mo c ⟨x,r,t,s,m⟩=>⟨RB r,cs x,s,x,r,t,rfl,rfl,m⟩) fun _ h=>h)
  (fun A' es' c ⟨x,r,t,s,m,q4⟩=>by
   subst s m q4;refine⟨(d x).1,(d x).2.1,(d x).2.2,rfl,fun F L L' v h=>?_⟩;simp only[Rel] at h ⊢;exact h)
 refine⟨fun F Li vs h1 u h3=>?_⟩;have q:=this.out F Li vs h1 u h3;have j:∀{F':aD}{Lo:List Own}{v:Value},gW Li (fun Mo c=>∃A' es',Mo=[A',.row e sz ((done.map cs++List.replicate (n-done.length) z).set k es')]/\∃x r,b a=some (x,r)/\A'=RB r/\es'=cs x/\c=.tup []) F' Lo v ->
   gW Li (fun Mo c=>∃x r,b a=some (x,r)/\Mo=[RB r,.row e sz ((done++[x]).map cs++List.replicate (n-(done++[x]).length) z)]/\c=.tup []) F' Lo v:=by
  rintro F' Lo v ⟨Mo,c,t,s,m,q4,A',es',rfl,x,r,y,rfl,rfl,rfl⟩;exact⟨_,_,t,s,m,q4,x,r,y,by rw[Ld hk ac],rfl⟩
 exact⟨q.ent,fun F G L v ag r=>⟨gW.aao _ _ _ _ ag r.1,r.2⟩,fun w hs=>(q.run w hs).mono fun _ _ k=>k.imp (fun⟨v,F',Lo,y,e2,e3,e4,e5⟩=>⟨v,F',Lo,y,e2,e3,j e4,e5⟩) id⟩
theorem ld {bs r:List UInt8}{n:Nat}(h:zJ bs=some (n,r)):n<=100000:=by
 unfold zJ at h;split at h
 ·split at h
  ·injection h with h
   injection h with h1 h2
   omega
  ·cases h
 ·cases h
end Go.Fr.Tryz
