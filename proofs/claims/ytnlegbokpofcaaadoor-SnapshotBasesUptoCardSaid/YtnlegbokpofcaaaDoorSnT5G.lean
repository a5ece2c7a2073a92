/- Part of the proofs of the statements of this seat. -/
import Derived.Test.YtnlegbokpofcaaaDoorSnW1G
set_option maxRecDepth 10000
set_option linter.unusedVariables false
set_option linter.unusedSimpArgs false
namespace Go.Fr.Tryd
open Go Go.RowKit Go.Proofs Go.Fr Go.Fr.T Go.Fr.Api
theorem nM (z:Nat):1<=(bQ z).length:=by
 rw[bQ];split<;>simp
theorem Aa (m:Nat):IntKind.wrap .u8 (128+(m:Int).tmod 128)=((UInt8.ofNat (128+m % 128)).toNat:Int):=by
 rw[show(128+(m:Int).tmod 128)=((128+m % 128:Nat):Int) from rfl,UInt8.toNat_ofNat'];simp only[IntKind.wrap,IntKind.bits,IntKind.signed,X1,Nat.reducePow,Int.reducePow];simp
theorem Ab (m:Nat):IntKind.wrap .u8 (m:Int)=((UInt8.ofNat m).toNat:Int):=by
 rw[UInt8.toNat_ofNat'];simp only[IntKind.wrap,IntKind.bits,IntKind.signed,X1,Nat.reducePow,Int.reducePow];simp
theorem Ny (t:Nat) (bs:List UInt8):CallsT PZ 28 [.own 1000 0] [.box t [.sl (af bs),IC 0,.int .i8 0]] (iK [.box t [.sl (af bs),IC 0,.int .i8 0]] (.sl (af bs))):=by
 refine au Tryd.func28 Ke rfl fun c b=>?_;have a:(af bs).length=bs.length:=aK;refine AZ.mk (Xw 0) (by omega) (Xw _) fA ?_;refine xJ [1000] rfl rfl rfl (p7 C.sl (?_:((af bs).drop 0).take (((af bs).length:Int).toNat-0)=af bs));rw[gq,a];simp
theorem O3 (t:Nat) (bs:List UInt8) (n:Int) (k:-2305843009213693952<=n) (p:n<=2305843009213693952) (hb:bs.length+(bQ (zz n)).length<=70368744177664):CallsT PZ 26 [.own 1000 0,IC n] (WB t bs) (iK (WB t (bs++bQ (zz n))) (.tup [])):=by
 refine au Tryd.func26 Kb rfl fun l o=>?_;have j:zz n<=4611686018427387904:=by unfold zz;split<;>omega
 refine Fit.Wk (by omega) (by omega) ?_;refine aV (fun e=>?_) (fun f=>?_)
 ·refine Fit.Wk (by omega) (by omega) ?_;refine Fit.Wk (by omega) (by omega) ?_;refine vT.mk ⟨Nat×List UInt8,(zz n,bs),fun y=>y.1<=4611686018427387904/\y.2++bQ y.1=bs++bQ (zz n),[4],fun y=>[.int .i64 y.1],fun y=>CW t y.2,fun y=>y.1,⟨j,rfl⟩,⟨.inr (.inl ⟨?_,rfl⟩),trivial⟩,
   ⟨.inl ⟨_,rfl,.inl ⟨rfl,rfl⟩⟩,.inl ⟨_,rfl,.inl ⟨rfl,rfl⟩⟩,trivial⟩,fun _=>rfl,fun _=>rfl,?_⟩
  ·exact p7 (C.int .i64) (by unfold zz;rw[j3 e];omega)
  rintro⟨m,done⟩ ⟨d,a⟩ _ _;simp only at a d;have h:done.length+(bQ m).length<=70368744177664:=by
   have:=p7 List.length a;simp only[W8] at this;omega
  have k:=nM m;refine aV (fun c=>?_) (fun c=>?_)
  ·have c:128<=m:=by have:(128:Int)<=(m:Int):=c;omega
   have b:bQ m=UInt8.ofNat (128+m % 128)::bQ (m / 128):=by rw[bQ,dif_neg (by omega)]
   refine mT.mk (by omega) ?_;refine Fit.to (m:=128+(m:Int).tmod 128) (bM (by rw[show(m:Int).tmod 128=((m % 128:Nat):Int) from rfl];omega) (by rw[show(m:Int).tmod 128=((m % 128:Nat):Int) from rfl];omega)) ?_;refine Fit.to (Aa m) ?_;refine callO [1000,1001] [1000,1001] (Fu t [] rfl done (UInt8.ofNat (128+m % 128)) (by omega)) rfl rfl rfl rfl rfl fun _ _=>?_;refine mT.mk (by omega) ?_;refine Fit.to (m:=((m / 128:Nat):Int)) (by show IntKind.wrap .i64 ((m / 128:Nat):Int)=_;exact bM (by omega) (by omega)) ?_;refine⟨(m / 128,done++[UInt8.ofNat (128+m % 128)]),⟨?_,?_⟩,⟨.inr (.inl ⟨rfl,rfl⟩),trivial⟩,⟨.inl ⟨_,rfl,.inl ⟨rfl,rfl⟩⟩,.inl ⟨_,rfl,.inl ⟨rfl,rfl⟩⟩,trivial⟩,?_⟩
   ·show m / 128<=_;omega
   ·show done++[UInt8.ofNat (128+m % 128)]++bQ (m / 128)=bs++bQ (zz n);rw[<-a,b];simp
   ·show m / 128<m;omega
  ·have c:m<128:=by have:¬(128:Int)<=(m:Int):=c;omega
   have b:bQ m=[UInt8.ofNat m]:=by rw[bQ,dif_pos c]
   refine Fit.to (Ab m) ?_;refine callO [1000,1001] [1000,1001] (Fu t [] rfl done (UInt8.ofNat m) (by omega)) rfl rfl rfl rfl rfl fun _ _=>?_;exact xJ [1000,1001] rfl rfl (p7 (WB t) (by rw[<-a,b])) rfl
 ·refine vT.mk ⟨Nat×List UInt8,(zz n,bs),fun y=>y.1<=4611686018427387904/\y.2++bQ y.1=bs++bQ (zz n),[4],fun y=>[.int .i64 y.1],fun y=>CW t y.2,fun y=>y.1,⟨j,rfl⟩,⟨.inr (.inl ⟨?_,rfl⟩),trivial⟩,
   ⟨.inl ⟨_,rfl,.inl ⟨rfl,rfl⟩⟩,.inl ⟨_,rfl,.inl ⟨rfl,rfl⟩⟩,trivial⟩,fun _=>rfl,fun _=>rfl,?_⟩
  ·exact p7 (C.int .i64) (by unfold zz;rw[vv f];omega)
  rintro⟨m,done⟩ ⟨d,a⟩ _ _;simp only at a d;have h:done.length+(bQ m).length<=70368744177664:=by
   have:=p7 List.length a;simp only[W8] at this;omega
  have k:=nM m;refine aV (fun c=>?_) (fun c=>?_)
  ·have c:128<=m:=by have:(128:Int)<=(m:Int):=c;omega
   have b:bQ m=UInt8.ofNat (128+m % 128)::bQ (m / 128):=by rw[bQ,dif_neg (by omega)]
   refine mT.mk (by omega) ?_;refine Fit.to (m:=128+(m:Int).tmod 128) (bM (by rw[show(m:Int).tmod 128=((m % 128:Nat):Int) from rfl];omega) (by rw[show(m:Int).tmod 128=((m % 128:Nat):Int) from rfl];omega)) ?_;refine Fit.to (Aa m) ?_;refine callO [1000,1001] [1000,1001] (Fu t [] rfl done (UInt8.ofNat (128+m % 128)) (by omega)) rfl rfl rfl rfl rfl fun _ _=>?_;refine mT.mk (by omega) ?_;refine Fit.to (m:=((m / 128:Nat):Int)) (by show IntKind.wrap .i64 ((m / 128:Nat):Int)=_;exact bM (by omega) (by omega)) ?_;refine⟨(m / 128,done++[UInt8.ofNat (128+m % 128)]),⟨?_,?_⟩,⟨.inr (.inl ⟨rfl,rfl⟩),trivial⟩,⟨.inl ⟨_,rfl,.inl ⟨rfl,rfl⟩⟩,.inl ⟨_,rfl,.inl ⟨rfl,rfl⟩⟩,trivial⟩,?_⟩
   ·show m / 128<=_;omega
   ·show done++[UInt8.ofNat (128+m % 128)]++bQ (m / 128)=bs++bQ (zz n);rw[<-a,b];simp
   ·show m / 128<m;omega
  ·have c:m<128:=by have:¬(128:Int)<=(m:Int):=c;omega
   have b:bQ m=[UInt8.ofNat m]:=by rw[bQ,dif_pos c]
   refine Fit.to (Ab m) ?_;refine callO [1000,1001] [1000,1001] (Fu t [] rfl done (UInt8.ofNat m) (by omega)) rfl rfl rfl rfl rfl fun _ _=>?_;exact xJ [1000,1001] rfl rfl (p7 (WB t) (by rw[<-a,b])) rfl
theorem QL (n:Int):eL kW 116 [.own 1000 0,.pt [IC n] 0] (kW.num n):=by
 intro bs hb;have hb:bs.length+(bQ (zz n)).length<=70368744177664:=hb;refine ai Tryd.func116 BD rfl fun c b=>?_;refine aV (fun a=>?_) (fun a=>?_)
 ·have a:-1099511627776<=n:=a;refine tO (sN (decide (n<=1099511627776))) rfl (fun h=>⟨rfl,?_⟩) fun h=>?_
  ·show(decide (-1099511627776<=n)&&decide (n<=1099511627776))=false;rw[h,XG]
  ·have h:=Xm h;refine callO [1000,1001] [1000,1001] (O3 66 bs n (by omega) (by omega) hb) rfl rfl rfl rfl rfl fun _ _=>?_;refine cR [1000,1001] rfl rfl rfl rfl ⟨?_,rfl,rfl⟩;show(decide (-1099511627776<=n)&&decide (n<=1099511627776))=true;simp[a,h]
 ·have a:¬-1099511627776<=n:=a;refine tO (sN false) rfl (fun h=>⟨rfl,?_⟩) fun h=>by cases h
  show(decide (-1099511627776<=n)&&decide (n<=1099511627776))=false;simp[a]
theorem QM (n:Nat):PW kW 117 [.own 1000 0,IC n] (kW.siz n) (IC n):=by
 intro bs hb;have hb:bs.length+(bQ (zz n)).length<=70368744177664:=hb;refine ai Tryd.func117 HB rfl fun c b=>?_;refine tO (sN (decide ((n:Int)<=100000))) rfl (fun h=>⟨rfl,h⟩) fun h=>?_;have a:=Xm h;refine callO [1000,1001] [1000,1001] (O3 66 bs n (by omega) (by omega) hb) rfl rfl rfl rfl rfl fun _ _=>?_;exact cR [1000,1001] rfl rfl rfl rfl ⟨h,rfl,rfl⟩
def xR (n:Int) (k:Nat):UInt8:=UInt8.ofNat ((n.fdiv (2 ^ (8*k))).emod 256).toNat
theorem BL (n:Int) (k:Nat) (h:k<8):(Cd n).take (k+1)=(Cd n).take k++[xR n k]:=by
 have a:(Cd n).length=8:=by simp[Cd]
 rw[List.take_add_one,WZ (by omega)];simp[Cd,xR]
theorem Ma (n:Int) (k:Nat):IntKind.wrap .u8 (n.fdiv (2 ^ (8*k)))=((xR n k).toNat:Int):=by
 unfold xR;rw[UInt8.toNat_ofNat'];have b:0<=(n.fdiv (2 ^ (8*k))).emod 256:=Int.emod_nonneg _ (by omega);have a:(n.fdiv (2 ^ (8*k))).emod 256<256:=Int.emod_lt_of_pos _ (by omega);generalize n.fdiv (2 ^ (8*k))=z at b a ⊢;simp only[IntKind.wrap,IntKind.bits,IntKind.signed,X1,Nat.reducePow,Int.reducePow];have c:z.emod 256=z % 256:=rfl;rw[c] at b a ⊢;simp;omega
theorem O4 (n:Int):eL kL 118 [.own 1000 0,.pt [IC n] 0] (kL.num n):=by
 intro bs hb;have hb:bs.length+(Cd n).length<=70368744177664:=hb;have e:(Cd n).length=8:=by simp[Cd]
 refine ai Tryd.func118 BF rfl fun l j=>?_;refine bW 8 5 [] bs (fun _=>[]) (fun s=>CW 95 s) (fun k s=>s=bs++(Cd n).take k) (by simp) (aq rfl) trivial ⟨.inl ⟨_,rfl,.inl ⟨rfl,rfl⟩⟩,.inl ⟨_,rfl,.inl ⟨rfl,rfl⟩⟩,trivial⟩ (fun _=>rfl) (fun _=>rfl) ?_;rintro k s h c _ _ _;have f:s.length=bs.length+k:=by rw[c];simp[e];omega
 refine aV (fun a=>?_) (fun b=>?_)
 ·have a:k<8:=by omega
  refine Fit.Wk (by omega) (by omega) ?_;refine⟨by omega,?_⟩;have d:min ((8:Int)*(k:Int)).toNat 64=8*k:=by omega
  refine Fit.to (m:=((xR n k).toNat:Int)) (by rw[show(min ((8:Int)*(k:Int)).toNat IntKind.i64.bits)=min ((8:Int)*(k:Int)).toNat 64 from rfl,d];exact Ma n k) ?_;refine zO [1000,1001] [1000,1001] (Fu 95 [] rfl s (xR n k) (by omega)) rfl rfl rfl rfl rfl fun _ _=>?_;refine Fit.Wk (by omega) (by omega) ?_;exact⟨(k+1,s++[xR n k]),⟨by omega,by rw[c,BL n k a];simp⟩,⟨cF,trivial⟩,⟨.inl ⟨_,rfl,.inl ⟨rfl,rfl⟩⟩,.inl ⟨_,rfl,.inl ⟨rfl,rfl⟩⟩,trivial⟩,cG a⟩
 ·have b:k=8:=by omega
  subst b;refine cR [1000,1001] rfl rfl rfl rfl ⟨rfl,?_,rfl⟩;refine p7 (WB 95) ?_;rw[c,XO (by omega)];rfl
theorem t119 (n:Nat):PW kL 119 [.own 1000 0,IC n] (kL.siz n) (IC n):=by
 intro bs hb;have d:CallsT PZ 118 [.own 1000 0,.pt [IC n] 0] (WB 95 bs) (iK (WB 95 (bs++Cd n)) (.tup [])):=CallsTX.noPan ((O4 n bs hb).imp (fun Mo c ⟨_,b,a⟩=>⟨b,a⟩) fun v ⟨_,h⟩=>by cases h);refine ai Tryd.func119 HC rfl fun f e=>?_;refine callO [1000,1001] [1000,1001] d rfl rfl rfl rfl rfl fun _ _=>?_;exact cR [1000,1001] rfl rfl rfl rfl ⟨rfl,rfl,rfl⟩
def QN (k:Kd) (f:Nat) (n:Int):Prop:=∀bs,bs.length+(k.num n).1.length<=70368744177664 ->
 CallsTX PZ f [.own 1000 0,.own 1002 0] (WB k.tb bs++[.box 3 [IC n]]) (fun Mo c=>(k.num n).2=true/\Mo=WB k.tb (bs++(k.num n).1)++[.box 3 [IC n]]/\c=.tup []) (fun v=>v=eS/\(k.num n).2=false)
theorem O5 (n:Int):QN kW 116 n:=by
 intro bs hb;have hb:bs.length+(bQ (zz n)).length<=70368744177664:=hb;refine ai Tryd.func116 BD rfl fun c b=>?_;refine aV (fun a=>?_) (fun a=>?_)
 ·have a:-1099511627776<=n:=a;refine tO (sN (decide (n<=1099511627776))) rfl (fun h=>⟨rfl,?_⟩) fun h=>?_
  ·show(decide (-1099511627776<=n)&&decide (n<=1099511627776))=false;rw[h,XG]
  ·have h:=Xm h;refine callO [1000,1001] [1000,1001] (O3 66 bs n (by omega) (by omega) hb) rfl rfl rfl rfl rfl fun _ _=>?_;refine cR [1000,1001,1002] rfl rfl rfl rfl ⟨?_,rfl,rfl⟩;show(decide (-1099511627776<=n)&&decide (n<=1099511627776))=true;simp[a,h]
 ·have a:¬-1099511627776<=n:=a;refine tO (sN false) rfl (fun h=>⟨rfl,?_⟩) fun h=>by cases h
  show(decide (-1099511627776<=n)&&decide (n<=1099511627776))=false;simp[a]
theorem O6 (n:Int):QN kL 118 n:=by
 intro bs hb;have hb:bs.length+(Cd n).length<=70368744177664:=hb;have e:(Cd n).length=8:=by simp[Cd]
 refine ai Tryd.func118 BF rfl fun l j=>?_;refine bW 8 5 [] bs (fun _=>[]) (fun s=>[(1000,.box 95 [.rw 1001,IC 0,.int .i8 0]),(1001,.row 5 1 (af s)),(1002,.box 3 [IC n])]) (fun k s=>s=bs++(Cd n).take k) (by simp) (aq rfl) trivial ⟨.inl ⟨_,rfl,.inl ⟨rfl,rfl⟩⟩,.inl ⟨_,rfl,.inl ⟨rfl,rfl⟩⟩,.inl ⟨_,rfl,.inl ⟨rfl,rfl⟩⟩,trivial⟩ (fun _=>rfl) (fun _=>rfl) ?_;rintro k s h c _ _ _;have f:s.length=bs.length+k:=by rw[c];simp[e];omega
 refine aV (fun a=>?_) (fun b=>?_)
 ·have a:k<8:=by omega
  refine Fit.Wk (by omega) (by omega) ?_;refine⟨by omega,?_⟩;have d:min ((8:Int)*(k:Int)).toNat 64=8*k:=by omega
  refine Fit.to (m:=((xR n k).toNat:Int)) (by rw[show(min ((8:Int)*(k:Int)).toNat IntKind.i64.bits)=min ((8:Int)*(k:Int)).toNat 64 from rfl,d];exact Ma n k) ?_;refine zO [1000,1001] [1000,1001] (Fu 95 [] rfl s (xR n k) (by omega)) rfl rfl rfl rfl rfl fun _ _=>?_;refine Fit.Wk (by omega) (by omega) ?_;exact⟨(k+1,s++[xR n k]),⟨by omega,by rw[c,BL n k a];simp⟩,⟨cF,trivial⟩,⟨.inl ⟨_,rfl,.inl ⟨rfl,rfl⟩⟩,.inl ⟨_,rfl,.inl ⟨rfl,rfl⟩⟩,.inl ⟨_,rfl,.inl ⟨rfl,rfl⟩⟩,trivial⟩,cG a⟩
 ·have b:k=8:=by omega
  subst b;refine cR [1000,1001,1002] rfl rfl rfl rfl ⟨rfl,?_,rfl⟩;refine p7 (fun q=>WB 95 q++[.box 3 [IC n]]) ?_;rw[c,XO (by omega)];rfl
theorem Sg (n:Int) (bs:List UInt8):K7 41 [.own 1000 0,IC n] bs (takeD n bs) (fun b=>.sl (af b)):=by
 refine ai Tryd.func41 Kr rfl fun j e=>?_;have f:bs.length<=9223372036854775807:=by
  have:=e _ (XJ.2 rfl);exact uT this.1
 have a:(af bs).length=bs.length:=aK;refine aV (fun d=>?_) (fun d=>?_)
 ·refine tO (sN (decide (n<=(af bs).length))) rfl (fun h=>⟨rfl,?_⟩) fun c=>?_
  ·rw[a] at h;have:=XI h;simp only[takeD];rw[vv (fun q=>this q.2)]
  ·rw[a] at c;have c:=Xm c;refine AZ.mk (Xw 0) d (by rw[a];exact c) fA ?_;refine AZ.mk d (by rw[a];exact c) (Xw _) fA ?_;refine cR [1000] rfl rfl rfl rfl ⟨_,_,yT d c,?_,?_⟩
   ·refine p7 (fun q=>[TO.box 54 [C.sl q]]) (?_:((af bs).drop n.toNat).take (((af bs).length:Int).toNat-n.toNat)=af (bs.drop n.toNat));rw[gq,a,XO (by simp)]
   ·refine p7 C.sl (?_:((af bs).drop 0).take (n.toNat-0)=af (bs.take n.toNat));rw[gq];simp
 ·refine tO (sN false) rfl (fun h=>⟨rfl,?_⟩) fun c=>by cases c
  simp only[takeD];rw[vv (fun q=>d q.1)]
theorem sI {n:Nat}(h:n<9223372036854775808):IntKind.wrap .i64 (n:Int)=n:=by
 simp only[IntKind.wrap,IntKind.bits,IntKind.signed,XY,XQ,ge_iff_le,Nat.reduceSub,Int.reducePow];split<;>omega
theorem or_eq {z c k:Nat}(a:z<128 ^ k) (f:c<128) (h:k<6):IntKind.wrap .i64 ((BitVec.ofInt 64 (z:Int) ||| BitVec.ofInt 64 (((c*128 ^ k:Nat)):Int)).toNat:Int)=((z+c*128 ^ k:Nat):Int):=by
 have b:128 ^ k=2 ^ (7*k):=by rw[Nat.pow_mul]
 have hb:128 ^ k<=128 ^ 5:=Nat.pow_le_pow_right (by omega) (by omega);have d:c*128 ^ k<=127*128 ^ 5:=Nat.mul_le_mul (by omega) hb;have e:(BitVec.ofInt 64 (z:Int) ||| BitVec.ofInt 64 ((c*128 ^ k:Nat):Int)).toNat=z+c*128 ^ k:=by
  rw[BitVec.toNat_or,BitVec.ofInt_natCast,BitVec.ofInt_natCast,BitVec.toNat_ofNat,BitVec.toNat_ofNat,Nat.mod_eq_of_lt (by omega),Nat.mod_eq_of_lt (by omega)];rw[b] at a ⊢;rw[Nat.or_comm,Nat.mul_comm,<-Nat.two_pow_add_eq_or_of_lt a];omega
 rw[e];exact sI (by omega)
theorem xor_eq {z:Nat}(a:z<9223372036854775808):IntKind.wrap .i64 ((BitVec.ofInt 64 ((z / 2:Nat):Int) ^^^ BitVec.ofInt 64 (0-((z % 2:Nat):Int))).toNat:Int)=LZ z:=by
 unfold LZ;rcases Nat.mod_two_eq_zero_or_one z with h | h
 ·rw[h,j3 rfl];have e:(BitVec.ofInt 64 ((z / 2:Nat):Int) ^^^ BitVec.ofInt 64 (0-((0:Nat):Int))).toNat=z / 2:=by
   rw[show(0-((0:Nat):Int))=((0:Nat):Int) from rfl,BitVec.ofInt_natCast,BitVec.ofInt_natCast];simp;omega
  rw[e];exact sI (by omega)
 ·rw[h,vv (by omega)];have e:(BitVec.ofInt 64 ((z / 2:Nat):Int) ^^^ BitVec.ofInt 64 (0-((1:Nat):Int))).toNat=18446744073709551615-z / 2:=by
   have:BitVec.ofInt 64 (0-((1:Nat):Int))=BitVec.allOnes 64:=by decide
   rw[this,BitVec.ofInt_natCast,BitVec.xor_allOnes,BitVec.toNat_not,BitVec.toNat_ofNat,Nat.mod_eq_of_lt (by omega)]
  rw[e];simp only[IntKind.wrap,IntKind.bits,IntKind.signed,XY,XQ,ge_iff_le,Nat.reduceSub,Int.reducePow];split<;>omega
def RL (bs:List UInt8):TL:=[(1000,RB bs)]
theorem take1 {x:UInt8}{r:List UInt8}:takeD 1 (x::r)=some ([x],r):=by
 rw[yT (by omega) (by simp only[Xl];omega)];rfl
theorem Fv:takeD 1 []=none:=by simp[takeD]
theorem rn {d:Type}{PS:oV}{L:TL}{ρ:aT}(a:Nat) {f:Nat}{args b:List C}{bs:List UInt8}{o:Option (d×List UInt8)}{cell:d->C}{K:TL->aT->C->Prop}(h:K7 f b bs o cell)
  (q:L.sub [a]=some [RB bs]) (n:T.lm L [a] [a]=true) (l:(args.map fun c=>c.Wo.ren (cj [a] 1000))=b) (u:o=none->PS.ps eS)
  (k:∀y r,o=some (y,r)->Wf (cell y)->K (((L.Wi [a]).kills (rowsOf L [a])).puts [a] [RB r]) (eI (rowsOf L [a]) ρ) ((cell y).ren (aW [a])).slt) (s:kR L [a] PS.hb=true:=by rfl):n9 PZ PS f args L ρ K :=
 bO [a] h q (by simp[n,aQ,RB];rfl) l rfl (fun v ⟨e,h⟩=>e▸u h) (fun v Mo ⟨y,r,m,p,t⟩ j _=>by subst p t;exact⟨rfl,k y r m j⟩) s
theorem Mb (bs:List UInt8):K7 19 [.own 1000 0] bs (getD bs) IC:=by
 refine ai Tryd.func19 J5 rfl fun hw ho=>?_;refine bW 6 6 [3] ((0,bs):Nat×List UInt8) (fun s=>[IC s.1]) (fun s=>RL s.2) (fun k s=>mC (6-k) k s.1 s.2=getD bs/\s.1<128 ^ k) ⟨rfl,by simp⟩ (aq rfl) ⟨aq rfl,trivial⟩ ⟨.inl ⟨_,rfl,.inl ⟨rfl,rfl⟩⟩,trivial⟩ (fun _=>rfl) (fun _=>rfl) ?_;rintro k ⟨z,b⟩ hk ⟨a,hz⟩ _ _ _;refine aV (fun n=>?_) (fun p=>?_)
 ·have n:k<6:=by omega
  refine rn 1000 (Sg 1 b) rfl rfl rfl (fun h=>?_) fun y r e _=>?_
  ·refine⟨rfl,?_⟩;cases b with
   | nil=>rw[<-a,show 6-k=(5-k)+1 by omega];rfl
   | cons x r=>rw[take1] at h;cases h
  cases b with
  | nil=>rw[Fv] at e;cases e
  | cons x w =>
   rw[take1] at e;injection e with e
   injection e with e1 e2
   subst e1 e2;refine M0 (k:=0) (x:=x) rfl ?_;have hx:=x.toNat_lt;refine Fit.Wk (by omega) (by omega) ?_;refine mT.mk (by omega) ?_;have hc:x.toNat % 128<128:=Nat.mod_lt _ (by omega);have t:128 ^ k<=128 ^ 5:=Nat.pow_le_pow_right (by omega) (by omega);have hm:x.toNat % 128*128 ^ k<=127*128 ^ 5:=Nat.mul_le_mul (by omega) t;have u:((x.toNat:Nat):Int).tmod 128*2 ^ (min ((7:Int)*(k:Int)).toNat 64)=((x.toNat % 128*128 ^ k:Nat):Int):=by
    rw[Int.tmod_eq_emod_of_nonneg (by omega),show min ((7:Int)*(k:Int)).toNat 64=7*k by omega];rw[show(128:Nat) ^ k=2 ^ (7*k) by rw[Nat.pow_mul]]
    push_cast
    rfl
   have l:=or_eq hz hc n;refine Fit.Wk (by omega) (by omega) ?_;refine⟨by omega,Fit.to (m:=((x.toNat % 128*128 ^ k:Nat):Int)) (by rw[show(min ((7:Int)*(k:Int)).toNat IntKind.i64.bits)=min ((7:Int)*(k:Int)).toNat 64 from rfl,u];exact bM (by omega) (by omega)) ?_⟩;have aa:z+x.toNat % 128*128 ^ k<9223372036854775808:=by
    have:z<128 ^ 5:=Nat.lt_of_lt_of_le hz t;omega
   refine aV (fun c=>?_) (fun ac=>?_)
   ·have c:x.toNat<128:=by omega
    have f:x.toNat % 128=x.toNat:=Nat.mod_eq_of_lt c;have v:6-k=(6-(k+1))+1:=by omega
    rw[v] at a;simp only[mC] at a;rw[j3 c] at a;have o:=xor_eq aa;have j:IntKind.wrap .i64 ((IntKind.wrap .i64 ((BitVec.ofInt 64 (z:Int) ||| BitVec.ofInt 64 ((x.toNat % 128*128 ^ k:Nat):Int)).toNat:Int)).tdiv 2)=(((z+x.toNat % 128*128 ^ k) / 2:Nat):Int):=by
     rw[l,Int.tdiv_eq_ediv_of_nonneg (by omega)];exact bM (by omega) (by omega)
    have q:0-(IntKind.wrap .i64 ((BitVec.ofInt 64 (z:Int) ||| BitVec.ofInt 64 ((x.toNat % 128*128 ^ k:Nat):Int)).toNat:Int)).tmod 2=0-(((z+x.toNat % 128*128 ^ k) % 2:Nat):Int):=by
     rw[l,Int.tmod_eq_emod_of_nonneg (by omega)];rfl
    have d:IntKind.wrap .i64 (0-(IntKind.wrap .i64 ((BitVec.ofInt 64 (z:Int) ||| BitVec.ofInt 64 ((x.toNat % 128*128 ^ k:Nat):Int)).toNat:Int)).tmod 2)=0-(((z+x.toNat % 128*128 ^ k) % 2:Nat):Int):=by
     rw[q];exact bM (by omega) (by omega)
    refine aV (fun ab=>?_) (fun ab=>?_)
    ·refine tO (sN true) rfl (fun h=>by cases h) fun _=>?_;rw[j3 (.inl (by omega)),<-f] at a;refine mT.mk (by omega) (Fit.to j ?_);refine mT.mk (by omega) (Fit.to d ?_);exact cR [1000] rfl rfl rfl (p7 (C.int .i64) o) ⟨_,w,a.symm,rfl,rfl⟩
    ·refine tO (sN (decide ((k:Int)=0))) rfl (fun h=>⟨rfl,?_⟩) fun h=>?_
     ·have h:=XI h;rw[<-a,vv (by omega)]
     ·have h:=Xm h;rw[j3 (.inr (by omega)),<-f] at a;refine mT.mk (by omega) (Fit.to j ?_);refine mT.mk (by omega) (Fit.to d ?_);exact cR [1000] rfl rfl rfl (p7 (C.int .i64) o) ⟨_,w,a.symm,rfl,rfl⟩
   ·refine Fit.Wk (by omega) (by omega) ?_;refine⟨(k+1,(z+x.toNat % 128*128 ^ k,w)),⟨by omega,?_,?_⟩,⟨cF,⟨.inr (.inl ⟨p7 C.cel (p7 (C.int .i64) l),rfl⟩),trivial⟩⟩,⟨.inl ⟨_,rfl,.inl ⟨rfl,rfl⟩⟩,trivial⟩,cG n⟩
    ·have v:6-k=(6-(k+1))+1:=by omega
     rw[<-a,v];simp only[mC];rw[vv (by omega),show x.toNat % 128=x.toNat-128 by omega]
    ·rw[Nat.pow_succ];have:x.toNat % 128*128 ^ k<=127*128 ^ k:=Nat.mul_le_mul_right _ (by omega);simp only[];omega
 ·have p:k=6:=by omega
  subst p;refine Oz rfl ⟨rfl,?_⟩;rw[<-a];rfl
def HX (f:Nat):Prop:=∀(t:Nat) (pre post:List C) (x:Int) (bs:List UInt8),bX pre->bX post ->
 CallsTX PZ f [.own 1000 0,.own 1001 pre.length] [RB bs,.win t pre [IC x] post] (fun Mo c=>∃n r,ga bs=some (n,r)/\Mo=[RB r,.win t pre [IC n] post]/\c=.tup []) (fun v=>v=eS/\ga bs=none)
theorem Nz:HX 113:=by
 intro t pre post x bs _ _;refine ai Tryd.func113 Hz rfl fun d c=>?_;refine rn 1000 (Mb bs) rfl rfl rfl (fun h=>⟨rfl,by simp only[ga,h]⟩) fun n r e _=>?_;have b:ga bs=if -bound<=n/\n<=bound then some (n,r) else none:=by simp only[ga,e]
 refine⟨.inl ⟨0,rfl,?_⟩⟩;refine⟨.inl ⟨0,rfl,?_⟩⟩;refine aV (fun a=>?_) (fun a=>?_)
 ·have a:-bound<=n:=a;refine⟨.inl ⟨0,rfl,?_⟩⟩;refine tO (sN (decide (n<=bound))) rfl (fun h=>⟨rfl,?_⟩) fun h=>?_
  ·rw[b,vv (fun q=>XI h q.2)]
  ·exact cR [1000,1001] rfl rfl rfl rfl ⟨n,r,by rw[b,j3 ⟨a,Xm h⟩],rfl,rfl⟩
 ·have a:¬-bound<=n:=a;refine tO (sN false) rfl (fun h=>⟨rfl,?_⟩) fun h=>by cases h
  rw[b,vv (fun q=>a q.1)]
theorem xS (m:Int) (bs:List UInt8):K7 114 [.own 1000 0,IC m] bs (CU bs) (fun n=>IC n):=by
 refine ai Tryd.func114 HA rfl fun f d=>?_;refine rn 1000 (Mb bs) rfl rfl rfl (fun h=>⟨rfl,by simp only[CU,h]⟩) fun n r e _=>?_;have b:CU bs=if 0<=n/\n<=100000/\n<=r.length then some (n.toNat,r) else none:=by simp only[CU,e]
 refine aV (fun a=>?_) (fun a=>?_)
 ·have a:0<=n:=a;refine aV (fun c=>?_) (fun c=>?_)
  ·refine tO (sN (decide (n<=(af r).length))) rfl (fun h=>⟨rfl,?_⟩) fun h=>?_
   ·have h:=XI h;rw[aK] at h;rw[b,vv (fun q=>h q.2.2)]
   ·have h:=Xm h;rw[aK] at h;exact cR [1000] rfl rfl rfl (p7 (C.int .i64) (show n=(n.toNat:Int) by omega)) ⟨n.toNat,r,by rw[b,j3 ⟨a,c,h⟩],rfl,rfl⟩
  ·refine tO (sN false) rfl (fun h=>⟨rfl,?_⟩) fun h=>by cases h
   rw[b,vv (fun q=>c q.2.1)]
 ·refine tO (sN false) rfl (fun h=>⟨rfl,?_⟩) fun h=>by cases h
  rw[b,vv (fun q=>a q.1)]
theorem NA:m9 PZ 52 "leasehold/snapshot.num"=some 113:=by kernel_rfl
theorem xT:m9 PZ 52 "leasehold/snapshot.size"=some 114:=by kernel_rfl
theorem HY {cs:List C}{o:Nat}{c:C}(h:cs[o]?=some c):cs=cs.take o++([c]++cs.drop (o+1)):=by
 have a:=(W5.1 h).1;have b:=(W5.1 h).2
 conv=>lhs;rw[<-List.take_append_drop o cs,XW a,b]
 rfl
theorem Ef {cs:List C}{o:Nat}{c d:C}(h:cs[o]?=some c):cs.set o d=cs.take o++([d]++cs.drop (o+1)):=by
 have a:=(W5.1 h).1;have b:(cs.set o d)[o]?=some d:=by simp[a]
 have:=HY b
 rwa [List.take_set_of_le (Xn o),List.drop_set_of_lt (by omega)] at this
theorem HX.cell {f:Nat}(h:HX f) (t:Nat) (cs:List C) (o:Nat) (x:Int) (bs:List UInt8) (hi:bX cs) (b:cs[o]?=some (IC x)) :
  CallsTX PZ f [.own 1000 0,.own 1001 o] [RB bs,.win t cs [] []] (fun Mo c=>∃n r,ga bs=some (n,r)/\Mo=[RB r,.win t (cs.set o (IC n)) [] []]/\c=.tup []) (fun v=>v=eS/\ga bs=none):=by
 have a:(cs.take o).length=o:=by have:=(W5.1 b).1;simp;omega
 have d:bX ([]:List C):=fun c j=>by cases j
 have:=h t (cs.take o) (cs.drop (o+1)) x bs (hi.take o) (hi.drop _);rw[a] at this;refine this.view (vw.same (vw.cons (mQ (by simpa using HY b) (hi.take o) (hi.drop _)) (vw.refl []))) ?_ fun _ h=>h;rintro Mo c ⟨n,r,e,rfl,rfl⟩;exact⟨_,vw.same (vw.cons (mQ (by simpa using(Ef b).symm) (hi.set rfl) d) (vw.refl [])),n,r,e,rfl,rfl⟩
theorem HX.box {f:Nat}(h:HX f) (t:Nat) (x:Int) (bs:List UInt8) :
  CallsTX PZ f [.own 1000 0,.own 1001 0] [RB bs,.box t [IC x]] (fun Mo c=>∃n r,ga bs=some (n,r)/\Mo=[RB r,.box t [IC n]]/\c=.tup []) (fun v=>v=eS/\ga bs=none):=by
 have a:bX ([]:List C):=fun c b=>by cases b
 refine(h t [] [] x bs a a).view (vw.same (vw.cons (u4 rfl a a) (vw.refl []))) ?_ fun _ h=>h;rintro Mo c ⟨n,r,e,rfl,rfl⟩;exact⟨_,vw.same (vw.cons (z6 rfl) (vw.refl [])),n,r,e,rfl,rfl⟩
def Ad {a:Type}(g:a->C):List C->List Nat->List a->List C
 | cs,o::os,n::ns=>Ad g (cs.set o (g n)) os ns
 | cs,_,_=>cs
def O7 (f:Nat):Prop:=∀(t:Nat) (cs:List C) (a:List Nat) (bs:List UInt8),bX cs->(∀o∈a,∃x,cs[o]?=some (IC x)) ->
 CallsTX PZ f [.ifo none 52 1000 0,.slo 1001 a] [RB bs,.win t cs [] []] (fun Mo c=>∃ns r,bA ga a.length bs=some (ns,r)/\Mo=[RB r,.win t (Ad IC cs a ns) [] []]/\c=.tup []) (fun v=>v=eS/\bA ga a.length bs=none)
theorem HZ {cs:List C}{o p:Nat}{n x:Int}(h:cs[p]?=some (IC x)):∃y,(cs.set o (IC n))[p]?=some (IC y):=by
 have a:=(W5.1 h).1
 by_cases b:o=p
 ·subst b;exact⟨n,by simp[a]⟩
 ·exact⟨x,by rw[X2 b];exact h⟩
theorem QO:O7 55:=by
 intro t cs a bs hi ho;refine ai Tryd.func55 DT rfl fun hw ap=>?_;have ae:a.length<=9223372036854775807:=by have h:=hw.2.1;simp only[Wf,maxLen] at h;exact h
 refine bW a.length 8 [] (cs,bs) (fun _=>[]) (fun s=>[(1000,RB s.2),(1001,.win t s.1 [] [])])
  (fun k s=>(∀ns r,bA ga (a.length-k) s.2=some (ns,r)->∃b,bA ga a.length bs=some (b,r)/\Ad IC cs a b=Ad IC s.1 (a.drop k) ns)/\(bA ga (a.length-k) s.2=none->bA ga a.length bs=none)/\bX s.1/\∀o∈a,∃x,s.1[o]?=some (IC x))
  ⟨fun ns r h=>⟨ns,h,rfl⟩,fun h=>h,hi,ho⟩ (aq rfl) trivial ⟨.inl ⟨_,rfl,.inl ⟨rfl,rfl⟩⟩,.inl ⟨_,rfl,.inl ⟨rfl,rfl⟩⟩,trivial⟩ (fun _=>rfl) (fun _=>rfl) ?_
 rintro k ⟨ds,c⟩ hk ⟨f,q,h3,h4⟩ _ _ aa;refine aV (fun d=>?_) (fun j=>?_)
 ·have d:k<a.length:=by omega
  refine d9 d fun o u z hd=>?_;have l:a.length-k=(a.length-(k+1))+1:=by omega
  simp only[l,hd,bA] at f q;refine qa (h4 o z) fun x hx=>?_;refine⟨by omega,by omega,?_⟩;refine⟨o,u,?_⟩;refine⟨113,NA,?_⟩;refine bO [1000,1001] (Nz.cell t ds o x c h3 hx) rfl rfl rfl rfl (fun v ⟨e,h⟩=>⟨e,q (by simp only[h])⟩) ?_;rintro v Mo ⟨n,r,e,rfl,rfl⟩ _ _;refine⟨rfl,?_⟩;simp only[e] at f q;refine Fit.Wk (by omega) (by omega) ?_;refine⟨(k+1,ds.set o (IC n),r),⟨by omega,fun ns r' h=>?_,fun h=>?_,h3.set rfl,fun p hp=>?_⟩,⟨cF,trivial⟩,⟨.inl ⟨_,rfl,.inl ⟨rfl,rfl⟩⟩,.inl ⟨_,rfl,.inl ⟨rfl,rfl⟩⟩,trivial⟩,cG d⟩
  ·obtain⟨b,w,m⟩:=f (n::ns) r' (by simp only[h]);exact⟨b,w,by rw[m];rfl⟩
  ·exact q (by simp only[h])
  ·obtain⟨y,hy⟩:=h4 p hp;exact HZ hy
 ·have j:a.length-k=0:=by omega
  rw[j] at f;obtain⟨b,w,m⟩:=f [] c rfl;rw[List.drop_eq_nil_of_le (by omega)] at m;exact cR [1000,1001] rfl rfl rfl rfl ⟨b,c,w,by rw[m];rfl,rfl⟩
def O8 (f:Nat):Prop:=∀(t:Nat) (cs:List C) (a:List Nat) (bs:List UInt8),bX cs->(∀o∈a,∃x,cs[o]?=some (.bool x)) ->
 CallsTX PZ f [.ifo none 52 1000 0,.slo 1001 a] [RB bs,.win t cs [] []] (fun Mo c=>∃ns r,bA oU a.length bs=some (ns,r)/\Mo=[RB r,.win t (Ad C.bool cs a ns) [] []]/\c=.tup []) (fun v=>v=eS/\bA oU a.length bs=none)
theorem Fw {cs:List C}{o p:Nat}{n x:Bool}(h:cs[p]?=some (.bool x)):∃y,(cs.set o (.bool n))[p]?=some (.bool y):=by
 have a:=(W5.1 h).1
 by_cases b:o=p
 ·subst b;exact⟨n,by simp[a]⟩
 ·exact⟨x,by rw[X2 b];exact h⟩
theorem take_one {cs:List C}{o:Nat}{c:C}(h:cs[o]?=some c):(cs.drop o).take 1=[c]:=by
 have a:=(W5.1 h).1;have b:=(W5.1 h).2;rw[XW a,b];rfl
theorem C0 {cs:List C}{o:Nat}{c d:C}(h:cs[o]?=some c):eH cs o [d]=cs.set o d:=by
 rw[Ef (d:=d) h];simp[eH]
theorem O9 {cs:List C}{o:Nat}{c:C}(h:cs[o]?=some c):o+1<=cs.length:=(W5.1 h).1
theorem QR:O8 64:=by
 intro t cs a bs hi ho;refine ai Tryd.func64 DV rfl fun hw aw=>?_;have al:a.length<=9223372036854775807:=by have h:=hw.2.1;simp only[Wf,maxLen] at h;exact h
 refine bW a.length 9 [] (cs,bs) (fun _=>[]) (fun s=>[(1000,RB s.2),(1001,.win t s.1 [] [])])
  (fun k s=>(∀ns r,bA oU (a.length-k) s.2=some (ns,r)->∃b,bA oU a.length bs=some (b,r)/\Ad C.bool cs a b=Ad C.bool s.1 (a.drop k) ns)/\(bA oU (a.length-k) s.2=none->bA oU a.length bs=none)/\bX s.1/\∀o∈a,∃x,s.1[o]?=some (.bool x))
  ⟨fun ns r h=>⟨ns,h,rfl⟩,fun h=>h,hi,ho⟩ (aq rfl) trivial ⟨.inl ⟨_,rfl,.inl ⟨rfl,rfl⟩⟩,.inl ⟨_,rfl,.inl ⟨rfl,rfl⟩⟩,trivial⟩ (fun _=>rfl) (fun _=>rfl) ?_
 rintro k ⟨ds,c⟩ hk ⟨f,l,h3,h4⟩ _ _ ae;refine aV (fun d=>?_) (fun j=>?_)
 ·have d:k<a.length:=by omega
  refine d9 d fun o z ad hd=>?_;have m:a.length-k=(a.length-(k+1))+1:=by omega
  simp only[m,hd,bA] at f l;refine qa (h4 o ad) fun x w=>?_;refine⟨by omega,by omega,?_⟩;refine⟨o,z,?_⟩;refine⟨.inr ⟨_,take_one w,rfl,?_⟩⟩;refine aF (fun _=>?_) (fun _=>?_)
  all_goals
   refine⟨113,NA,?_⟩;refine bO [1000,6] (Nz.box 3 _ c) rfl rfl rfl rfl (fun v ⟨e,h⟩=>⟨e,l (by simp only[oU,h])⟩) ?_;rintro v Mo ⟨n,r,e,rfl,rfl⟩ _ _;refine⟨rfl,?_⟩;have hb:oU c=if n=0\/n=1 then some (decide (n=1),r) else none:=by simp only[oU,e]
   refine aV (fun hn=>?_) (fun hn=>?_)
  all_goals
   refine tO (sN _) rfl (fun h=>?_) fun h=>?_
   ·first
     | cases h
     | (have h:=XI h
        exact⟨rfl,l (by rw[hb,vv (fun q=>q.elim hn h)])⟩)
   have aa:n=0\/n=1:=by first | exact .inl hn | exact .inr (Xm h)
   rw[j3 aa] at hb;simp only[hb] at f l;refine⟨.inr ⟨ds.set o (.bool (decide (n=1))),O9 w,rfl,C0 w,?_⟩⟩;refine Fit.Wk (by omega) (by omega) ?_;refine⟨(k+1,ds.set o (.bool (decide (n=1))),r),⟨by omega,fun ns r' h=>?_,fun h=>?_,h3.set rfl,fun p hp=>?_⟩,⟨cF,trivial⟩,⟨.inl ⟨_,rfl,.inl ⟨rfl,rfl⟩⟩,.inl ⟨_,rfl,.inl ⟨rfl,rfl⟩⟩,trivial⟩,cG d⟩
   ·obtain⟨b,f1,u⟩:=f (decide (n=1)::ns) r' (by simp only[h]);exact⟨b,f1,by rw[u];rfl⟩
   ·exact l (by simp only[h])
   ·obtain⟨y,hy⟩:=h4 p hp;exact Fw hy
 ·have j:a.length-k=0:=by omega
  rw[j] at f;obtain⟨b,f1,u⟩:=f [] c rfl;rw[List.drop_eq_nil_of_le (by omega)] at u;exact cR [1000,1001] rfl rfl rfl rfl ⟨b,c,f1,by rw[u];rfl,rfl⟩
def xw (sz:Nat) (l:List C):Prop:=l.length=sz/\dm l=true/\dF l=true
theorem H6 {a:Type}{cs:a->List C}{z:List C}{done:List a}{n k:Nat}{x:a}(b:done.length=k) (c:k<n) :
  (done.map cs++List.replicate (n-done.length) z).set k (cs x)=(done++[x]).map cs++List.replicate (n-(done++[x]).length) z:=by
 subst b;rw[show n-done.length=(n-(done++[x]).length)+1 by simp;omega,XS,List.set_append_right _ _ (by simp)];simp
theorem gG {α:Type}{f:Nat}{fi ca:List C}{b:Dec α}{z:List C}{cs:α->List C}{sz e:Nat}(hd:fV f fi ca b z cs) (he:lY PZ f) (ac:Ir e=true)
  (ab:∀c∈fi++.ifo none 52 1000 0::ca,c.kill 1001=c/\qM 1001 sz c=c) (d:∀x,xw sz (cs x)) (hz:xw sz z) {n k:Nat}{done:List α}(hk:done.length=k) (ag:k<n) (a:List UInt8) :
  kh PZ f (fi++.ifo none 52 1000 0::.elr 1001 k 0::ca) [RB a,.row e sz (done.map cs++List.replicate (n-done.length) z)]
   (fun Mo c=>∃x r,b a=some (x,r)/\Mo=[RB r,.row e sz ((done++[x]).map cs++List.replicate (n-(done++[x]).length) z)]/\c=.tup []) (fun v=>v=eS/\b a=none):=by
 have s:∀l∈done.map cs++List.replicate (n-done.length) z,xw sz l:=by
  intro l o;rcases W4.1 o with o | o
  ·obtain⟨x,_,rfl⟩:=Xz.1 o;exact d x
  ·rw[List.eq_of_mem_replicate o];exact hz
 have hj:(done.map cs++List.replicate (n-done.length) z)[k]?=some z:=by
  subst hk;rw[Xi (by simp),Xj,Nat.sub_self,List.getElem?_replicate,j3 (by omega)]
 have:=CallsTX.WS (A:=RB a) (R:=fun A' es' c=>∃x r,b a=some (x,r)/\A'=RB r/\es'=cs x/\c=.tup []) (Pp:=fun v=>v=eS/\b a=none) he ac rfl ⟨_,_,rfl⟩ ab hj s
  (fun pre post y h2=>(hd e pre post a y h2).imp (fun Mo c ⟨x,r,t,p,m⟩=>⟨RB r,cs x,p,x,r,t,rfl,rfl,m⟩) fun _ h=>h)
  (fun A' es' c ⟨x,r,t,p,m,q4⟩=>by
   subst p m q4;refine⟨(d x).1,(d x).2.1,(d x).2.2,rfl,fun F L L' v h=>?_⟩;simp only[Rel] at h ⊢;exact h)
 refine⟨fun F Li vs y h2 h3=>?_⟩;have q:=this.out F Li vs y h2 h3;have j:∀{F':aA}{Lo:List Own}{v:Value},gk Li (fun Mo c=>∃A' es',Mo=[A',.row e sz ((done.map cs++List.replicate (n-done.length) z).set k es')]/\∃x r,b a=some (x,r)/\A'=RB r/\es'=cs x/\c=.tup []) F' Lo v ->
   gk Li (fun Mo c=>∃x r,b a=some (x,r)/\Mo=[RB r,.row e sz ((done++[x]).map cs++List.replicate (n-(done++[x]).length) z)]/\c=.tup []) F' Lo v:=by
  rintro F' Lo v ⟨Mo,c,t,p,m,q4,A',es',rfl,x,r,e1,rfl,rfl,rfl⟩;exact⟨_,_,t,p,m,q4,x,r,e1,by rw[H6 hk ag],rfl⟩
 exact⟨q.ent,fun F G L v u r=>⟨gk.Wt _ _ _ _ u r.1,r.2⟩,fun w hs=>(q.run w hs).mono fun _ _ k=>k.imp (fun⟨v,F',Lo,e1,e2,e3,e4,e5⟩=>⟨v,F',Lo,e1,e2,e3,j e4,e5⟩) id⟩
theorem j7 {bs r:List UInt8}{n:Nat}(h:CU bs=some (n,r)):n<=100000:=by
 unfold CU at h;split at h
 ·split at h
  ·injection h with h
   injection h with h1 h2
   omega
  ·cases h
 ·cases h
end Go.Fr.Tryd
