/- Part of the proofs of the statements of this seat. -/
import Derived.Test.YtnlegbokpofcaaaDoorSnW1G
set_option maxRecDepth 10000
set_option linter.unusedVariables false
set_option linter.unusedSimpArgs false
namespace Go.Fr.Tryd
open Go Go.RowKit Go.Proofs Go.Fr Go.Fr.T Go.Fr.Api
theorem hO (z:Nat):1<=(bQ z).length:=by
 rw[bQ];split<;>simp
theorem Ag (m:Nat):IntKind.wrap .u8 (128+(m:Int).tmod 128)=((UInt8.ofNat (128+m % 128)).toNat:Int):=by
 rw[show(128+(m:Int).tmod 128)=((128+m % 128:Nat):Int) from rfl,UInt8.toNat_ofNat'];simp only[IntKind.wrap,IntKind.bits,IntKind.signed,Ya,Nat.reducePow,Int.reducePow];simp
theorem Ah (m:Nat):IntKind.wrap .u8 (m:Int)=((UInt8.ofNat m).toNat:Int):=by
 rw[UInt8.toNat_ofNat'];simp only[IntKind.wrap,IntKind.bits,IntKind.signed,Ya,Nat.reducePow,Int.reducePow];simp
theorem NK (t:Nat) (bs:List UInt8):CallsT PZ 28 [.own 1000 0] [.box t [.sl (af bs),IC 0,.int .i8 0]] (iZ [.box t [.sl (af bs),IC 0,.int .i8 0]] (.sl (af bs))):=by
 refine au Tryd.func28 Km rfl fun b c=>?_;have a:(af bs).length=bs.length:=aK;refine xL.mk (XF 0) (by omega) (XF _) eC ?_;refine xN [1000] rfl rfl rfl (p7 C.sl (?_:((af bs).drop 0).take (((af bs).length:Int).toNat-0)=af bs));rw[eO,a];simp
theorem Pg (t:Nat) (bs:List UInt8) (n:Int) (j:-2305843009213693952<=n) (l:n<=2305843009213693952) (hb:bs.length+(bQ (zz n)).length<=70368744177664):CallsT PZ 26 [.own 1000 0,IC n] (WB t bs) (iZ (WB t (bs++bQ (zz n))) (.tup [])):=by
 refine au Tryd.func26 Kk rfl fun o p=>?_;have k:zz n<=4611686018427387904:=by unfold zz;split<;>omega
 refine Fit.Ww (by omega) (by omega) ?_;refine aR (fun e=>?_) (fun f=>?_)
 ·refine Fit.Ww (by omega) (by omega) ?_;refine Fit.Ww (by omega) (by omega) ?_;refine uh.mk ⟨Nat×List UInt8,(zz n,bs),fun y=>y.1<=4611686018427387904/\y.2++bQ y.1=bs++bQ (zz n),[4],fun y=>[.int .i64 y.1],fun y=>C0 t y.2,fun y=>y.1,⟨k,rfl⟩,⟨.inr (.inl ⟨?_,rfl⟩),trivial⟩,
   ⟨.inl ⟨_,rfl,.inl ⟨rfl,rfl⟩⟩,.inl ⟨_,rfl,.inl ⟨rfl,rfl⟩⟩,trivial⟩,fun _=>rfl,fun _=>rfl,?_⟩
  ·exact p7 (C.int .i64) (by unfold zz;rw[j3 e];omega)
  rintro⟨m,done⟩ ⟨d,a⟩ _ _;simp only at a d;have h:done.length+(bQ m).length<=70368744177664:=by
   have:=p7 List.length a;simp only[Xg] at this;omega
  have j:=hO m;refine aR (fun c=>?_) (fun c=>?_)
  ·have c:128<=m:=by have:(128:Int)<=(m:Int):=c;omega
   have b:bQ m=UInt8.ofNat (128+m % 128)::bQ (m / 128):=by rw[bQ,dif_neg (by omega)]
   refine mW.mk (by omega) ?_;refine Fit.to (m:=128+(m:Int).tmod 128) (bL (by rw[show(m:Int).tmod 128=((m % 128:Nat):Int) from rfl];omega) (by rw[show(m:Int).tmod 128=((m % 128:Nat):Int) from rfl];omega)) ?_;refine Fit.to (Ag m) ?_;refine callO [1000,1001] [1000,1001] (Fx t [] rfl done (UInt8.ofNat (128+m % 128)) (by omega)) rfl rfl rfl rfl rfl fun _ _=>?_;refine mW.mk (by omega) ?_;refine Fit.to (m:=((m / 128:Nat):Int)) (by show IntKind.wrap .i64 ((m / 128:Nat):Int)=_;exact bL (by omega) (by omega)) ?_;refine⟨(m / 128,done++[UInt8.ofNat (128+m % 128)]),⟨?_,?_⟩,⟨.inr (.inl ⟨rfl,rfl⟩),trivial⟩,⟨.inl ⟨_,rfl,.inl ⟨rfl,rfl⟩⟩,.inl ⟨_,rfl,.inl ⟨rfl,rfl⟩⟩,trivial⟩,?_⟩
   ·show m / 128<=_;omega
   ·show done++[UInt8.ofNat (128+m % 128)]++bQ (m / 128)=bs++bQ (zz n);rw[<-a,b];simp
   ·show m / 128<m;omega
  ·have c:m<128:=by have:¬(128:Int)<=(m:Int):=c;omega
   have b:bQ m=[UInt8.ofNat m]:=by rw[bQ,dif_pos c]
   refine Fit.to (Ah m) ?_;refine callO [1000,1001] [1000,1001] (Fx t [] rfl done (UInt8.ofNat m) (by omega)) rfl rfl rfl rfl rfl fun _ _=>?_;exact xN [1000,1001] rfl rfl (p7 (WB t) (by rw[<-a,b])) rfl
 ·refine uh.mk ⟨Nat×List UInt8,(zz n,bs),fun y=>y.1<=4611686018427387904/\y.2++bQ y.1=bs++bQ (zz n),[4],fun y=>[.int .i64 y.1],fun y=>C0 t y.2,fun y=>y.1,⟨k,rfl⟩,⟨.inr (.inl ⟨?_,rfl⟩),trivial⟩,
   ⟨.inl ⟨_,rfl,.inl ⟨rfl,rfl⟩⟩,.inl ⟨_,rfl,.inl ⟨rfl,rfl⟩⟩,trivial⟩,fun _=>rfl,fun _=>rfl,?_⟩
  ·exact p7 (C.int .i64) (by unfold zz;rw[vv f];omega)
  rintro⟨m,done⟩ ⟨d,a⟩ _ _;simp only at a d;have h:done.length+(bQ m).length<=70368744177664:=by
   have:=p7 List.length a;simp only[Xg] at this;omega
  have j:=hO m;refine aR (fun c=>?_) (fun c=>?_)
  ·have c:128<=m:=by have:(128:Int)<=(m:Int):=c;omega
   have b:bQ m=UInt8.ofNat (128+m % 128)::bQ (m / 128):=by rw[bQ,dif_neg (by omega)]
   refine mW.mk (by omega) ?_;refine Fit.to (m:=128+(m:Int).tmod 128) (bL (by rw[show(m:Int).tmod 128=((m % 128:Nat):Int) from rfl];omega) (by rw[show(m:Int).tmod 128=((m % 128:Nat):Int) from rfl];omega)) ?_;refine Fit.to (Ag m) ?_;refine callO [1000,1001] [1000,1001] (Fx t [] rfl done (UInt8.ofNat (128+m % 128)) (by omega)) rfl rfl rfl rfl rfl fun _ _=>?_;refine mW.mk (by omega) ?_;refine Fit.to (m:=((m / 128:Nat):Int)) (by show IntKind.wrap .i64 ((m / 128:Nat):Int)=_;exact bL (by omega) (by omega)) ?_;refine⟨(m / 128,done++[UInt8.ofNat (128+m % 128)]),⟨?_,?_⟩,⟨.inr (.inl ⟨rfl,rfl⟩),trivial⟩,⟨.inl ⟨_,rfl,.inl ⟨rfl,rfl⟩⟩,.inl ⟨_,rfl,.inl ⟨rfl,rfl⟩⟩,trivial⟩,?_⟩
   ·show m / 128<=_;omega
   ·show done++[UInt8.ofNat (128+m % 128)]++bQ (m / 128)=bs++bQ (zz n);rw[<-a,b];simp
   ·show m / 128<m;omega
  ·have c:m<128:=by have:¬(128:Int)<=(m:Int):=c;omega
   have b:bQ m=[UInt8.ofNat m]:=by rw[bQ,dif_pos c]
   refine Fit.to (Ah m) ?_;refine callO [1000,1001] [1000,1001] (Fx t [] rfl done (UInt8.ofNat m) (by omega)) rfl rfl rfl rfl rfl fun _ _=>?_;exact xN [1000,1001] rfl rfl (p7 (WB t) (by rw[<-a,b])) rfl
theorem QZ (n:Int):eP kW 116 [.own 1000 0,.pt [IC n] 0] (kW.num n):=by
 intro bs hb;have hb:bs.length+(bQ (zz n)).length<=70368744177664:=hb;refine ai Tryd.func116 BJ rfl fun b c=>?_;refine aR (fun a=>?_) (fun a=>?_)
 ·have a:-1099511627776<=n:=a;refine tU (sQ (decide (n<=1099511627776))) rfl (fun h=>⟨rfl,?_⟩) fun h=>?_
  ·show(decide (-1099511627776<=n)&&decide (n<=1099511627776))=false;rw[h,XQ]
  ·have h:=Xw h;refine callO [1000,1001] [1000,1001] (Pg 66 bs n (by omega) (by omega) hb) rfl rfl rfl rfl rfl fun _ _=>?_;refine cS [1000,1001] rfl rfl rfl rfl ⟨?_,rfl,rfl⟩;show(decide (-1099511627776<=n)&&decide (n<=1099511627776))=true;simp[a,h]
 ·have a:¬-1099511627776<=n:=a;refine tU (sQ false) rfl (fun h=>⟨rfl,?_⟩) fun h=>by cases h
  show(decide (-1099511627776<=n)&&decide (n<=1099511627776))=false;simp[a]
theorem Q0 (n:Nat):Qa kW 117 [.own 1000 0,IC n] (kW.siz n) (IC n):=by
 intro bs hb;have hb:bs.length+(bQ (zz n)).length<=70368744177664:=hb;refine ai Tryd.func117 HJ rfl fun a c=>?_;refine tU (sQ (decide ((n:Int)<=100000))) rfl (fun h=>⟨rfl,h⟩) fun h=>?_;have b:=Xw h;refine callO [1000,1001] [1000,1001] (Pg 66 bs n (by omega) (by omega) hb) rfl rfl rfl rfl rfl fun _ _=>?_;exact cS [1000,1001] rfl rfl rfl rfl ⟨h,rfl,rfl⟩
def xU (n:Int) (k:Nat):UInt8:=UInt8.ofNat ((n.fdiv (2 ^ (8*k))).emod 256).toNat
theorem BS (n:Int) (k:Nat) (h:k<8):(Cj n).take (k+1)=(Cj n).take k++[xU n k]:=by
 have a:(Cj n).length=8:=by simp[Cj]
 rw[List.take_add_one,x5 (by omega)];simp[Cj,xU]
theorem Ml (n:Int) (k:Nat):IntKind.wrap .u8 (n.fdiv (2 ^ (8*k)))=((xU n k).toNat:Int):=by
 unfold xU;rw[UInt8.toNat_ofNat'];have a:0<=(n.fdiv (2 ^ (8*k))).emod 256:=Int.emod_nonneg _ (by omega);have b:(n.fdiv (2 ^ (8*k))).emod 256<256:=Int.emod_lt_of_pos _ (by omega);generalize n.fdiv (2 ^ (8*k))=z at a b ⊢;simp only[IntKind.wrap,IntKind.bits,IntKind.signed,Ya,Nat.reducePow,Int.reducePow];have c:z.emod 256=z % 256:=rfl;rw[c] at a b ⊢;simp;omega
theorem Ph (n:Int):eP kL 118 [.own 1000 0,.pt [IC n] 0] (kL.num n):=by
 intro bs hb;have hb:bs.length+(Cj n).length<=70368744177664:=hb;have f:(Cj n).length=8:=by simp[Cj]
 refine ai Tryd.func118 BK rfl fun h j=>?_;refine bX 8 5 [] bs (fun _=>[]) (fun s=>C0 95 s) (fun k s=>s=bs++(Cj n).take k) (by simp) (aq rfl) trivial ⟨.inl ⟨_,rfl,.inl ⟨rfl,rfl⟩⟩,.inl ⟨_,rfl,.inl ⟨rfl,rfl⟩⟩,trivial⟩ (fun _=>rfl) (fun _=>rfl) ?_;rintro k s l d _ _ _;have e:s.length=bs.length+k:=by rw[d];simp[f];omega
 refine aR (fun a=>?_) (fun b=>?_)
 ·have a:k<8:=by omega
  refine Fit.Ww (by omega) (by omega) ?_;refine⟨by omega,?_⟩;have c:min ((8:Int)*(k:Int)).toNat 64=8*k:=by omega
  refine Fit.to (m:=((xU n k).toNat:Int)) (by rw[show(min ((8:Int)*(k:Int)).toNat IntKind.i64.bits)=min ((8:Int)*(k:Int)).toNat 64 from rfl,c];exact Ml n k) ?_;refine zS [1000,1001] [1000,1001] (Fx 95 [] rfl s (xU n k) (by omega)) rfl rfl rfl rfl rfl fun _ _=>?_;refine Fit.Ww (by omega) (by omega) ?_;exact⟨(k+1,s++[xU n k]),⟨by omega,by rw[d,BS n k a];simp⟩,⟨cG,trivial⟩,⟨.inl ⟨_,rfl,.inl ⟨rfl,rfl⟩⟩,.inl ⟨_,rfl,.inl ⟨rfl,rfl⟩⟩,trivial⟩,cH a⟩
 ·have b:k=8:=by omega
  subst b;refine cS [1000,1001] rfl rfl rfl rfl ⟨rfl,?_,rfl⟩;refine p7 (WB 95) ?_;rw[d,XS (by omega)];rfl
theorem t119 (n:Nat):Qa kL 119 [.own 1000 0,IC n] (kL.siz n) (IC n):=by
 intro bs hb;have b:CallsT PZ 118 [.own 1000 0,.pt [IC n] 0] (WB 95 bs) (iZ (WB 95 (bs++Cj n)) (.tup [])):=CallsTX.noPan ((Ph n bs hb).imp (fun Mo c ⟨_,a,d⟩=>⟨a,d⟩) fun v ⟨_,h⟩=>by cases h);refine ai Tryd.func119 HK rfl fun e f=>?_;refine callO [1000,1001] [1000,1001] b rfl rfl rfl rfl rfl fun _ _=>?_;exact cS [1000,1001] rfl rfl rfl rfl ⟨rfl,rfl,rfl⟩
def Q5 (k:Kd) (f:Nat) (n:Int):Prop:=∀bs,bs.length+(k.num n).1.length<=70368744177664 ->
 CallsTX PZ f [.own 1000 0,.own 1002 0] (WB k.tb bs++[.box 3 [IC n]]) (fun Mo c=>(k.num n).2=true/\Mo=WB k.tb (bs++(k.num n).1)++[.box 3 [IC n]]/\c=.tup []) (fun v=>v=eV/\(k.num n).2=false)
theorem Pj (n:Int):Q5 kW 116 n:=by
 intro bs hb;have hb:bs.length+(bQ (zz n)).length<=70368744177664:=hb;refine ai Tryd.func116 BJ rfl fun b c=>?_;refine aR (fun a=>?_) (fun a=>?_)
 ·have a:-1099511627776<=n:=a;refine tU (sQ (decide (n<=1099511627776))) rfl (fun h=>⟨rfl,?_⟩) fun h=>?_
  ·show(decide (-1099511627776<=n)&&decide (n<=1099511627776))=false;rw[h,XQ]
  ·have h:=Xw h;refine callO [1000,1001] [1000,1001] (Pg 66 bs n (by omega) (by omega) hb) rfl rfl rfl rfl rfl fun _ _=>?_;refine cS [1000,1001,1002] rfl rfl rfl rfl ⟨?_,rfl,rfl⟩;show(decide (-1099511627776<=n)&&decide (n<=1099511627776))=true;simp[a,h]
 ·have a:¬-1099511627776<=n:=a;refine tU (sQ false) rfl (fun h=>⟨rfl,?_⟩) fun h=>by cases h
  show(decide (-1099511627776<=n)&&decide (n<=1099511627776))=false;simp[a]
theorem Pk (n:Int):Q5 kL 118 n:=by
 intro bs hb;have hb:bs.length+(Cj n).length<=70368744177664:=hb;have f:(Cj n).length=8:=by simp[Cj]
 refine ai Tryd.func118 BK rfl fun h j=>?_;refine bX 8 5 [] bs (fun _=>[]) (fun s=>[(1000,.box 95 [.rw 1001,IC 0,.int .i8 0]),(1001,.row 5 1 (af s)),(1002,.box 3 [IC n])]) (fun k s=>s=bs++(Cj n).take k) (by simp) (aq rfl) trivial ⟨.inl ⟨_,rfl,.inl ⟨rfl,rfl⟩⟩,.inl ⟨_,rfl,.inl ⟨rfl,rfl⟩⟩,.inl ⟨_,rfl,.inl ⟨rfl,rfl⟩⟩,trivial⟩ (fun _=>rfl) (fun _=>rfl) ?_;rintro k s l d _ _ _;have e:s.length=bs.length+k:=by rw[d];simp[f];omega
 refine aR (fun a=>?_) (fun b=>?_)
 ·have a:k<8:=by omega
  refine Fit.Ww (by omega) (by omega) ?_;refine⟨by omega,?_⟩;have c:min ((8:Int)*(k:Int)).toNat 64=8*k:=by omega
  refine Fit.to (m:=((xU n k).toNat:Int)) (by rw[show(min ((8:Int)*(k:Int)).toNat IntKind.i64.bits)=min ((8:Int)*(k:Int)).toNat 64 from rfl,c];exact Ml n k) ?_;refine zS [1000,1001] [1000,1001] (Fx 95 [] rfl s (xU n k) (by omega)) rfl rfl rfl rfl rfl fun _ _=>?_;refine Fit.Ww (by omega) (by omega) ?_;exact⟨(k+1,s++[xU n k]),⟨by omega,by rw[d,BS n k a];simp⟩,⟨cG,trivial⟩,⟨.inl ⟨_,rfl,.inl ⟨rfl,rfl⟩⟩,.inl ⟨_,rfl,.inl ⟨rfl,rfl⟩⟩,.inl ⟨_,rfl,.inl ⟨rfl,rfl⟩⟩,trivial⟩,cH a⟩
 ·have b:k=8:=by omega
  subst b;refine cS [1000,1001,1002] rfl rfl rfl rfl ⟨rfl,?_,rfl⟩;refine p7 (fun q=>WB 95 q++[.box 3 [IC n]]) ?_;rw[d,XS (by omega)];rfl
theorem Sz (n:Int) (bs:List UInt8):Lh 41 [.own 1000 0,IC n] bs (takeD n bs) (fun b=>.sl (af b)):=by
 refine ai Tryd.func41 Kz rfl fun f e=>?_;have j:bs.length<=9223372036854775807:=by
  have:=e _ (XU.2 rfl);exact uW this.1
 have a:(af bs).length=bs.length:=aK;refine aR (fun d=>?_) (fun d=>?_)
 ·refine tU (sQ (decide (n<=(af bs).length))) rfl (fun h=>⟨rfl,?_⟩) fun c=>?_
  ·rw[a] at h;have:=XT h;simp only[takeD];rw[vv (fun q=>this q.2)]
  ·rw[a] at c;have c:=Xw c;refine xL.mk (XF 0) d (by rw[a];exact c) eC ?_;refine xL.mk d (by rw[a];exact c) (XF _) eC ?_;refine cS [1000] rfl rfl rfl rfl ⟨_,_,yX d c,?_,?_⟩
   ·refine p7 (fun q=>[TO.box 54 [C.sl q]]) (?_:((af bs).drop n.toNat).take (((af bs).length:Int).toNat-n.toNat)=af (bs.drop n.toNat));rw[eO,a,XS (by simp)]
   ·refine p7 C.sl (?_:((af bs).drop 0).take (n.toNat-0)=af (bs.take n.toNat));rw[eO];simp
 ·refine tU (sQ false) rfl (fun h=>⟨rfl,?_⟩) fun c=>by cases c
  simp only[takeD];rw[vv (fun q=>d q.1)]
theorem sM {n:Nat}(h:n<9223372036854775808):IntKind.wrap .i64 (n:Int)=n:=by
 simp only[IntKind.wrap,IntKind.bits,IntKind.signed,X7,X1,ge_iff_le,Nat.reduceSub,Int.reducePow];split<;>omega
theorem or_eq {z c k:Nat}(a:z<128 ^ k) (f:c<128) (h:k<6):IntKind.wrap .i64 ((BitVec.ofInt 64 (z:Int) ||| BitVec.ofInt 64 (((c*128 ^ k:Nat)):Int)).toNat:Int)=((z+c*128 ^ k:Nat):Int):=by
 have b:128 ^ k=2 ^ (7*k):=by rw[Nat.pow_mul]
 have hb:128 ^ k<=128 ^ 5:=Nat.pow_le_pow_right (by omega) (by omega);have d:c*128 ^ k<=127*128 ^ 5:=Nat.mul_le_mul (by omega) hb;have e:(BitVec.ofInt 64 (z:Int) ||| BitVec.ofInt 64 ((c*128 ^ k:Nat):Int)).toNat=z+c*128 ^ k:=by
  rw[BitVec.toNat_or,BitVec.ofInt_natCast,BitVec.ofInt_natCast,BitVec.toNat_ofNat,BitVec.toNat_ofNat,Nat.mod_eq_of_lt (by omega),Nat.mod_eq_of_lt (by omega)];rw[b] at a ⊢;rw[Nat.or_comm,Nat.mul_comm,<-Nat.two_pow_add_eq_or_of_lt a];omega
 rw[e];exact sM (by omega)
theorem xor_eq {z:Nat}(a:z<9223372036854775808):IntKind.wrap .i64 ((BitVec.ofInt 64 ((z / 2:Nat):Int) ^^^ BitVec.ofInt 64 (0-((z % 2:Nat):Int))).toNat:Int)=Mg z:=by
 unfold Mg;rcases Nat.mod_two_eq_zero_or_one z with h | h
 ·rw[h,j3 rfl];have e:(BitVec.ofInt 64 ((z / 2:Nat):Int) ^^^ BitVec.ofInt 64 (0-((0:Nat):Int))).toNat=z / 2:=by
   rw[show(0-((0:Nat):Int))=((0:Nat):Int) from rfl,BitVec.ofInt_natCast,BitVec.ofInt_natCast];simp;omega
  rw[e];exact sM (by omega)
 ·rw[h,vv (by omega)];have e:(BitVec.ofInt 64 ((z / 2:Nat):Int) ^^^ BitVec.ofInt 64 (0-((1:Nat):Int))).toNat=18446744073709551615-z / 2:=by
   have:BitVec.ofInt 64 (0-((1:Nat):Int))=BitVec.allOnes 64:=by decide
   rw[this,BitVec.ofInt_natCast,BitVec.xor_allOnes,BitVec.toNat_not,BitVec.toNat_ofNat,Nat.mod_eq_of_lt (by omega)]
  rw[e];simp only[IntKind.wrap,IntKind.bits,IntKind.signed,X7,X1,ge_iff_le,Nat.reduceSub,Int.reducePow];split<;>omega
def RL (bs:List UInt8):TL:=[(1000,RB bs)]
theorem take1 {x:UInt8}{r:List UInt8}:takeD 1 (x::r)=some ([x],r):=by
 rw[yX (by omega) (by simp only[Xv];omega)];rfl
theorem Fy:takeD 1 []=none:=by simp[takeD]
theorem rn {d:Type}{PS:o7}{L:TL}{ρ:aU}(a:Nat) {f:Nat}{args b:List C}{bs:List UInt8}{o:Option (d×List UInt8)}{cell:d->C}{K:TL->aU->C->Prop}(h:Lh f b bs o cell)
  (q:L.sub [a]=some [RB bs]) (l:T.lu L [a] [a]=true) (n:(args.map fun c=>c.WA.ren (cn [a] 1000))=b) (s:o=none->PS.ps eV)
  (k:∀y r,o=some (y,r)->Wf (cell y)->K (((L.Wu [a]).kills (rowsOf L [a])).puts [a] [RB r]) (eK (rowsOf L [a]) ρ) ((cell y).ren (aW [a])).slt) (j:kU L [a] PS.hb=true:=by rfl):oh PZ PS f args L ρ K :=
 bP [a] h q (by simp[l,aQ,RB];rfl) n rfl (fun v ⟨e,h⟩=>e▸s h) (fun v Mo ⟨y,r,u,t,p⟩ m _=>by subst t p;exact⟨rfl,k y r u m⟩) j
theorem Mn (bs:List UInt8):Lh 19 [.own 1000 0] bs (getD bs) IC:=by
 refine ai Tryd.func19 Ke rfl fun hw ho=>?_;refine bX 6 6 [3] ((0,bs):Nat×List UInt8) (fun s=>[IC s.1]) (fun s=>RL s.2) (fun k s=>mF (6-k) k s.1 s.2=getD bs/\s.1<128 ^ k) ⟨rfl,by simp⟩ (aq rfl) ⟨aq rfl,trivial⟩ ⟨.inl ⟨_,rfl,.inl ⟨rfl,rfl⟩⟩,trivial⟩ (fun _=>rfl) (fun _=>rfl) ?_;rintro k ⟨z,b⟩ hk ⟨a,hz⟩ _ _ _;refine aR (fun l=>?_) (fun p=>?_)
 ·have l:k<6:=by omega
  refine rn 1000 (Sz 1 b) rfl rfl rfl (fun h=>?_) fun y r e _=>?_
  ·refine⟨rfl,?_⟩;cases b with
   | nil=>rw[<-a,show 6-k=(5-k)+1 by omega];rfl
   | cons x r=>rw[take1] at h;cases h
  cases b with
  | nil=>rw[Fy] at e;cases e
  | cons x v =>
   rw[take1] at e;injection e with e
   injection e with e1 e2
   subst e1 e2;refine Nf (k:=0) (x:=x) rfl ?_;have hx:=x.toNat_lt;refine Fit.Ww (by omega) (by omega) ?_;refine mW.mk (by omega) ?_;have hc:x.toNat % 128<128:=Nat.mod_lt _ (by omega);have t:128 ^ k<=128 ^ 5:=Nat.pow_le_pow_right (by omega) (by omega);have hm:x.toNat % 128*128 ^ k<=127*128 ^ 5:=Nat.mul_le_mul (by omega) t;have aa:((x.toNat:Nat):Int).tmod 128*2 ^ (min ((7:Int)*(k:Int)).toNat 64)=((x.toNat % 128*128 ^ k:Nat):Int):=by
    rw[Int.tmod_eq_emod_of_nonneg (by omega),show min ((7:Int)*(k:Int)).toNat 64=7*k by omega];rw[show(128:Nat) ^ k=2 ^ (7*k) by rw[Nat.pow_mul]]
    push_cast
    rfl
   have n:=or_eq hz hc l;refine Fit.Ww (by omega) (by omega) ?_;refine⟨by omega,Fit.to (m:=((x.toNat % 128*128 ^ k:Nat):Int)) (by rw[show(min ((7:Int)*(k:Int)).toNat IntKind.i64.bits)=min ((7:Int)*(k:Int)).toNat 64 from rfl,aa];exact bL (by omega) (by omega)) ?_⟩;have w:z+x.toNat % 128*128 ^ k<9223372036854775808:=by
    have:z<128 ^ 5:=Nat.lt_of_lt_of_le hz t;omega
   refine aR (fun c=>?_) (fun ac=>?_)
   ·have c:x.toNat<128:=by omega
    have d:x.toNat % 128=x.toNat:=Nat.mod_eq_of_lt c;have h6:6-k=(6-(k+1))+1:=by omega
    rw[h6] at a;simp only[mF] at a;rw[j3 c] at a;have o:=xor_eq w;have f:IntKind.wrap .i64 ((IntKind.wrap .i64 ((BitVec.ofInt 64 (z:Int) ||| BitVec.ofInt 64 ((x.toNat % 128*128 ^ k:Nat):Int)).toNat:Int)).tdiv 2)=(((z+x.toNat % 128*128 ^ k) / 2:Nat):Int):=by
     rw[n,Int.tdiv_eq_ediv_of_nonneg (by omega)];exact bL (by omega) (by omega)
    have q:0-(IntKind.wrap .i64 ((BitVec.ofInt 64 (z:Int) ||| BitVec.ofInt 64 ((x.toNat % 128*128 ^ k:Nat):Int)).toNat:Int)).tmod 2=0-(((z+x.toNat % 128*128 ^ k) % 2:Nat):Int):=by
     rw[n,Int.tmod_eq_emod_of_nonneg (by omega)];rfl
    have j:IntKind.wrap .i64 (0-(IntKind.wrap .i64 ((BitVec.ofInt 64 (z:Int) ||| BitVec.ofInt 64 ((x.toNat % 128*128 ^ k:Nat):Int)).toNat:Int)).tmod 2)=0-(((z+x.toNat % 128*128 ^ k) % 2:Nat):Int):=by
     rw[q];exact bL (by omega) (by omega)
    refine aR (fun u=>?_) (fun u=>?_)
    ·refine tU (sQ true) rfl (fun h=>by cases h) fun _=>?_;rw[j3 (.inl (by omega)),<-d] at a;refine mW.mk (by omega) (Fit.to f ?_);refine mW.mk (by omega) (Fit.to j ?_);exact cS [1000] rfl rfl rfl (p7 (C.int .i64) o) ⟨_,v,a.symm,rfl,rfl⟩
    ·refine tU (sQ (decide ((k:Int)=0))) rfl (fun h=>⟨rfl,?_⟩) fun h=>?_
     ·have h:=XT h;rw[<-a,vv (by omega)]
     ·have h:=Xw h;rw[j3 (.inr (by omega)),<-d] at a;refine mW.mk (by omega) (Fit.to f ?_);refine mW.mk (by omega) (Fit.to j ?_);exact cS [1000] rfl rfl rfl (p7 (C.int .i64) o) ⟨_,v,a.symm,rfl,rfl⟩
   ·refine Fit.Ww (by omega) (by omega) ?_;refine⟨(k+1,(z+x.toNat % 128*128 ^ k,v)),⟨by omega,?_,?_⟩,⟨cG,⟨.inr (.inl ⟨p7 C.cel (p7 (C.int .i64) n),rfl⟩),trivial⟩⟩,⟨.inl ⟨_,rfl,.inl ⟨rfl,rfl⟩⟩,trivial⟩,cH l⟩
    ·have h6:6-k=(6-(k+1))+1:=by omega
     rw[<-a,h6];simp only[mF];rw[vv (by omega),show x.toNat % 128=x.toNat-128 by omega]
    ·rw[Nat.pow_succ];have:x.toNat % 128*128 ^ k<=127*128 ^ k:=Nat.mul_le_mul_right _ (by omega);simp only[];omega
 ·have p:k=6:=by omega
  subst p;refine OM rfl ⟨rfl,?_⟩;rw[<-a];rfl
def Ia (f:Nat):Prop:=∀(t:Nat) (pre post:List C) (x:Int) (bs:List UInt8),bY pre->bY post ->
 CallsTX PZ f [.own 1000 0,.own 1001 pre.length] [RB bs,.win t pre [IC x] post] (fun Mo c=>∃n r,gk bs=some (n,r)/\Mo=[RB r,.win t pre [IC n] post]/\c=.tup []) (fun v=>v=eV/\gk bs=none)
theorem NM:Ia 113:=by
 intro t pre post x bs _ _;refine ai Tryd.func113 HG rfl fun c d=>?_;refine rn 1000 (Mn bs) rfl rfl rfl (fun h=>⟨rfl,by simp only[gk,h]⟩) fun n r e _=>?_;have b:gk bs=if -bound<=n/\n<=bound then some (n,r) else none:=by simp only[gk,e]
 refine⟨.inl ⟨0,rfl,?_⟩⟩;refine⟨.inl ⟨0,rfl,?_⟩⟩;refine aR (fun a=>?_) (fun a=>?_)
 ·have a:-bound<=n:=a;refine⟨.inl ⟨0,rfl,?_⟩⟩;refine tU (sQ (decide (n<=bound))) rfl (fun h=>⟨rfl,?_⟩) fun h=>?_
  ·rw[b,vv (fun q=>XT h q.2)]
  ·exact cS [1000,1001] rfl rfl rfl rfl ⟨n,r,by rw[b,j3 ⟨a,Xw h⟩],rfl,rfl⟩
 ·have a:¬-bound<=n:=a;refine tU (sQ false) rfl (fun h=>⟨rfl,?_⟩) fun h=>by cases h
  rw[b,vv (fun q=>a q.1)]
theorem xV (m:Int) (bs:List UInt8):Lh 114 [.own 1000 0,IC m] bs (CY bs) (fun n=>IC n):=by
 refine ai Tryd.func114 HI rfl fun d f=>?_;refine rn 1000 (Mn bs) rfl rfl rfl (fun h=>⟨rfl,by simp only[CY,h]⟩) fun n r e _=>?_;have b:CY bs=if 0<=n/\n<=100000/\n<=r.length then some (n.toNat,r) else none:=by simp only[CY,e]
 refine aR (fun a=>?_) (fun a=>?_)
 ·have a:0<=n:=a;refine aR (fun c=>?_) (fun c=>?_)
  ·refine tU (sQ (decide (n<=(af r).length))) rfl (fun h=>⟨rfl,?_⟩) fun h=>?_
   ·have h:=XT h;rw[aK] at h;rw[b,vv (fun q=>h q.2.2)]
   ·have h:=Xw h;rw[aK] at h;exact cS [1000] rfl rfl rfl (p7 (C.int .i64) (show n=(n.toNat:Int) by omega)) ⟨n.toNat,r,by rw[b,j3 ⟨a,c,h⟩],rfl,rfl⟩
  ·refine tU (sQ false) rfl (fun h=>⟨rfl,?_⟩) fun h=>by cases h
   rw[b,vv (fun q=>c q.2.1)]
 ·refine tU (sQ false) rfl (fun h=>⟨rfl,?_⟩) fun h=>by cases h
  rw[b,vv (fun q=>a q.1)]
theorem NN:nk PZ 52 "leasehold/snapshot.num"=some 113:=by kernel_rfl
theorem xW:nk PZ 52 "leasehold/snapshot.size"=some 114:=by kernel_rfl
theorem Ib {cs:List C}{o:Nat}{c:C}(h:cs[o]?=some c):cs=cs.take o++([c]++cs.drop (o+1)):=by
 have a:=(Xe.1 h).1;have b:=(Xe.1 h).2
 conv=>lhs;rw[<-List.take_append_drop o cs,X6 a,b]
 rfl
theorem Ej {cs:List C}{o:Nat}{c d:C}(h:cs[o]?=some c):cs.set o d=cs.take o++([d]++cs.drop (o+1)):=by
 have a:=(Xe.1 h).1;have b:(cs.set o d)[o]?=some d:=by simp[a]
 have:=Ib b
 rwa [List.take_set_of_le (Xy o),List.drop_set_of_lt (by omega)] at this
theorem Ia.cell {f:Nat}(h:Ia f) (t:Nat) (cs:List C) (o:Nat) (x:Int) (bs:List UInt8) (hi:bY cs) (b:cs[o]?=some (IC x)) :
  CallsTX PZ f [.own 1000 0,.own 1001 o] [RB bs,.win t cs [] []] (fun Mo c=>∃n r,gk bs=some (n,r)/\Mo=[RB r,.win t (cs.set o (IC n)) [] []]/\c=.tup []) (fun v=>v=eV/\gk bs=none):=by
 have a:(cs.take o).length=o:=by have:=(Xe.1 b).1;simp;omega
 have j:bY ([]:List C):=fun c d=>by cases d
 have:=h t (cs.take o) (cs.drop (o+1)) x bs (hi.take o) (hi.drop _);rw[a] at this;refine this.view (vw.same (vw.cons (mV (by simpa using Ib b) (hi.take o) (hi.drop _)) (vw.refl []))) ?_ fun _ h=>h;rintro Mo c ⟨n,r,e,rfl,rfl⟩;exact⟨_,vw.same (vw.cons (mV (by simpa using(Ej b).symm) (hi.set rfl) j) (vw.refl [])),n,r,e,rfl,rfl⟩
theorem Ia.box {f:Nat}(h:Ia f) (t:Nat) (x:Int) (bs:List UInt8) :
  CallsTX PZ f [.own 1000 0,.own 1001 0] [RB bs,.box t [IC x]] (fun Mo c=>∃n r,gk bs=some (n,r)/\Mo=[RB r,.box t [IC n]]/\c=.tup []) (fun v=>v=eV/\gk bs=none):=by
 have a:bY ([]:List C):=fun c b=>by cases b
 refine(h t [] [] x bs a a).view (vw.same (vw.cons (u7 rfl a a) (vw.refl []))) ?_ fun _ h=>h;rintro Mo c ⟨n,r,e,rfl,rfl⟩;exact⟨_,vw.same (vw.cons (Ab rfl) (vw.refl [])),n,r,e,rfl,rfl⟩
def Ai {a:Type}(g:a->C):List C->List Nat->List a->List C
 | cs,o::os,n::ns=>Ai g (cs.set o (g n)) os ns
 | cs,_,_=>cs
def Pm (f:Nat):Prop:=∀(t:Nat) (cs:List C) (a:List Nat) (bs:List UInt8),bY cs->(∀o∈a,∃x,cs[o]?=some (IC x)) ->
 CallsTX PZ f [.ifo none 52 1000 0,.slo 1001 a] [RB bs,.win t cs [] []] (fun Mo c=>∃ns r,bA gk a.length bs=some (ns,r)/\Mo=[RB r,.win t (Ai IC cs a ns) [] []]/\c=.tup []) (fun v=>v=eV/\bA gk a.length bs=none)
theorem Ic {cs:List C}{o p:Nat}{n x:Int}(h:cs[p]?=some (IC x)):∃y,(cs.set o (IC n))[p]?=some (IC y):=by
 have a:=(Xe.1 h).1
 by_cases b:o=p
 ·subst b;exact⟨n,by simp[a]⟩
 ·exact⟨x,by rw[Yb b];exact h⟩
theorem Q6:Pm 55:=by
 intro t cs a bs hi ho;refine ai Tryd.func55 DX rfl fun hw al=>?_;have an:a.length<=9223372036854775807:=by have h:=hw.2.1;simp only[Wf,maxLen] at h;exact h
 refine bX a.length 8 [] (cs,bs) (fun _=>[]) (fun s=>[(1000,RB s.2),(1001,.win t s.1 [] [])])
  (fun k s=>(∀ns r,bA gk (a.length-k) s.2=some (ns,r)->∃b,bA gk a.length bs=some (b,r)/\Ai IC cs a b=Ai IC s.1 (a.drop k) ns)/\(bA gk (a.length-k) s.2=none->bA gk a.length bs=none)/\bY s.1/\∀o∈a,∃x,s.1[o]?=some (IC x))
  ⟨fun ns r h=>⟨ns,h,rfl⟩,fun h=>h,hi,ho⟩ (aq rfl) trivial ⟨.inl ⟨_,rfl,.inl ⟨rfl,rfl⟩⟩,.inl ⟨_,rfl,.inl ⟨rfl,rfl⟩⟩,trivial⟩ (fun _=>rfl) (fun _=>rfl) ?_
 rintro k ⟨ds,c⟩ hk ⟨f,q,h3,h4⟩ _ _ ac;refine aR (fun d=>?_) (fun l=>?_)
 ·have d:k<a.length:=by omega
  refine ef d fun o z w hd=>?_;have j:a.length-k=(a.length-(k+1))+1:=by omega
  simp only[j,hd,bA] at f q;refine qf (h4 o w) fun x hx=>?_;refine⟨by omega,by omega,?_⟩;refine⟨o,z,?_⟩;refine⟨113,NN,?_⟩;refine bP [1000,1001] (NM.cell t ds o x c h3 hx) rfl rfl rfl rfl (fun v ⟨e,h⟩=>⟨e,q (by simp only[h])⟩) ?_;rintro v Mo ⟨n,r,e,rfl,rfl⟩ _ _;refine⟨rfl,?_⟩;simp only[e] at f q;refine Fit.Ww (by omega) (by omega) ?_;refine⟨(k+1,ds.set o (IC n),r),⟨by omega,fun ns r' h=>?_,fun h=>?_,h3.set rfl,fun p hp=>?_⟩,⟨cG,trivial⟩,⟨.inl ⟨_,rfl,.inl ⟨rfl,rfl⟩⟩,.inl ⟨_,rfl,.inl ⟨rfl,rfl⟩⟩,trivial⟩,cH d⟩
  ·obtain⟨b,u,m⟩:=f (n::ns) r' (by simp only[h]);exact⟨b,u,by rw[m];rfl⟩
  ·exact q (by simp only[h])
  ·obtain⟨y,hy⟩:=h4 p hp;exact Ic hy
 ·have l:a.length-k=0:=by omega
  rw[l] at f;obtain⟨b,u,m⟩:=f [] c rfl;rw[List.drop_eq_nil_of_le (by omega)] at m;exact cS [1000,1001] rfl rfl rfl rfl ⟨b,c,u,by rw[m];rfl,rfl⟩
def Pn (f:Nat):Prop:=∀(t:Nat) (cs:List C) (a:List Nat) (bs:List UInt8),bY cs->(∀o∈a,∃x,cs[o]?=some (.bool x)) ->
 CallsTX PZ f [.ifo none 52 1000 0,.slo 1001 a] [RB bs,.win t cs [] []] (fun Mo c=>∃ns r,bA oZ a.length bs=some (ns,r)/\Mo=[RB r,.win t (Ai C.bool cs a ns) [] []]/\c=.tup []) (fun v=>v=eV/\bA oZ a.length bs=none)
theorem Fz {cs:List C}{o p:Nat}{n x:Bool}(h:cs[p]?=some (.bool x)):∃y,(cs.set o (.bool n))[p]?=some (.bool y):=by
 have a:=(Xe.1 h).1
 by_cases b:o=p
 ·subst b;exact⟨n,by simp[a]⟩
 ·exact⟨x,by rw[Yb b];exact h⟩
theorem take_one {cs:List C}{o:Nat}{c:C}(h:cs[o]?=some c):(cs.drop o).take 1=[c]:=by
 have a:=(Xe.1 h).1;have b:=(Xe.1 h).2;rw[X6 a,b];rfl
theorem C5 {cs:List C}{o:Nat}{c d:C}(h:cs[o]?=some c):eJ cs o [d]=cs.set o d:=by
 rw[Ej (d:=d) h];simp[eJ]
theorem Po {cs:List C}{o:Nat}{c:C}(h:cs[o]?=some c):o+1<=cs.length:=(Xe.1 h).1
theorem Q7:Pn 64:=by
 intro t cs a bs hi ho;refine ai Tryd.func64 DZ rfl fun hw ao=>?_;have ap:a.length<=9223372036854775807:=by have h:=hw.2.1;simp only[Wf,maxLen] at h;exact h
 refine bX a.length 9 [] (cs,bs) (fun _=>[]) (fun s=>[(1000,RB s.2),(1001,.win t s.1 [] [])])
  (fun k s=>(∀ns r,bA oZ (a.length-k) s.2=some (ns,r)->∃b,bA oZ a.length bs=some (b,r)/\Ai C.bool cs a b=Ai C.bool s.1 (a.drop k) ns)/\(bA oZ (a.length-k) s.2=none->bA oZ a.length bs=none)/\bY s.1/\∀o∈a,∃x,s.1[o]?=some (.bool x))
  ⟨fun ns r h=>⟨ns,h,rfl⟩,fun h=>h,hi,ho⟩ (aq rfl) trivial ⟨.inl ⟨_,rfl,.inl ⟨rfl,rfl⟩⟩,.inl ⟨_,rfl,.inl ⟨rfl,rfl⟩⟩,trivial⟩ (fun _=>rfl) (fun _=>rfl) ?_
 rintro k ⟨ds,c⟩ hk ⟨f,j,h3,h4⟩ _ _ ag;refine aR (fun d=>?_) (fun m=>?_)
 ·have d:k<a.length:=by omega
  refine ef d fun o ad z hd=>?_;have l:a.length-k=(a.length-(k+1))+1:=by omega
  simp only[l,hd,bA] at f j;refine qf (h4 o z) fun x hx=>?_;refine⟨by omega,by omega,?_⟩;refine⟨o,ad,?_⟩;refine⟨.inr ⟨_,take_one hx,rfl,?_⟩⟩;refine aH (fun _=>?_) (fun _=>?_)
  all_goals
   refine⟨113,NN,?_⟩;refine bP [1000,6] (NM.box 3 _ c) rfl rfl rfl rfl (fun v ⟨e,h⟩=>⟨e,j (by simp only[oZ,h])⟩) ?_;rintro v Mo ⟨n,r,e,rfl,rfl⟩ _ _;refine⟨rfl,?_⟩;have hb:oZ c=if n=0\/n=1 then some (decide (n=1),r) else none:=by simp only[oZ,e]
   refine aR (fun hn=>?_) (fun hn=>?_)
  all_goals
   refine tU (sQ _) rfl (fun h=>?_) fun h=>?_
   ·first
     | cases h
     | (have h:=XT h
        exact⟨rfl,j (by rw[hb,vv (fun q=>q.elim hn h)])⟩)
   have aa:n=0\/n=1:=by first | exact .inl hn | exact .inr (Xw h)
   rw[j3 aa] at hb;simp only[hb] at f j;refine⟨.inr ⟨ds.set o (.bool (decide (n=1))),Po hx,rfl,C5 hx,?_⟩⟩;refine Fit.Ww (by omega) (by omega) ?_;refine⟨(k+1,ds.set o (.bool (decide (n=1))),r),⟨by omega,fun ns r' h=>?_,fun h=>?_,h3.set rfl,fun p hp=>?_⟩,⟨cG,trivial⟩,⟨.inl ⟨_,rfl,.inl ⟨rfl,rfl⟩⟩,.inl ⟨_,rfl,.inl ⟨rfl,rfl⟩⟩,trivial⟩,cH d⟩
   ·obtain⟨b,w,u⟩:=f (decide (n=1)::ns) r' (by simp only[h]);exact⟨b,w,by rw[u];rfl⟩
   ·exact j (by simp only[h])
   ·obtain⟨y,hy⟩:=h4 p hp;exact Fz hy
 ·have m:a.length-k=0:=by omega
  rw[m] at f;obtain⟨b,w,u⟩:=f [] c rfl;rw[List.drop_eq_nil_of_le (by omega)] at u;exact cS [1000,1001] rfl rfl rfl rfl ⟨b,c,w,by rw[u];rfl,rfl⟩
def xD (sz:Nat) (l:List C):Prop:=l.length=sz/\dn l=true/\dH l=true
theorem Ie {a:Type}{cs:a->List C}{z:List C}{done:List a}{n k:Nat}{x:a}(c:done.length=k) (b:k<n) :
  (done.map cs++List.replicate (n-done.length) z).set k (cs x)=(done++[x]).map cs++List.replicate (n-(done++[x]).length) z:=by
 subst c;rw[show n-done.length=(n-(done++[x]).length)+1 by simp;omega,X2,List.set_append_right _ _ (by simp)];simp
theorem gJ {y:Type}{f:Nat}{fi ca:List C}{b:Dec y}{z:List C}{cs:y->List C}{sz e:Nat}(hd:ga f fi ca b z cs) (he:mg PZ f) (ag:IK e=true)
  (ac:∀c∈fi++.ifo none 52 1000 0::ca,c.kill 1001=c/\qR 1001 sz c=c) (d:∀x,xD sz (cs x)) (hz:xD sz z) {n k:Nat}{done:List y}(hk:done.length=k) (aa:k<n) (a:List UInt8) :
  kC PZ f (fi++.ifo none 52 1000 0::.elr 1001 k 0::ca) [RB a,.row e sz (done.map cs++List.replicate (n-done.length) z)]
   (fun Mo c=>∃x r,b a=some (x,r)/\Mo=[RB r,.row e sz ((done++[x]).map cs++List.replicate (n-(done++[x]).length) z)]/\c=.tup []) (fun v=>v=eV/\b a=none):=by
 have s:∀l∈done.map cs++List.replicate (n-done.length) z,xD sz l:=by
  intro l o;rcases yo.1 o with o | o
  ·obtain⟨x,_,rfl⟩:=XI.1 o;exact d x
  ·rw[List.eq_of_mem_replicate o];exact hz
 have hj:(done.map cs++List.replicate (n-done.length) z)[k]?=some z:=by
  subst hk;rw[Xr (by simp),Xt,Nat.sub_self,List.getElem?_replicate,j3 (by omega)]
 have:=CallsTX.W8 (A:=RB a) (R:=fun A' es' c=>∃x r,b a=some (x,r)/\A'=RB r/\es'=cs x/\c=.tup []) (Pp:=fun v=>v=eV/\b a=none) he ag rfl ⟨_,_,rfl⟩ ac hj s
  (fun pre post u h2=>(hd e pre post a u h2).imp (fun Mo c ⟨x,r,t,m,p⟩=>⟨RB r,cs x,m,x,r,t,rfl,rfl,p⟩) fun _ h=>h)
  (fun A' es' c ⟨x,r,t,m,p,q4⟩=>by
   subst m p q4;refine⟨(d x).1,(d x).2.1,(d x).2.2,rfl,fun F L L' v h=>?_⟩;simp only[Rel] at h ⊢;exact h)
 refine⟨fun F Li vs u h2 h3=>?_⟩;have q:=this.out F Li vs u h2 h3;have j:∀{F':aA}{Lo:List Own}{v:Value},gu Li (fun Mo c=>∃A' es',Mo=[A',.row e sz ((done.map cs++List.replicate (n-done.length) z).set k es')]/\∃x r,b a=some (x,r)/\A'=RB r/\es'=cs x/\c=.tup []) F' Lo v ->
   gu Li (fun Mo c=>∃x r,b a=some (x,r)/\Mo=[RB r,.row e sz ((done++[x]).map cs++List.replicate (n-(done++[x]).length) z)]/\c=.tup []) F' Lo v:=by
  rintro F' Lo v ⟨Mo,c,t,m,p,q4,A',es',rfl,x,r,e1,rfl,rfl,rfl⟩;exact⟨_,_,t,m,p,q4,x,r,e1,by rw[Ie hk aa],rfl⟩
 exact⟨q.ent,fun F G L v ae r=>⟨gu.WH _ _ _ _ ae r.1,r.2⟩,fun w hs=>(q.run w hs).mono fun _ _ k=>k.imp (fun⟨v,F',Lo,e1,e2,e3,e4,e5⟩=>⟨v,F',Lo,e1,e2,e3,j e4,e5⟩) id⟩
theorem j9 {bs r:List UInt8}{n:Nat}(h:CY bs=some (n,r)):n<=100000:=by
 unfold CY at h;split at h
 ·split at h
  ·injection h with h
   injection h with h1 h2
   omega
  ·cases h
 ·cases h
end Go.Fr.Tryd
