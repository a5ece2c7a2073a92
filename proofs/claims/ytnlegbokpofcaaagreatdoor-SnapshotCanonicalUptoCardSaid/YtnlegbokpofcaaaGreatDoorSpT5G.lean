/- Part of the proofs of the statements of this seat. -/
import Derived.Test.YtnlegbokpofcaaaGreatDoorSpW1G
set_option maxRecDepth 10000
set_option linter.unusedVariables false
set_option linter.unusedSimpArgs false
namespace Go.Fr.Tryz
open Go Go.RowKit Go.Proofs Go.Fr Go.Fr.T Go.Fr.Api
theorem j9 (z:Nat):1<=(bP z).length:=by
 rw[bP];split<;>simp
theorem Bm (m:Nat):IntKind.wrap .u8 (128+(m:Int).tmod 128)=((UInt8.ofNat (128+m % 128)).toNat:Int):=by
 rw[show(128+(m:Int).tmod 128)=((128+m % 128:Nat):Int) from rfl,UInt8.toNat_ofNat'];simp only[IntKind.wrap,IntKind.bits,IntKind.signed,abd,Nat.reducePow,Int.reducePow];simp
theorem Bn (m:Nat):IntKind.wrap .u8 (m:Int)=((UInt8.ofNat m).toNat:Int):=by
 rw[UInt8.toNat_ofNat'];simp only[IntKind.wrap,IntKind.bits,IntKind.signed,abd,Nat.reducePow,Int.reducePow];simp
theorem P4 (t:Nat) (bs:List UInt8):CallsT PZ 50 [.own 1000 0] [.box t [.sl (af bs),IC 0,.int .i8 0]] (iD [.box t [.sl (af bs),IC 0,.int .i8 0]] (.sl (af bs))):=by
 refine aj Tryz.func50 Mv rfl fun c b=>?_;have a:(af bs).length=bs.length:=aM;refine Cb.mk (aaI 0) (by omega) (aaI _) gA ?_;refine yO [1000] rfl rfl rfl (j3 C.sl (?_:((af bs).drop 0).take (((af bs).length:Int).toNat-0)=af bs));rw[ij,a];simp
theorem RH (t:Nat) (bs:List UInt8) (n:Int) (k:-2305843009213693952<=n) (p:n<=2305843009213693952) (hb:bs.length+(bP (zz n)).length<=70368744177664):CallsT PZ 63 [.own 1000 0,IC n] (WB t bs) (iD (WB t (bs++bP (zz n))) (.tup [])):=by
 refine aj Tryz.func63 MB rfl fun o l=>?_;have j:zz n<=4611686018427387904:=by unfold zz;split<;>omega
 refine Fit.ZA (by omega) (by omega) ?_;refine aN (fun f=>?_) (fun e=>?_)
 ·refine Fit.ZA (by omega) (by omega) ?_;refine Fit.ZA (by omega) (by omega) ?_;refine xg.mk ⟨Nat×List UInt8,(zz n,bs),fun y=>y.1<=4611686018427387904/\y.2++bP y.1=bs++bP (zz n),[4],fun y=>[.int .i64 y.1],fun y=>Eb t y.2,fun y=>y.1,⟨j,rfl⟩,⟨.inr (.inl ⟨?_,rfl⟩),trivial⟩,
   ⟨.inl ⟨_,rfl,.inl ⟨rfl,rfl⟩⟩,.inl ⟨_,rfl,.inl ⟨rfl,rfl⟩⟩,trivial⟩,fun _=>rfl,fun _=>rfl,?_⟩
  ·exact j3 (C.int .i64) (by unfold zz;rw[o6 f];omega)
  rintro⟨m,done⟩ ⟨d,a⟩ _ _;simp only at a d;have h:done.length+(bP m).length<=70368744177664:=by
   have:=j3 List.length a;simp only[aak] at this;omega
  have k:=j9 m;refine aN (fun c=>?_) (fun c=>?_)
  ·have c:128<=m:=by have:(128:Int)<=(m:Int):=c;omega
   have b:bP m=UInt8.ofNat (128+m % 128)::bP (m / 128):=by rw[bP,dif_neg (by omega)]
   refine nP.mk (by omega) ?_;refine Fit.to (m:=128+(m:Int).tmod 128) (bU (by rw[show(m:Int).tmod 128=((m % 128:Nat):Int) from rfl];omega) (by rw[show(m:Int).tmod 128=((m % 128:Nat):Int) from rfl];omega)) ?_;refine Fit.to (Bm m) ?_;refine callO [1000,1001] [1000,1001] (zY t [] rfl done (UInt8.ofNat (128+m % 128)) (by omega)) rfl rfl rfl rfl rfl fun _ _=>?_;refine nP.mk (by omega) ?_;refine Fit.to (m:=((m / 128:Nat):Int)) (by show IntKind.wrap .i64 ((m / 128:Nat):Int)=_;exact bU (by omega) (by omega)) ?_;refine⟨(m / 128,done++[UInt8.ofNat (128+m % 128)]),⟨?_,?_⟩,⟨.inr (.inl ⟨rfl,rfl⟩),trivial⟩,⟨.inl ⟨_,rfl,.inl ⟨rfl,rfl⟩⟩,.inl ⟨_,rfl,.inl ⟨rfl,rfl⟩⟩,trivial⟩,?_⟩
   ·show m / 128<=_;omega
   ·show done++[UInt8.ofNat (128+m % 128)]++bP (m / 128)=bs++bP (zz n);rw[<-a,b];simp
   ·show m / 128<m;omega
  ·have c:m<128:=by have:¬(128:Int)<=(m:Int):=c;omega
   have b:bP m=[UInt8.ofNat m]:=by rw[bP,dif_pos c]
   refine Fit.to (Bn m) ?_;refine callO [1000,1001] [1000,1001] (zY t [] rfl done (UInt8.ofNat m) (by omega)) rfl rfl rfl rfl rfl fun _ _=>?_;exact yO [1000,1001] rfl rfl (j3 (WB t) (by rw[<-a,b])) rfl
 ·refine xg.mk ⟨Nat×List UInt8,(zz n,bs),fun y=>y.1<=4611686018427387904/\y.2++bP y.1=bs++bP (zz n),[4],fun y=>[.int .i64 y.1],fun y=>Eb t y.2,fun y=>y.1,⟨j,rfl⟩,⟨.inr (.inl ⟨?_,rfl⟩),trivial⟩,
   ⟨.inl ⟨_,rfl,.inl ⟨rfl,rfl⟩⟩,.inl ⟨_,rfl,.inl ⟨rfl,rfl⟩⟩,trivial⟩,fun _=>rfl,fun _=>rfl,?_⟩
  ·exact j3 (C.int .i64) (by unfold zz;rw[vz e];omega)
  rintro⟨m,done⟩ ⟨d,a⟩ _ _;simp only at a d;have h:done.length+(bP m).length<=70368744177664:=by
   have:=j3 List.length a;simp only[aak] at this;omega
  have k:=j9 m;refine aN (fun c=>?_) (fun c=>?_)
  ·have c:128<=m:=by have:(128:Int)<=(m:Int):=c;omega
   have b:bP m=UInt8.ofNat (128+m % 128)::bP (m / 128):=by rw[bP,dif_neg (by omega)]
   refine nP.mk (by omega) ?_;refine Fit.to (m:=128+(m:Int).tmod 128) (bU (by rw[show(m:Int).tmod 128=((m % 128:Nat):Int) from rfl];omega) (by rw[show(m:Int).tmod 128=((m % 128:Nat):Int) from rfl];omega)) ?_;refine Fit.to (Bm m) ?_;refine callO [1000,1001] [1000,1001] (zY t [] rfl done (UInt8.ofNat (128+m % 128)) (by omega)) rfl rfl rfl rfl rfl fun _ _=>?_;refine nP.mk (by omega) ?_;refine Fit.to (m:=((m / 128:Nat):Int)) (by show IntKind.wrap .i64 ((m / 128:Nat):Int)=_;exact bU (by omega) (by omega)) ?_;refine⟨(m / 128,done++[UInt8.ofNat (128+m % 128)]),⟨?_,?_⟩,⟨.inr (.inl ⟨rfl,rfl⟩),trivial⟩,⟨.inl ⟨_,rfl,.inl ⟨rfl,rfl⟩⟩,.inl ⟨_,rfl,.inl ⟨rfl,rfl⟩⟩,trivial⟩,?_⟩
   ·show m / 128<=_;omega
   ·show done++[UInt8.ofNat (128+m % 128)]++bP (m / 128)=bs++bP (zz n);rw[<-a,b];simp
   ·show m / 128<m;omega
  ·have c:m<128:=by have:¬(128:Int)<=(m:Int):=c;omega
   have b:bP m=[UInt8.ofNat m]:=by rw[bP,dif_pos c]
   refine Fit.to (Bn m) ?_;refine callO [1000,1001] [1000,1001] (zY t [] rfl done (UInt8.ofNat m) (by omega)) rfl rfl rfl rfl rfl fun _ _=>?_;exact yO [1000,1001] rfl rfl (j3 (WB t) (by rw[<-a,b])) rfl
theorem Vv (n:Int):fH kW 167 [.own 1000 0,.pt [IC n] 0] (kW.num n):=by
 intro bs hb;have hb:bs.length+(bP (zz n)).length<=70368744177664:=hb;refine aq Tryz.func167 CO rfl fun c b=>?_;refine aN (fun a=>?_) (fun a=>?_)
 ·have a:-1099511627776<=n:=a;refine u4 (uo (decide (n<=1099511627776))) rfl (fun h=>⟨rfl,?_⟩) fun h=>?_
  ·show(decide (-1099511627776<=n)&&decide (n<=1099511627776))=false;rw[h,aaS]
  ·have h:=aaz h;refine callO [1000,1001] [1000,1001] (RH 108 bs n (by omega) (by omega) hb) rfl rfl rfl rfl rfl fun _ _=>?_;refine dz [1000,1001] rfl rfl rfl rfl ⟨?_,rfl,rfl⟩;show(decide (-1099511627776<=n)&&decide (n<=1099511627776))=true;simp[a,h]
 ·have a:¬-1099511627776<=n:=a;refine u4 (uo false) rfl (fun h=>⟨rfl,?_⟩) fun h=>by cases h
  show(decide (-1099511627776<=n)&&decide (n<=1099511627776))=false;simp[a]
theorem Vw (n:Nat):SS kW 168 [.own 1000 0,IC n] (kW.siz n) (IC n):=by
 intro bs hb;have hb:bs.length+(bP (zz n)).length<=70368744177664:=hb;refine aq Tryz.func168 JL rfl fun c a=>?_;refine u4 (uo (decide ((n:Int)<=100000))) rfl (fun h=>⟨rfl,h⟩) fun h=>?_;have b:=aaz h;refine callO [1000,1001] [1000,1001] (RH 108 bs n (by omega) (by omega) hb) rfl rfl rfl rfl rfl fun _ _=>?_;exact dz [1000,1001] rfl rfl rfl rfl ⟨h,rfl,rfl⟩
def yY (n:Int) (k:Nat):UInt8:=UInt8.ofNat ((n.fdiv (2 ^ (8*k))).emod 256).toNat
theorem CZ (n:Int) (k:Nat) (h:k<8):(Dn n).take (k+1)=(Dn n).take k++[yY n k]:=by
 have a:(Dn n).length=8:=by simp[Dn]
 rw[List.take_add_one,aag (by omega)];simp[Dn,yY]
theorem NX (n:Int) (k:Nat):IntKind.wrap .u8 (n.fdiv (2 ^ (8*k)))=((yY n k).toNat:Int):=by
 unfold yY;rw[UInt8.toNat_ofNat'];have b:0<=(n.fdiv (2 ^ (8*k))).emod 256:=Int.emod_nonneg _ (by omega);have a:(n.fdiv (2 ^ (8*k))).emod 256<256:=Int.emod_lt_of_pos _ (by omega);generalize n.fdiv (2 ^ (8*k))=z at b a ⊢;simp only[IntKind.wrap,IntKind.bits,IntKind.signed,abd,Nat.reducePow,Int.reducePow];have c:z.emod 256=z % 256:=rfl;rw[c] at b a ⊢;simp;omega
theorem RI (n:Int):fH kL 169 [.own 1000 0,.pt [IC n] 0] (kL.num n):=by
 intro bs hb;have hb:bs.length+(Dn n).length<=70368744177664:=hb;have f:(Dn n).length=8:=by simp[Dn]
 refine aq Tryz.func169 CP rfl fun l h=>?_;refine bF 8 5 [] bs (fun _=>[]) (fun s=>Eb 124 s) (fun k s=>s=bs++(Dn n).take k) (by simp) (ak rfl) trivial ⟨.inl ⟨_,rfl,.inl ⟨rfl,rfl⟩⟩,.inl ⟨_,rfl,.inl ⟨rfl,rfl⟩⟩,trivial⟩ (fun _=>rfl) (fun _=>rfl) ?_;rintro k s j c _ _ _;have e:s.length=bs.length+k:=by rw[c];simp[f];omega
 refine aN (fun a=>?_) (fun b=>?_)
 ·have a:k<8:=by omega
  refine Fit.ZA (by omega) (by omega) ?_;refine⟨by omega,?_⟩;have d:min ((8:Int)*(k:Int)).toNat 64=8*k:=by omega
  refine Fit.to (m:=((yY n k).toNat:Int)) (by rw[show(min ((8:Int)*(k:Int)).toNat IntKind.i64.bits)=min ((8:Int)*(k:Int)).toNat 64 from rfl,d];exact NX n k) ?_;refine AY [1000,1001] [1000,1001] (zY 124 [] rfl s (yY n k) (by omega)) rfl rfl rfl rfl rfl fun _ _=>?_;refine Fit.ZA (by omega) (by omega) ?_;exact⟨(k+1,s++[yY n k]),⟨by omega,by rw[c,CZ n k a];simp⟩,⟨bL,trivial⟩,⟨.inl ⟨_,rfl,.inl ⟨rfl,rfl⟩⟩,.inl ⟨_,rfl,.inl ⟨rfl,rfl⟩⟩,trivial⟩,bM a⟩
 ·have b:k=8:=by omega
  subst b;refine dz [1000,1001] rfl rfl rfl rfl ⟨rfl,?_,rfl⟩;refine j3 (WB 124) ?_;rw[c,aaZ (by omega)];rfl
theorem Vx (n:Nat):SS kL 170 [.own 1000 0,IC n] (kL.siz n) (IC n):=by
 intro bs hb;have a:CallsT PZ 169 [.own 1000 0,.pt [IC n] 0] (WB 124 bs) (iD (WB 124 (bs++Dn n)) (.tup [])):=CallsTX.noPan ((RI n bs hb).imp (fun Mo c ⟨_,d,b⟩=>⟨d,b⟩) fun v ⟨_,h⟩=>by cases h);refine aq Tryz.func170 JM rfl fun f e=>?_;refine callO [1000,1001] [1000,1001] a rfl rfl rfl rfl rfl fun _ _=>?_;exact dz [1000,1001] rfl rfl rfl rfl ⟨rfl,rfl,rfl⟩
def Vy (k:Kd) (f:Nat) (n:Int):Prop:=∀bs,bs.length+(k.num n).1.length<=70368744177664 ->
 CallsTX PZ f [.own 1000 0,.own 1002 0] (WB k.tb bs++[.box 3 [IC n]]) (fun Mo c=>(k.num n).2=true/\Mo=WB k.tb (bs++(k.num n).1)++[.box 3 [IC n]]/\c=.tup []) (fun v=>v=fL/\(k.num n).2=false)
theorem RJ (n:Int):Vy kW 167 n:=by
 intro bs hb;have hb:bs.length+(bP (zz n)).length<=70368744177664:=hb;refine aq Tryz.func167 CO rfl fun c b=>?_;refine aN (fun a=>?_) (fun a=>?_)
 ·have a:-1099511627776<=n:=a;refine u4 (uo (decide (n<=1099511627776))) rfl (fun h=>⟨rfl,?_⟩) fun h=>?_
  ·show(decide (-1099511627776<=n)&&decide (n<=1099511627776))=false;rw[h,aaS]
  ·have h:=aaz h;refine callO [1000,1001] [1000,1001] (RH 108 bs n (by omega) (by omega) hb) rfl rfl rfl rfl rfl fun _ _=>?_;refine dz [1000,1001,1002] rfl rfl rfl rfl ⟨?_,rfl,rfl⟩;show(decide (-1099511627776<=n)&&decide (n<=1099511627776))=true;simp[a,h]
 ·have a:¬-1099511627776<=n:=a;refine u4 (uo false) rfl (fun h=>⟨rfl,?_⟩) fun h=>by cases h
  show(decide (-1099511627776<=n)&&decide (n<=1099511627776))=false;simp[a]
theorem RM (n:Int):Vy kL 169 n:=by
 intro bs hb;have hb:bs.length+(Dn n).length<=70368744177664:=hb;have f:(Dn n).length=8:=by simp[Dn]
 refine aq Tryz.func169 CP rfl fun l h=>?_;refine bF 8 5 [] bs (fun _=>[]) (fun s=>[(1000,.box 124 [.rw 1001,IC 0,.int .i8 0]),(1001,.row 5 1 (af s)),(1002,.box 3 [IC n])]) (fun k s=>s=bs++(Dn n).take k) (by simp) (ak rfl) trivial ⟨.inl ⟨_,rfl,.inl ⟨rfl,rfl⟩⟩,.inl ⟨_,rfl,.inl ⟨rfl,rfl⟩⟩,.inl ⟨_,rfl,.inl ⟨rfl,rfl⟩⟩,trivial⟩ (fun _=>rfl) (fun _=>rfl) ?_;rintro k s j c _ _ _;have e:s.length=bs.length+k:=by rw[c];simp[f];omega
 refine aN (fun a=>?_) (fun b=>?_)
 ·have a:k<8:=by omega
  refine Fit.ZA (by omega) (by omega) ?_;refine⟨by omega,?_⟩;have d:min ((8:Int)*(k:Int)).toNat 64=8*k:=by omega
  refine Fit.to (m:=((yY n k).toNat:Int)) (by rw[show(min ((8:Int)*(k:Int)).toNat IntKind.i64.bits)=min ((8:Int)*(k:Int)).toNat 64 from rfl,d];exact NX n k) ?_;refine AY [1000,1001] [1000,1001] (zY 124 [] rfl s (yY n k) (by omega)) rfl rfl rfl rfl rfl fun _ _=>?_;refine Fit.ZA (by omega) (by omega) ?_;exact⟨(k+1,s++[yY n k]),⟨by omega,by rw[c,CZ n k a];simp⟩,⟨bL,trivial⟩,⟨.inl ⟨_,rfl,.inl ⟨rfl,rfl⟩⟩,.inl ⟨_,rfl,.inl ⟨rfl,rfl⟩⟩,.inl ⟨_,rfl,.inl ⟨rfl,rfl⟩⟩,trivial⟩,bM a⟩
 ·have b:k=8:=by omega
  subst b;refine dz [1000,1001,1002] rfl rfl rfl rfl ⟨rfl,?_,rfl⟩;refine j3 (fun q=>WB 124 q++[.box 3 [IC n]]) ?_;rw[c,aaZ (by omega)];rfl
theorem W4 (n:Int) (bs:List UInt8):M5 87 [.own 1000 0,IC n] bs (takeD n bs) (fun b=>.sl (af b)):=by
 refine aq Tryz.func87 MF rfl fun j e=>?_;have f:bs.length<=9223372036854775807:=by
  have:=e _ (aaW.2 rfl);exact wh this.1
 have a:(af bs).length=bs.length:=aM;refine aN (fun d=>?_) (fun d=>?_)
 ·refine u4 (uo (decide (n<=(af bs).length))) rfl (fun h=>⟨rfl,?_⟩) fun c=>?_
  ·rw[a] at h;have:=aaV h;simp only[takeD];rw[vz (fun q=>this q.2)]
  ·rw[a] at c;have c:=aaz c;refine Cb.mk (aaI 0) d (by rw[a];exact c) gA ?_;refine Cb.mk d (by rw[a];exact c) (aaI _) gA ?_;refine dz [1000] rfl rfl rfl rfl ⟨_,_,zX d c,?_,?_⟩
   ·refine j3 (fun q=>[TO.box 88 [C.sl q]]) (?_:((af bs).drop n.toNat).take (((af bs).length:Int).toNat-n.toNat)=af (bs.drop n.toNat));rw[ij,a,aaZ (by simp)]
   ·refine j3 C.sl (?_:((af bs).drop 0).take (n.toNat-0)=af (bs.take n.toNat));rw[ij];simp
 ·refine u4 (uo false) rfl (fun h=>⟨rfl,?_⟩) fun c=>by cases c
  simp only[takeD];rw[vz (fun q=>d q.1)]
theorem ug {n:Nat}(h:n<9223372036854775808):IntKind.wrap .i64 (n:Int)=n:=by
 simp only[IntKind.wrap,IntKind.bits,IntKind.signed,aa8,aaU,ge_iff_le,Nat.reduceSub,Int.reducePow];split<;>omega
theorem or_eq {z c k:Nat}(a:z<128 ^ k) (f:c<128) (h:k<6):IntKind.wrap .i64 ((BitVec.ofInt 64 (z:Int) ||| BitVec.ofInt 64 (((c*128 ^ k:Nat)):Int)).toNat:Int)=((z+c*128 ^ k:Nat):Int):=by
 have b:128 ^ k=2 ^ (7*k):=by rw[Nat.pow_mul]
 have hb:128 ^ k<=128 ^ 5:=Nat.pow_le_pow_right (by omega) (by omega);have d:c*128 ^ k<=127*128 ^ 5:=Nat.mul_le_mul (by omega) hb;have e:(BitVec.ofInt 64 (z:Int) ||| BitVec.ofInt 64 ((c*128 ^ k:Nat):Int)).toNat=z+c*128 ^ k:=by
  rw[BitVec.toNat_or,BitVec.ofInt_natCast,BitVec.ofInt_natCast,BitVec.toNat_ofNat,BitVec.toNat_ofNat,Nat.mod_eq_of_lt (by omega),Nat.mod_eq_of_lt (by omega)];rw[b] at a ⊢;rw[Nat.or_comm,Nat.mul_comm,<-Nat.two_pow_add_eq_or_of_lt a];omega
 rw[e];exact ug (by omega)
theorem xor_eq {z:Nat}(a:z<9223372036854775808):IntKind.wrap .i64 ((BitVec.ofInt 64 ((z / 2:Nat):Int) ^^^ BitVec.ofInt 64 (0-((z % 2:Nat):Int))).toNat:Int)=G6 z:=by
 unfold G6;rcases Nat.mod_two_eq_zero_or_one z with h | h
 ·rw[h,o6 rfl];have e:(BitVec.ofInt 64 ((z / 2:Nat):Int) ^^^ BitVec.ofInt 64 (0-((0:Nat):Int))).toNat=z / 2:=by
   rw[show(0-((0:Nat):Int))=((0:Nat):Int) from rfl,BitVec.ofInt_natCast,BitVec.ofInt_natCast];simp;omega
  rw[e];exact ug (by omega)
 ·rw[h,vz (by omega)];have e:(BitVec.ofInt 64 ((z / 2:Nat):Int) ^^^ BitVec.ofInt 64 (0-((1:Nat):Int))).toNat=18446744073709551615-z / 2:=by
   have:BitVec.ofInt 64 (0-((1:Nat):Int))=BitVec.allOnes 64:=by decide
   rw[this,BitVec.ofInt_natCast,BitVec.xor_allOnes,BitVec.toNat_not,BitVec.toNat_ofNat,Nat.mod_eq_of_lt (by omega)]
  rw[e];simp only[IntKind.wrap,IntKind.bits,IntKind.signed,aa8,aaU,ge_iff_le,Nat.reduceSub,Int.reducePow];split<;>omega
def RL (bs:List UInt8):TL:=[(1000,RB bs)]
theorem take1 {x:UInt8}{r:List UInt8}:takeD 1 (x::r)=some ([x],r):=by
 rw[zX (by omega) (by simp only[aau];omega)];rfl
theorem GK:takeD 1 []=none:=by simp[takeD]
theorem rn {d:Type}{PS:qd}{L:TL}{ρ:aX}(a:Nat) {f:Nat}{args b:List C}{bs:List UInt8}{o:Option (d×List UInt8)}{cell:d->C}{K:TL->aX->C->Prop}(h:M5 f b bs o cell)
  (m:L.sub [a]=some [RB bs]) (n:T.mq L [a] [a]=true) (q:(args.map fun c=>c.ZG.ren (cD [a] 1000))=b) (s:o=none->PS.ps fL)
  (k:∀y r,o=some (y,r)->Wf (cell y)->K (((L.ZB [a]).kills (rowsOf L [a])).puts [a] [RB r]) (fF (rowsOf L [a]) ρ) ((cell y).ren (aZ [a])).slt) (t:lT L [a] PS.hb=true:=by rfl):pq PZ PS f args L ρ K :=
 bW [a] h m (by simp[n,aU,RB];rfl) q rfl (fun v ⟨e,h⟩=>e▸s h) (fun v Mo ⟨y,r,p,l,u⟩ j _=>by subst l u;exact⟨rfl,k y r p j⟩) t
theorem NY (bs:List UInt8):M5 44 [.own 1000 0] bs (getD bs) IC:=by
 refine aq Tryz.func44 Mp rfl fun hw ho=>?_;refine bF 6 6 [3] ((0,bs):Nat×List UInt8) (fun s=>[IC s.1]) (fun s=>RL s.2) (fun k s=>lM (6-k) k s.1 s.2=getD bs/\s.1<128 ^ k) ⟨rfl,by simp⟩ (ak rfl) ⟨ak rfl,trivial⟩ ⟨.inl ⟨_,rfl,.inl ⟨rfl,rfl⟩⟩,trivial⟩ (fun _=>rfl) (fun _=>rfl) ?_;rintro k ⟨z,b⟩ hk ⟨a,hz⟩ _ _ _;refine aN (fun l=>?_) (fun q=>?_)
 ·have l:k<6:=by omega
  refine rn 1000 (W4 1 b) rfl rfl rfl (fun h=>?_) fun y r e _=>?_
  ·refine⟨rfl,?_⟩;cases b with
   | nil=>rw[<-a,show 6-k=(5-k)+1 by omega];rfl
   | cons x r=>rw[take1] at h;cases h
  cases b with
  | nil=>rw[GK] at e;cases e
  | cons x u =>
   rw[take1] at e;injection e with e
   injection e with e1 e2
   subst e1 e2;refine Pm (k:=0) (x:=x) rfl ?_;have hx:=x.toNat_lt;refine Fit.ZA (by omega) (by omega) ?_;refine nP.mk (by omega) ?_;have hc:x.toNat % 128<128:=Nat.mod_lt _ (by omega);have t:128 ^ k<=128 ^ 5:=Nat.pow_le_pow_right (by omega) (by omega);have hm:x.toNat % 128*128 ^ k<=127*128 ^ 5:=Nat.mul_le_mul (by omega) t;have w:((x.toNat:Nat):Int).tmod 128*2 ^ (min ((7:Int)*(k:Int)).toNat 64)=((x.toNat % 128*128 ^ k:Nat):Int):=by
    rw[Int.tmod_eq_emod_of_nonneg (by omega),show min ((7:Int)*(k:Int)).toNat 64=7*k by omega];rw[show(128:Nat) ^ k=2 ^ (7*k) by rw[Nat.pow_mul]]
    push_cast
    rfl
   have n:=or_eq hz hc l;refine Fit.ZA (by omega) (by omega) ?_;refine⟨by omega,Fit.to (m:=((x.toNat % 128*128 ^ k:Nat):Int)) (by rw[show(min ((7:Int)*(k:Int)).toNat IntKind.i64.bits)=min ((7:Int)*(k:Int)).toNat 64 from rfl,w];exact bU (by omega) (by omega)) ?_⟩;have aa:z+x.toNat % 128*128 ^ k<9223372036854775808:=by
    have:z<128 ^ 5:=Nat.lt_of_lt_of_le hz t;omega
   refine aN (fun c=>?_) (fun v=>?_)
   ·have c:x.toNat<128:=by omega
    have j:x.toNat % 128=x.toNat:=Nat.mod_eq_of_lt c;have h6:6-k=(6-(k+1))+1:=by omega
    rw[h6] at a;simp only[lM] at a;rw[o6 c] at a;have o:=xor_eq aa;have d:IntKind.wrap .i64 ((IntKind.wrap .i64 ((BitVec.ofInt 64 (z:Int) ||| BitVec.ofInt 64 ((x.toNat % 128*128 ^ k:Nat):Int)).toNat:Int)).tdiv 2)=(((z+x.toNat % 128*128 ^ k) / 2:Nat):Int):=by
     rw[n,Int.tdiv_eq_ediv_of_nonneg (by omega)];exact bU (by omega) (by omega)
    have p:0-(IntKind.wrap .i64 ((BitVec.ofInt 64 (z:Int) ||| BitVec.ofInt 64 ((x.toNat % 128*128 ^ k:Nat):Int)).toNat:Int)).tmod 2=0-(((z+x.toNat % 128*128 ^ k) % 2:Nat):Int):=by
     rw[n,Int.tmod_eq_emod_of_nonneg (by omega)];rfl
    have f:IntKind.wrap .i64 (0-(IntKind.wrap .i64 ((BitVec.ofInt 64 (z:Int) ||| BitVec.ofInt 64 ((x.toNat % 128*128 ^ k:Nat):Int)).toNat:Int)).tmod 2)=0-(((z+x.toNat % 128*128 ^ k) % 2:Nat):Int):=by
     rw[p];exact bU (by omega) (by omega)
    refine aN (fun ac=>?_) (fun ac=>?_)
    ·refine u4 (uo true) rfl (fun h=>by cases h) fun _=>?_;rw[o6 (.inl (by omega)),<-j] at a;refine nP.mk (by omega) (Fit.to d ?_);refine nP.mk (by omega) (Fit.to f ?_);exact dz [1000] rfl rfl rfl (j3 (C.int .i64) o) ⟨_,u,a.symm,rfl,rfl⟩
    ·refine u4 (uo (decide ((k:Int)=0))) rfl (fun h=>⟨rfl,?_⟩) fun h=>?_
     ·have h:=aaV h;rw[<-a,vz (by omega)]
     ·have h:=aaz h;rw[o6 (.inr (by omega)),<-j] at a;refine nP.mk (by omega) (Fit.to d ?_);refine nP.mk (by omega) (Fit.to f ?_);exact dz [1000] rfl rfl rfl (j3 (C.int .i64) o) ⟨_,u,a.symm,rfl,rfl⟩
   ·refine Fit.ZA (by omega) (by omega) ?_;refine⟨(k+1,(z+x.toNat % 128*128 ^ k,u)),⟨by omega,?_,?_⟩,⟨bL,⟨.inr (.inl ⟨j3 C.cel (j3 (C.int .i64) n),rfl⟩),trivial⟩⟩,⟨.inl ⟨_,rfl,.inl ⟨rfl,rfl⟩⟩,trivial⟩,bM l⟩
    ·have h6:6-k=(6-(k+1))+1:=by omega
     rw[<-a,h6];simp only[lM];rw[vz (by omega),show x.toNat % 128=x.toNat-128 by omega]
    ·rw[Nat.pow_succ];have:x.toNat % 128*128 ^ k<=127*128 ^ k:=Nat.mul_le_mul_right _ (by omega);simp only[];omega
 ·have q:k=6:=by omega
  subst q;refine Ra rfl ⟨rfl,?_⟩;rw[<-a];rfl
def J0 (f:Nat):Prop:=∀(t:Nat) (pre post:List C) (x:Int) (bs:List UInt8),ct pre->ct post ->
 CallsTX PZ f [.own 1000 0,.own 1001 pre.length] [RB bs,.win t pre [IC x] post] (fun Mo c=>∃n r,gm bs=some (n,r)/\Mo=[RB r,.win t pre [IC n] post]/\c=.tup []) (fun v=>v=fL/\gm bs=none)
theorem P5:J0 164:=by
 intro t pre post x bs _ _;refine aq Tryz.func164 JJ rfl fun d c=>?_;refine rn 1000 (NY bs) rfl rfl rfl (fun h=>⟨rfl,by simp only[gm,h]⟩) fun n r e _=>?_;have b:gm bs=if -bound<=n/\n<=bound then some (n,r) else none:=by simp only[gm,e]
 refine⟨.inl ⟨0,rfl,?_⟩⟩;refine⟨.inl ⟨0,rfl,?_⟩⟩;refine aN (fun a=>?_) (fun a=>?_)
 ·have a:-bound<=n:=a;refine⟨.inl ⟨0,rfl,?_⟩⟩;refine u4 (uo (decide (n<=bound))) rfl (fun h=>⟨rfl,?_⟩) fun h=>?_
  ·rw[b,vz (fun q=>aaV h q.2)]
  ·exact dz [1000,1001] rfl rfl rfl rfl ⟨n,r,by rw[b,o6 ⟨a,aaz h⟩],rfl,rfl⟩
 ·have a:¬-bound<=n:=a;refine u4 (uo false) rfl (fun h=>⟨rfl,?_⟩) fun h=>by cases h
  rw[b,vz (fun q=>a q.1)]
theorem yZ (m:Int) (bs:List UInt8):M5 165 [.own 1000 0,IC m] bs (yV bs) (fun n=>IC n):=by
 refine aq Tryz.func165 JK rfl fun f d=>?_;refine rn 1000 (NY bs) rfl rfl rfl (fun h=>⟨rfl,by simp only[yV,h]⟩) fun n r e _=>?_;have b:yV bs=if 0<=n/\n<=100000/\n<=r.length then some (n.toNat,r) else none:=by simp only[yV,e]
 refine aN (fun a=>?_) (fun a=>?_)
 ·have a:0<=n:=a;refine aN (fun c=>?_) (fun c=>?_)
  ·refine u4 (uo (decide (n<=(af r).length))) rfl (fun h=>⟨rfl,?_⟩) fun h=>?_
   ·have h:=aaV h;rw[aM] at h;rw[b,vz (fun q=>h q.2.2)]
   ·have h:=aaz h;rw[aM] at h;exact dz [1000] rfl rfl rfl (j3 (C.int .i64) (show n=(n.toNat:Int) by omega)) ⟨n.toNat,r,by rw[b,o6 ⟨a,c,h⟩],rfl,rfl⟩
  ·refine u4 (uo false) rfl (fun h=>⟨rfl,?_⟩) fun h=>by cases h
   rw[b,vz (fun q=>c q.2.1)]
 ·refine u4 (uo false) rfl (fun h=>⟨rfl,?_⟩) fun h=>by cases h
  rw[b,vz (fun q=>a q.1)]
theorem P6:n9 PZ 86 "leasehold/snapshot.num"=some 164:=by kernel_rfl
theorem y5:n9 PZ 86 "leasehold/snapshot.size"=some 165:=by kernel_rfl
theorem J1 {cs:List C}{o:Nat}{c:C}(h:cs[o]?=some c):cs=cs.take o++([c]++cs.drop (o+1)):=by
 have a:=(aai.1 h).1;have b:=(aai.1 h).2
 conv=>lhs;rw[<-List.take_append_drop o cs,aa7 a,b]
 rfl
theorem Fp {cs:List C}{o:Nat}{c d:C}(h:cs[o]?=some c):cs.set o d=cs.take o++([d]++cs.drop (o+1)):=by
 have a:=(aai.1 h).1;have b:(cs.set o d)[o]?=some d:=by simp[a]
 have:=J1 b
 rwa [List.take_set_of_le (aaB o),List.drop_set_of_lt (by omega)] at this
theorem J0.cell {f:Nat}(h:J0 f) (t:Nat) (cs:List C) (o:Nat) (x:Int) (bs:List UInt8) (hi:ct cs) (b:cs[o]?=some (IC x)) :
  CallsTX PZ f [.own 1000 0,.own 1001 o] [RB bs,.win t cs [] []] (fun Mo c=>∃n r,gm bs=some (n,r)/\Mo=[RB r,.win t (cs.set o (IC n)) [] []]/\c=.tup []) (fun v=>v=fL/\gm bs=none):=by
 have a:(cs.take o).length=o:=by have:=(aai.1 b).1;simp;omega
 have d:ct ([]:List C):=fun c j=>by cases j
 have:=h t (cs.take o) (cs.drop (o+1)) x bs (hi.take o) (hi.drop _);rw[a] at this;refine this.view (vw.same (vw.cons (nK (by simpa using J1 b) (hi.take o) (hi.drop _)) (vw.refl []))) ?_ fun _ h=>h;rintro Mo c ⟨n,r,e,rfl,rfl⟩;exact⟨_,vw.same (vw.cons (nK (by simpa using(Fp b).symm) (hi.set rfl) d) (vw.refl [])),n,r,e,rfl,rfl⟩
theorem J0.box {f:Nat}(h:J0 f) (t:Nat) (x:Int) (bs:List UInt8) :
  CallsTX PZ f [.own 1000 0,.own 1001 0] [RB bs,.box t [IC x]] (fun Mo c=>∃n r,gm bs=some (n,r)/\Mo=[RB r,.box t [IC n]]/\c=.tup []) (fun v=>v=fL/\gm bs=none):=by
 have a:ct ([]:List C):=fun c b=>by cases b
 refine(h t [] [] x bs a a).view (vw.same (vw.cons (wo rfl a a) (vw.refl []))) ?_ fun _ h=>h;rintro Mo c ⟨n,r,e,rfl,rfl⟩;exact⟨_,vw.same (vw.cons (Bh rfl) (vw.refl [])),n,r,e,rfl,rfl⟩
def Bo {a:Type}(g:a->C):List C->List Nat->List a->List C
 | cs,o::os,n::ns=>Bo g (cs.set o (g n)) os ns
 | cs,_,_=>cs
def RN (f:Nat):Prop:=∀(t:Nat) (cs:List C) (a:List Nat) (bs:List UInt8),ct cs->(∀o∈a,∃x,cs[o]?=some (IC x)) ->
 CallsTX PZ f [.ifo none 86 1000 0,.slo 1001 a] [RB bs,.win t cs [] []] (fun Mo c=>∃ns r,bB gm a.length bs=some (ns,r)/\Mo=[RB r,.win t (Bo IC cs a ns) [] []]/\c=.tup []) (fun v=>v=fL/\bB gm a.length bs=none)
theorem J2 {cs:List C}{o p:Nat}{n x:Int}(h:cs[p]?=some (IC x)):∃y,(cs.set o (IC n))[p]?=some (IC y):=by
 have a:=(aai.1 h).1
 by_cases b:o=p
 ·subst b;exact⟨n,by simp[a]⟩
 ·exact⟨x,by rw[abe b];exact h⟩
theorem Vz:RN 85:=by
 intro t cs a bs hi ho;refine aq Tryz.func85 E9 rfl fun hw ae=>?_;have ar:a.length<=9223372036854775807:=by have h:=hw.2.1;simp only[Wf,maxLen] at h;exact h
 refine bF a.length 8 [] (cs,bs) (fun _=>[]) (fun s=>[(1000,RB s.2),(1001,.win t s.1 [] [])])
  (fun k s=>(∀ns r,bB gm (a.length-k) s.2=some (ns,r)->∃b,bB gm a.length bs=some (b,r)/\Bo IC cs a b=Bo IC s.1 (a.drop k) ns)/\(bB gm (a.length-k) s.2=none->bB gm a.length bs=none)/\ct s.1/\∀o∈a,∃x,s.1[o]?=some (IC x))
  ⟨fun ns r h=>⟨ns,h,rfl⟩,fun h=>h,hi,ho⟩ (ak rfl) trivial ⟨.inl ⟨_,rfl,.inl ⟨rfl,rfl⟩⟩,.inl ⟨_,rfl,.inl ⟨rfl,rfl⟩⟩,trivial⟩ (fun _=>rfl) (fun _=>rfl) ?_
 rintro k ⟨ds,c⟩ hk ⟨l,q,h3,h4⟩ _ _ aa;refine aN (fun d=>?_) (fun f=>?_)
 ·have d:k<a.length:=by omega
  refine fj d fun o u w hd=>?_;have j:a.length-k=(a.length-(k+1))+1:=by omega
  simp only[j,hd,bB] at l q;refine qN (h4 o w) fun x hx=>?_;refine⟨by omega,by omega,?_⟩;refine⟨o,u,?_⟩;refine⟨164,P6,?_⟩;refine bW [1000,1001] (P5.cell t ds o x c h3 hx) rfl rfl rfl rfl (fun v ⟨e,h⟩=>⟨e,q (by simp only[h])⟩) ?_;rintro v Mo ⟨n,r,e,rfl,rfl⟩ _ _;refine⟨rfl,?_⟩;simp only[e] at l q;refine Fit.ZA (by omega) (by omega) ?_;refine⟨(k+1,ds.set o (IC n),r),⟨by omega,fun ns r' h=>?_,fun h=>?_,h3.set rfl,fun p hp=>?_⟩,⟨bL,trivial⟩,⟨.inl ⟨_,rfl,.inl ⟨rfl,rfl⟩⟩,.inl ⟨_,rfl,.inl ⟨rfl,rfl⟩⟩,trivial⟩,bM d⟩
  ·obtain⟨b,z,m⟩:=l (n::ns) r' (by simp only[h]);exact⟨b,z,by rw[m];rfl⟩
  ·exact q (by simp only[h])
  ·obtain⟨y,hy⟩:=h4 p hp;exact J2 hy
 ·have f:a.length-k=0:=by omega
  rw[f] at l;obtain⟨b,z,m⟩:=l [] c rfl;rw[List.drop_eq_nil_of_le (by omega)] at m;exact dz [1000,1001] rfl rfl rfl rfl ⟨b,c,z,by rw[m];rfl,rfl⟩
def RO (f:Nat):Prop:=∀(t:Nat) (cs:List C) (a:List Nat) (bs:List UInt8),ct cs->(∀o∈a,∃x,cs[o]?=some (.bool x)) ->
 CallsTX PZ f [.ifo none 86 1000 0,.slo 1001 a] [RB bs,.win t cs [] []] (fun Mo c=>∃ns r,bB nW a.length bs=some (ns,r)/\Mo=[RB r,.win t (Bo C.bool cs a ns) [] []]/\c=.tup []) (fun v=>v=fL/\bB nW a.length bs=none)
theorem GL {cs:List C}{o p:Nat}{n x:Bool}(h:cs[p]?=some (.bool x)):∃y,(cs.set o (.bool n))[p]?=some (.bool y):=by
 have a:=(aai.1 h).1
 by_cases b:o=p
 ·subst b;exact⟨n,by simp[a]⟩
 ·exact⟨x,by rw[abe b];exact h⟩
theorem take_one {cs:List C}{o:Nat}{c:C}(h:cs[o]?=some c):(cs.drop o).take 1=[c]:=by
 have a:=(aai.1 h).1;have b:=(aai.1 h).2;rw[aa7 a,b];rfl
theorem Ef {cs:List C}{o:Nat}{c d:C}(h:cs[o]?=some c):fE cs o [d]=cs.set o d:=by
 rw[Fp (d:=d) h];simp[fE]
theorem RP {cs:List C}{o:Nat}{c:C}(h:cs[o]?=some c):o+1<=cs.length:=(aai.1 h).1
theorem RQ:RO 103:=by
 intro t cs a bs hi ho;refine aq Tryz.func103 CF rfl fun hw am=>?_;have ax:a.length<=9223372036854775807:=by have h:=hw.2.1;simp only[Wf,maxLen] at h;exact h
 refine bF a.length 9 [] (cs,bs) (fun _=>[]) (fun s=>[(1000,RB s.2),(1001,.win t s.1 [] [])])
  (fun k s=>(∀ns r,bB nW (a.length-k) s.2=some (ns,r)->∃b,bB nW a.length bs=some (b,r)/\Bo C.bool cs a b=Bo C.bool s.1 (a.drop k) ns)/\(bB nW (a.length-k) s.2=none->bB nW a.length bs=none)/\ct s.1/\∀o∈a,∃x,s.1[o]?=some (.bool x))
  ⟨fun ns r h=>⟨ns,h,rfl⟩,fun h=>h,hi,ho⟩ (ak rfl) trivial ⟨.inl ⟨_,rfl,.inl ⟨rfl,rfl⟩⟩,.inl ⟨_,rfl,.inl ⟨rfl,rfl⟩⟩,trivial⟩ (fun _=>rfl) (fun _=>rfl) ?_
 rintro k ⟨ds,c⟩ hk ⟨l,m,h3,h4⟩ _ _ ae;refine aN (fun d=>?_) (fun f=>?_)
 ·have d:k<a.length:=by omega
  refine fj d fun o w aa hd=>?_;have j:a.length-k=(a.length-(k+1))+1:=by omega
  simp only[j,hd,bB] at l m;refine qN (h4 o aa) fun x hx=>?_;refine⟨by omega,by omega,?_⟩;refine⟨o,w,?_⟩;refine⟨.inr ⟨_,take_one hx,rfl,?_⟩⟩;refine ah (fun _=>?_) (fun _=>?_)
  all_goals
   refine⟨164,P6,?_⟩;refine bW [1000,6] (P5.box 3 _ c) rfl rfl rfl rfl (fun v ⟨e,h⟩=>⟨e,m (by simp only[nW,h])⟩) ?_;rintro v Mo ⟨n,r,e,rfl,rfl⟩ _ _;refine⟨rfl,?_⟩;have hb:nW c=if n=0\/n=1 then some (decide (n=1),r) else none:=by simp only[nW,e]
   refine aN (fun z=>?_) (fun z=>?_)
  all_goals
   refine u4 (uo _) rfl (fun h=>?_) fun h=>?_
   ·first
     | cases h
     | (have h:=aaV h
        exact⟨rfl,m (by rw[hb,vz (fun q=>q.elim z h)])⟩)
   have ad:n=0\/n=1:=by first | exact .inl z | exact .inr (aaz h)
   rw[o6 ad] at hb;simp only[hb] at l m;refine⟨.inr ⟨ds.set o (.bool (decide (n=1))),RP hx,rfl,Ef hx,?_⟩⟩;refine Fit.ZA (by omega) (by omega) ?_;refine⟨(k+1,ds.set o (.bool (decide (n=1))),r),⟨by omega,fun ns r' h=>?_,fun h=>?_,h3.set rfl,fun p hp=>?_⟩,⟨bL,trivial⟩,⟨.inl ⟨_,rfl,.inl ⟨rfl,rfl⟩⟩,.inl ⟨_,rfl,.inl ⟨rfl,rfl⟩⟩,trivial⟩,bM d⟩
   ·obtain⟨b,f1,u⟩:=l (decide (n=1)::ns) r' (by simp only[h]);exact⟨b,f1,by rw[u];rfl⟩
   ·exact m (by simp only[h])
   ·obtain⟨y,hy⟩:=h4 p hp;exact GL hy
 ·have f:a.length-k=0:=by omega
  rw[f] at l;obtain⟨b,f1,u⟩:=l [] c rfl;rw[List.drop_eq_nil_of_le (by omega)] at u;exact dz [1000,1001] rfl rfl rfl rfl ⟨b,c,f1,by rw[u];rfl,rfl⟩
def yF (sz:Nat) (l:List C):Prop:=l.length=sz/\dP l=true/\dV l=true
theorem J3 {a:Type}{cs:a->List C}{z:List C}{done:List a}{n k:Nat}{x:a}(c:done.length=k) (b:k<n) :
  (done.map cs++List.replicate (n-done.length) z).set k (cs x)=(done++[x]).map cs++List.replicate (n-(done++[x]).length) z:=by
 subst c;rw[show n-done.length=(n-(done++[x]).length)+1 by simp;omega,aa3,List.set_append_right _ _ (by simp)];simp
theorem iB {α:Type}{f:Nat}{fi ca:List C}{b:Dec α}{z:List C}{cs:α->List C}{sz e:Nat}(hd:gV f fi ca b z cs) (he:mY PZ f) (al:KF e=true)
  (u:∀c∈fi++.ifo none 86 1000 0::ca,c.kill 1001=c/\rY 1001 sz c=c) (d:∀x,yF sz (cs x)) (hz:yF sz z) {n k:Nat}{done:List α}(hk:done.length=k) (aa:k<n) (a:List UInt8) :
  lu PZ f (fi++.ifo none 86 1000 0::.elr 1001 k 0::ca) [RB a,.row e sz (done.map cs++List.replicate (n-done.length) z)]
   (fun Mo c=>∃x r,b a=some (x,r)/\Mo=[RB r,.row e sz ((done++[x]).map cs++List.replicate (n-(done++[x]).length) z)]/\c=.tup []) (fun v=>v=fL/\b a=none):=by
 have o:∀l∈done.map cs++List.replicate (n-done.length) z,yF sz l:=by
  intro l s;rcases aah.1 s with s | s
  ·obtain⟨x,_,rfl⟩:=aaJ.1 s;exact d x
  ·rw[List.eq_of_mem_replicate s];exact hz
 have hj:(done.map cs++List.replicate (n-done.length) z)[k]?=some z:=by
  subst hk;rw[aaw (by simp),aax,Nat.sub_self,List.getElem?_replicate,o6 (by omega)]
 have:=CallsTX.Z8 (A:=RB a) (R:=fun A' es' c=>∃x r,b a=some (x,r)/\A'=RB r/\es'=cs x/\c=.tup []) (Pp:=fun v=>v=fL/\b a=none) he al rfl ⟨_,_,rfl⟩ u hj o
  (fun pre post h1 h2=>(hd e pre post a h1 h2).imp (fun Mo c ⟨x,r,t,p,m⟩=>⟨RB r,cs x,p,x,r,t,rfl,rfl,m⟩) fun _ h=>h)
  (fun A' es' c ⟨x,r,t,p,m,q4⟩=>by
   subst p m q4;refine⟨(d x).1,(d x).2.1,(d x).2.2,rfl,fun F L L' v h=>?_⟩;simp only[Rel] at h ⊢;exact h)
 refine⟨fun F Li vs h1 h2 h3=>?_⟩;have q:=this.out F Li vs h1 h2 h3;have j:∀{F':aD}{Lo:List Own}{v:Value},hO Li (fun Mo c=>∃A' es',Mo=[A',.row e sz ((done.map cs++List.replicate (n-done.length) z).set k es')]/\∃x r,b a=some (x,r)/\A'=RB r/\es'=cs x/\c=.tup []) F' Lo v ->
   hO Li (fun Mo c=>∃x r,b a=some (x,r)/\Mo=[RB r,.row e sz ((done++[x]).map cs++List.replicate (n-(done++[x]).length) z)]/\c=.tup []) F' Lo v:=by
  rintro F' Lo v ⟨Mo,c,t,p,m,q4,A',es',rfl,x,r,e1,rfl,rfl,rfl⟩;exact⟨_,_,t,p,m,q4,x,r,e1,by rw[J3 hk aa],rfl⟩
 exact⟨q.ent,fun F G L v y r=>⟨hO.ZL _ _ _ _ y r.1,r.2⟩,fun w hs=>(q.run w hs).mono fun _ _ k=>k.imp (fun⟨v,F',Lo,e1,e2,e3,e4,e5⟩=>⟨v,F',Lo,e1,e2,e3,j e4,e5⟩) id⟩
theorem lf {bs r:List UInt8}{n:Nat}(h:yV bs=some (n,r)):n<=100000:=by
 unfold yV at h;split at h
 ·split at h
  ·injection h with h
   injection h with h1 h2
   omega
  ·cases h
 ·cases h
end Go.Fr.Tryz
