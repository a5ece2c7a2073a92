/- Part of the proofs of the statements of this seat. -/
import Derived.Test.YtnlegbokpofcaaaGreatDoorSpW1G
set_option maxRecDepth 10000
set_option linter.unusedVariables false
set_option linter.unusedSimpArgs false
namespace Go.Fr.Tryz
open Go Go.RowKit Go.Proofs Go.Fr Go.Fr.T Go.Fr.Api
theorem jU (z:Nat):1<=(bN z).length:=by
 rw[bN];split<;>simp
theorem Dw (m:Nat):IntKind.wrap .u8 (128+(m:Int).tmod 128)=((UInt8.ofNat (128+m % 128)).toNat:Int):=by
 rw[show(128+(m:Int).tmod 128)=((128+m % 128:Nat):Int) from rfl,UInt8.toNat_ofNat'];simp only[IntKind.wrap,IntKind.bits,IntKind.signed,adL,Nat.reducePow,Int.reducePow];simp
theorem Dx (m:Nat):IntKind.wrap .u8 (m:Int)=((UInt8.ofNat m).toNat:Int):=by
 rw[UInt8.toNat_ofNat'];simp only[IntKind.wrap,IntKind.bits,IntKind.signed,adL,Nat.reducePow,Int.reducePow];simp
theorem UW (t:Nat) (bs:List UInt8):CallsT PZ 50 [.own 1000 0] [.box t [.sl (ah bs),IC 0,.int .i8 0]] (gL [.box t [.sl (ah bs),IC 0,.int .i8 0]] (.sl (ah bs))):=by
 refine au Tryz.func50 Ql rfl fun c b=>?_;have a:(ah bs).length=bs.length:=aG;refine tF.mk (ac9 0) (by omega) (ac9 _) dM ?_;refine xP [1000] rfl rfl rfl (j3 C.sl (?_:((ah bs).drop 0).take (((ah bs).length:Int).toNat-0)=ah bs));rw[dI,a];simp
theorem WY (t:Nat) (bs:List UInt8) (n:Int) (j:-2305843009213693952<=n) (l:n<=2305843009213693952) (hb:bs.length+(bN (zz n)).length<=70368744177664):CallsT PZ 63 [.own 1000 0,IC n] (WB t bs) (gL (WB t (bs++bN (zz n))) (.tup [])):=by
 refine au Tryz.func63 Qy rfl fun p o=>?_;have k:zz n<=4611686018427387904:=by unfold zz;split<;>omega
 refine bf ?_;refine aF (fun e=>?_) (fun f=>?_)
 ·refine bf ?_;refine bf ?_;refine vv.mk ⟨Nat×List UInt8,(zz n,bs),fun y=>y.1<=4611686018427387904/\y.2++bN y.1=bs++bN (zz n),[4],fun y=>[.int .i64 y.1],fun y=>GW t y.2,fun y=>y.1,⟨k,rfl⟩,⟨.inr (.inl ⟨?_,rfl⟩),trivial⟩,
   ⟨bJ,bJ,trivial⟩,fun _=>rfl,fun _=>rfl,?_⟩
  ·exact j3 (C.int .i64) (by unfold zz;rw[o6 e];omega)
  rintro⟨m,done⟩ ⟨d,a⟩ _ _;simp only at a d;have h:done.length+(bN m).length<=70368744177664:=by
   have:=j3 List.length a;simp only[yo] at this;omega
  have j:=jU m;refine aF (fun c=>?_) (fun c=>?_)
  ·have c:128<=m:=by have:(128:Int)<=(m:Int):=c;omega
   have b:bN m=UInt8.ofNat (128+m % 128)::bN (m / 128):=by rw[bN,dif_neg (by omega)]
   refine kK.mk (by omega) ?_;refine Fit.to (m:=128+(m:Int).tmod 128) (bP (by rw[show(m:Int).tmod 128=((m % 128:Nat):Int) from rfl];omega) (by rw[show(m:Int).tmod 128=((m % 128:Nat):Int) from rfl];omega)) ?_;refine Fit.to (Dw m) ?_;refine callO [1000,1001] [1000,1001] (Ck t [] rfl done (UInt8.ofNat (128+m % 128)) (by omega)) rfl rfl rfl rfl rfl fun _ _=>?_;refine kK.mk (by omega) ?_;refine Fit.to (m:=((m / 128:Nat):Int)) (by show IntKind.wrap .i64 ((m / 128:Nat):Int)=_;exact bP (by omega) (by omega)) ?_;refine⟨(m / 128,done++[UInt8.ofNat (128+m % 128)]),⟨?_,?_⟩,⟨.inr (.inl ⟨rfl,rfl⟩),trivial⟩,⟨bJ,bJ,trivial⟩,?_⟩
   ·show m / 128<=_;omega
   ·show done++[UInt8.ofNat (128+m % 128)]++bN (m / 128)=bs++bN (zz n);rw[<-a,b];simp
   ·show m / 128<m;omega
  ·have c:m<128:=by have:¬(128:Int)<=(m:Int):=c;omega
   have b:bN m=[UInt8.ofNat m]:=by rw[bN,dif_pos c]
   refine Fit.to (Dx m) ?_;refine callO [1000,1001] [1000,1001] (Ck t [] rfl done (UInt8.ofNat m) (by omega)) rfl rfl rfl rfl rfl fun _ _=>?_;exact xP [1000,1001] rfl rfl (j3 (WB t) (by rw[<-a,b])) rfl
 ·refine vv.mk ⟨Nat×List UInt8,(zz n,bs),fun y=>y.1<=4611686018427387904/\y.2++bN y.1=bs++bN (zz n),[4],fun y=>[.int .i64 y.1],fun y=>GW t y.2,fun y=>y.1,⟨k,rfl⟩,⟨.inr (.inl ⟨?_,rfl⟩),trivial⟩,
   ⟨bJ,bJ,trivial⟩,fun _=>rfl,fun _=>rfl,?_⟩
  ·exact j3 (C.int .i64) (by unfold zz;rw[s8 f];omega)
  rintro⟨m,done⟩ ⟨d,a⟩ _ _;simp only at a d;have h:done.length+(bN m).length<=70368744177664:=by
   have:=j3 List.length a;simp only[yo] at this;omega
  have j:=jU m;refine aF (fun c=>?_) (fun c=>?_)
  ·have c:128<=m:=by have:(128:Int)<=(m:Int):=c;omega
   have b:bN m=UInt8.ofNat (128+m % 128)::bN (m / 128):=by rw[bN,dif_neg (by omega)]
   refine kK.mk (by omega) ?_;refine Fit.to (m:=128+(m:Int).tmod 128) (bP (by rw[show(m:Int).tmod 128=((m % 128:Nat):Int) from rfl];omega) (by rw[show(m:Int).tmod 128=((m % 128:Nat):Int) from rfl];omega)) ?_;refine Fit.to (Dw m) ?_;refine callO [1000,1001] [1000,1001] (Ck t [] rfl done (UInt8.ofNat (128+m % 128)) (by omega)) rfl rfl rfl rfl rfl fun _ _=>?_;refine kK.mk (by omega) ?_;refine Fit.to (m:=((m / 128:Nat):Int)) (by show IntKind.wrap .i64 ((m / 128:Nat):Int)=_;exact bP (by omega) (by omega)) ?_;refine⟨(m / 128,done++[UInt8.ofNat (128+m % 128)]),⟨?_,?_⟩,⟨.inr (.inl ⟨rfl,rfl⟩),trivial⟩,⟨bJ,bJ,trivial⟩,?_⟩
   ·show m / 128<=_;omega
   ·show done++[UInt8.ofNat (128+m % 128)]++bN (m / 128)=bs++bN (zz n);rw[<-a,b];simp
   ·show m / 128<m;omega
  ·have c:m<128:=by have:¬(128:Int)<=(m:Int):=c;omega
   have b:bN m=[UInt8.ofNat m]:=by rw[bN,dif_pos c]
   refine Fit.to (Dx m) ?_;refine callO [1000,1001] [1000,1001] (Ck t [] rfl done (UInt8.ofNat m) (by omega)) rfl rfl rfl rfl rfl fun _ _=>?_;exact xP [1000,1001] rfl rfl (j3 (WB t) (by rw[<-a,b])) rfl
theorem aaI (n:Int):gj kW 167 [.own 1000 0,.pt [IC n] 0] (kW.num n):=by
 intro bs hb;have hb:bs.length+(bN (zz n)).length<=70368744177664:=hb;refine aC Tryz.func167 Fe rfl fun c b=>?_;refine aF (fun a=>?_) (fun a=>?_)
 ·have a:-1099511627776<=n:=a;refine wK (vV (decide (n<=1099511627776))) rfl (fun h=>⟨rfl,?_⟩) fun h=>?_
  ·show(decide (-1099511627776<=n)&&decide (n<=1099511627776))=false;rw[h,adu]
  ·have h:=ada h;refine callO [1000,1001] [1000,1001] (WY 108 bs n (by omega) (by omega) hb) rfl rfl rfl rfl rfl fun _ _=>?_;refine cD [1000,1001] rfl rfl rfl rfl ⟨?_,rfl,rfl⟩;show(decide (-1099511627776<=n)&&decide (n<=1099511627776))=true;simp[a,h]
 ·have a:¬-1099511627776<=n:=a;refine wK (vV false) rfl (fun h=>⟨rfl,?_⟩) fun h=>by cases h
  show(decide (-1099511627776<=n)&&decide (n<=1099511627776))=false;simp[a]
theorem aaJ (n:Nat):Yj kW 168 [.own 1000 0,IC n] (kW.siz n) (IC n):=by
 intro bs hb;have hb:bs.length+(bN (zz n)).length<=70368744177664:=hb;refine aC Tryz.func168 MY rfl fun c b=>?_;refine wK (vV (decide ((n:Int)<=100000))) rfl (fun h=>⟨rfl,h⟩) fun h=>?_;have a:=ada h;refine callO [1000,1001] [1000,1001] (WY 108 bs n (by omega) (by omega) hb) rfl rfl rfl rfl rfl fun _ _=>?_;exact cD [1000,1001] rfl rfl rfl rfl ⟨h,rfl,rfl⟩
def Bl (n:Int) (k:Nat):UInt8:=UInt8.ofNat ((n.fdiv (2 ^ (8*k))).emod 256).toNat
theorem Fx (n:Int) (k:Nat) (h:k<8):(AQ n).take (k+1)=(AQ n).take k++[Bl n k]:=by
 have a:(AQ n).length=8:=by simp[AQ]
 rw[List.take_add_one,w8 (by omega)];simp[AQ,Bl]
theorem S0 (n:Int) (k:Nat):IntKind.wrap .u8 (n.fdiv (2 ^ (8*k)))=((Bl n k).toNat:Int):=by
 unfold Bl;rw[UInt8.toNat_ofNat'];have a:0<=(n.fdiv (2 ^ (8*k))).emod 256:=Int.emod_nonneg _ (by omega);have b:(n.fdiv (2 ^ (8*k))).emod 256<256:=Int.emod_lt_of_pos _ (by omega);generalize n.fdiv (2 ^ (8*k))=z at a b ⊢;simp only[IntKind.wrap,IntKind.bits,IntKind.signed,adL,Nat.reducePow,Int.reducePow];have c:z.emod 256=z % 256:=rfl;rw[c] at a b ⊢;simp;omega
theorem WZ (n:Int):gj kL 169 [.own 1000 0,.pt [IC n] 0] (kL.num n):=by
 intro bs hb;have hb:bs.length+(AQ n).length<=70368744177664:=hb;have f:(AQ n).length=8:=by simp[AQ]
 refine aC Tryz.func169 Ff rfl fun l h=>?_;refine aP 8 5 [] bs (fun _=>[]) (fun s=>GW 124 s) (fun k s=>s=bs++(AQ n).take k) (by simp) (af rfl) trivial ⟨bJ,bJ,trivial⟩ ?_;rintro k s j d _ _ _;have e:s.length=bs.length+k:=by rw[d];simp[f];omega
 refine aF (fun a=>?_) (fun b=>?_)
 ·have a:k<8:=by omega
  refine bf ?_;refine⟨by omega,?_⟩;have c:min ((8:Int)*(k:Int)).toNat 64=8*k:=by omega
  refine Fit.to (m:=((Bl n k).toNat:Int)) (by rw[show(min ((8:Int)*(k:Int)).toNat IntKind.i64.bits)=min ((8:Int)*(k:Int)).toNat 64 from rfl,c];exact S0 n k) ?_;refine C9 [1000,1001] [1000,1001] (Ck 124 [] rfl s (Bl n k) (by omega)) rfl rfl rfl rfl rfl fun _ _=>?_;refine bf ?_;exact⟨(k+1,s++[Bl n k]),⟨by omega,by rw[d,Fx n k a];simp⟩,⟨aR,trivial⟩,⟨bJ,bJ,trivial⟩,aS a⟩
 ·have b:k=8:=by omega
  subst b;refine cD [1000,1001] rfl rfl rfl rfl ⟨rfl,?_,rfl⟩;refine j3 (WB 124) ?_;rw[d,adv (by omega)];rfl
theorem aaK (n:Nat):Yj kL 170 [.own 1000 0,IC n] (kL.siz n) (IC n):=by
 intro bs hb;have d:CallsT PZ 169 [.own 1000 0,.pt [IC n] 0] (WB 124 bs) (gL (WB 124 (bs++AQ n)) (.tup [])):=CallsTX.noPan ((WZ n bs hb).imp (fun Mo c ⟨_,a,b⟩=>⟨a,b⟩) fun v ⟨_,h⟩=>by cases h);refine aC Tryz.func170 MZ rfl fun f e=>?_;refine callO [1000,1001] [1000,1001] d rfl rfl rfl rfl rfl fun _ _=>?_;exact cD [1000,1001] rfl rfl rfl rfl ⟨rfl,rfl,rfl⟩
def WrO (k:Kd) (f:Nat) (n:Int):Prop:=∀bs,bs.length+(k.num n).1.length<=70368744177664 ->
 CallsTX PZ f [.own 1000 0,.own 1002 0] (WB k.tb bs++[.box 3 [IC n]]) (fun Mo c=>(k.num n).2=true/\Mo=WB k.tb (bs++(k.num n).1)++[.box 3 [IC n]]/\c=.tup []) (fun v=>v=gC/\(k.num n).2=false)
theorem W4 (n:Int):WrO kW 167 n:=by
 intro bs hb;have hb:bs.length+(bN (zz n)).length<=70368744177664:=hb;refine aC Tryz.func167 Fe rfl fun c b=>?_;refine aF (fun a=>?_) (fun a=>?_)
 ·have a:-1099511627776<=n:=a;refine wK (vV (decide (n<=1099511627776))) rfl (fun h=>⟨rfl,?_⟩) fun h=>?_
  ·show(decide (-1099511627776<=n)&&decide (n<=1099511627776))=false;rw[h,adu]
  ·have h:=ada h;refine callO [1000,1001] [1000,1001] (WY 108 bs n (by omega) (by omega) hb) rfl rfl rfl rfl rfl fun _ _=>?_;refine cD [1000,1001,1002] rfl rfl rfl rfl ⟨?_,rfl,rfl⟩;show(decide (-1099511627776<=n)&&decide (n<=1099511627776))=true;simp[a,h]
 ·have a:¬-1099511627776<=n:=a;refine wK (vV false) rfl (fun h=>⟨rfl,?_⟩) fun h=>by cases h
  show(decide (-1099511627776<=n)&&decide (n<=1099511627776))=false;simp[a]
theorem W5 (n:Int):WrO kL 169 n:=by
 intro bs hb;have hb:bs.length+(AQ n).length<=70368744177664:=hb;have f:(AQ n).length=8:=by simp[AQ]
 refine aC Tryz.func169 Ff rfl fun l h=>?_;refine aP 8 5 [] bs (fun _=>[]) (fun s=>[(1000,.box 124 [.rw 1001,IC 0,.int .i8 0]),(1001,.row 5 1 (ah s)),(1002,.box 3 [IC n])]) (fun k s=>s=bs++(AQ n).take k) (by simp) (af rfl) trivial ⟨bJ,bJ,bJ,trivial⟩ ?_;rintro k s j d _ _ _;have e:s.length=bs.length+k:=by rw[d];simp[f];omega
 refine aF (fun a=>?_) (fun b=>?_)
 ·have a:k<8:=by omega
  refine bf ?_;refine⟨by omega,?_⟩;have c:min ((8:Int)*(k:Int)).toNat 64=8*k:=by omega
  refine Fit.to (m:=((Bl n k).toNat:Int)) (by rw[show(min ((8:Int)*(k:Int)).toNat IntKind.i64.bits)=min ((8:Int)*(k:Int)).toNat 64 from rfl,c];exact S0 n k) ?_;refine C9 [1000,1001] [1000,1001] (Ck 124 [] rfl s (Bl n k) (by omega)) rfl rfl rfl rfl rfl fun _ _=>?_;refine bf ?_;exact⟨(k+1,s++[Bl n k]),⟨by omega,by rw[d,Fx n k a];simp⟩,⟨aR,trivial⟩,⟨bJ,bJ,bJ,trivial⟩,aS a⟩
 ·have b:k=8:=by omega
  subst b;refine cD [1000,1001,1002] rfl rfl rfl rfl ⟨rfl,?_,rfl⟩;refine j3 (fun q=>WB 124 q++[.box 3 [IC n]]) ?_;rw[d,adv (by omega)];rfl
theorem t87 (n:Int) (bs:List UInt8):Rh 87 [.own 1000 0,IC n] bs (takeD n bs) (fun b=>.sl (ah b)):=by
 refine aC Tryz.func87 QM rfl fun j e=>?_;have f:bs.length<=9223372036854775807:=by
  have:=e _ (adr.2 rfl);exact vH this.1
 have a:(ah bs).length=bs.length:=aG;refine aF (fun d=>?_) (fun d=>?_)
 ·refine wK (vV (decide (n<=(ah bs).length))) rfl (fun h=>⟨rfl,?_⟩) fun c=>?_
  ·rw[a] at h;have:=adq h;simp only[takeD];rw[s8 (fun q=>this q.2)]
  ·rw[a] at c;have c:=ada c;refine tF.mk (ac9 0) d (by rw[a];exact c) dM ?_;refine tF.mk d (by rw[a];exact c) (ac9 _) dM ?_;refine cD [1000] rfl rfl rfl rfl ⟨_,_,Ci d c,?_,?_⟩
   ·refine j3 (fun q=>[TO.box 88 [C.sl q]]) (?_:((ah bs).drop n.toNat).take (((ah bs).length:Int).toNat-n.toNat)=ah (bs.drop n.toNat));rw[dI,a,adv (by simp)]
   ·refine j3 C.sl (?_:((ah bs).drop 0).take (n.toNat-0)=ah (bs.take n.toNat));rw[dI];simp
 ·refine wK (vV false) rfl (fun h=>⟨rfl,?_⟩) fun c=>by cases c
  simp only[takeD];rw[s8 (fun q=>d q.1)]
theorem vO {n:Nat}(h:n<9223372036854775808):IntKind.wrap .i64 (n:Int)=n:=by
 simp only[IntKind.wrap,IntKind.bits,IntKind.signed,adH,ado,ge_iff_le,Nat.reduceSub,Int.reducePow];split<;>omega
theorem or_eq {z c k:Nat}(a:z<128 ^ k) (f:c<128) (h:k<6):IntKind.wrap .i64 ((BitVec.ofInt 64 (z:Int) ||| BitVec.ofInt 64 (((c*128 ^ k:Nat)):Int)).toNat:Int)=((z+c*128 ^ k:Nat):Int):=by
 have d:128 ^ k=2 ^ (7*k):=by rw[Nat.pow_mul]
 have hb:128 ^ k<=128 ^ 5:=Nat.pow_le_pow_right (by omega) (by omega);have b:c*128 ^ k<=127*128 ^ 5:=Nat.mul_le_mul (by omega) hb;have e:(BitVec.ofInt 64 (z:Int) ||| BitVec.ofInt 64 ((c*128 ^ k:Nat):Int)).toNat=z+c*128 ^ k:=by
  rw[BitVec.toNat_or,BitVec.ofInt_natCast,BitVec.ofInt_natCast,BitVec.toNat_ofNat,BitVec.toNat_ofNat,Nat.mod_eq_of_lt (by omega),Nat.mod_eq_of_lt (by omega)];rw[d] at a ⊢;rw[Nat.or_comm,Nat.mul_comm,<-Nat.two_pow_add_eq_or_of_lt a];omega
 rw[e];exact vO (by omega)
theorem xor_eq {z:Nat}(a:z<9223372036854775808):IntKind.wrap .i64 ((BitVec.ofInt 64 ((z / 2:Nat):Int) ^^^ BitVec.ofInt 64 (0-((z % 2:Nat):Int))).toNat:Int)=Bh z:=by
 unfold Bh;rcases Nat.mod_two_eq_zero_or_one z with h | h
 ·rw[h,o6 rfl];have e:(BitVec.ofInt 64 ((z / 2:Nat):Int) ^^^ BitVec.ofInt 64 (0-((0:Nat):Int))).toNat=z / 2:=by
   rw[show(0-((0:Nat):Int))=((0:Nat):Int) from rfl,BitVec.ofInt_natCast,BitVec.ofInt_natCast];simp;omega
  rw[e];exact vO (by omega)
 ·rw[h,s8 (by omega)];have e:(BitVec.ofInt 64 ((z / 2:Nat):Int) ^^^ BitVec.ofInt 64 (0-((1:Nat):Int))).toNat=18446744073709551615-z / 2:=by
   have:BitVec.ofInt 64 (0-((1:Nat):Int))=BitVec.allOnes 64:=by decide
   rw[this,BitVec.ofInt_natCast,BitVec.xor_allOnes,BitVec.toNat_not,BitVec.toNat_ofNat,Nat.mod_eq_of_lt (by omega)]
  rw[e];simp only[IntKind.wrap,IntKind.bits,IntKind.signed,adH,ado,ge_iff_le,Nat.reduceSub,Int.reducePow];split<;>omega
def RL (bs:List UInt8):TL:=[(1000,RB bs)]
theorem take1 {x:UInt8}{r:List UInt8}:takeD 1 (x::r)=some ([x],r):=by
 rw[Ci (by omega) (by simp only[xo];omega)];rfl
theorem Kc:takeD 1 []=none:=by simp[takeD]
theorem rn {d:Type}{PS:qX}{L:TL}{ρ:bg}(a:Nat) {f:Nat}{args b:List C}{bs:List UInt8}{o:Option (d×List UInt8)}{cell:d->C}{K:TL->bg->C->Prop}(h:Rh f b bs o cell)
  (q:L.sub [a]=some [RB bs]) (u:T.lN L [a] [a]=true) (p:(args.map fun c=>c.abk.ren (cn [a] 1000))=b) (m:o=none->PS.ps gC)
  (k:∀y r,o=some (y,r)->Wf (cell y)->K (((L.aa7 [a]).kills (rowsOf L [a])).puts [a] [RB r]) (fQ (rowsOf L [a]) ρ) ((cell y).ren (bF [a])).slt) (t:mF L [a] PS.hb=true:=by rfl):qo PZ PS f args L ρ K :=
 cH [a] h q (by simp[u,aY,RB];rfl) p rfl (fun v ⟨e,h⟩=>e▸m h) (fun v Mo ⟨y,r,l,s,j⟩ n _=>by subst s j;exact⟨rfl,k y r l n⟩) t
theorem S1 (bs:List UInt8):Rh 44 [.own 1000 0] bs (getD bs) IC:=by
 refine aC Tryz.func44 Qf rfl fun hw ho=>?_;refine aP 6 6 [3] ((0,bs):Nat×List UInt8) (fun s=>[IC s.1]) (fun s=>RL s.2) (fun k s=>lp (6-k) k s.1 s.2=getD bs/\s.1<128 ^ k) ⟨rfl,by simp⟩ (af rfl) ⟨af rfl,trivial⟩ ⟨bJ,trivial⟩ ?_;rintro k ⟨z,b⟩ hk ⟨a,hz⟩ _ _ _;refine aF (fun n=>?_) (fun t=>?_)
 ·have n:k<6:=by omega
  refine rn 1000 (t87 1 b) rfl rfl rfl (fun h=>?_) fun y r e _=>?_
  ·refine⟨rfl,?_⟩;cases b with
   | nil=>rw[<-a,show 6-k=(5-k)+1 by omega];rfl
   | cons x r=>rw[take1] at h;cases h
  cases b with
  | nil=>rw[Kc] at e;cases e
  | cons x r' =>
   rw[take1] at e;injection e with e
   injection e with e1 e2
   subst e1 e2;refine ER (k:=0) (x:=x) rfl ?_;have hx:=x.toNat_lt;refine bf ?_;refine kK.mk (by omega) ?_;have hc:x.toNat % 128<128:=Nat.mod_lt _ (by omega);have q:128 ^ k<=128 ^ 5:=Nat.pow_le_pow_right (by omega) (by omega);have hm:x.toNat % 128*128 ^ k<=127*128 ^ 5:=Nat.mul_le_mul (by omega) q;have u:((x.toNat:Nat):Int).tmod 128*2 ^ (min ((7:Int)*(k:Int)).toNat 64)=((x.toNat % 128*128 ^ k:Nat):Int):=by
    rw[Int.tmod_eq_emod_of_nonneg (by omega),show min ((7:Int)*(k:Int)).toNat 64=7*k by omega];rw[show(128:Nat) ^ k=2 ^ (7*k) by rw[Nat.pow_mul]]
    push_cast
    rfl
   have l:=or_eq hz hc n;refine bf ?_;refine⟨by omega,Fit.to (m:=((x.toNat % 128*128 ^ k:Nat):Int)) (by rw[show(min ((7:Int)*(k:Int)).toNat IntKind.i64.bits)=min ((7:Int)*(k:Int)).toNat 64 from rfl,u];exact bP (by omega) (by omega)) ?_⟩;have v:z+x.toNat % 128*128 ^ k<9223372036854775808:=by
    have:z<128 ^ 5:=adP hz q;omega
   refine aF (fun c=>?_) (fun aa=>?_)
   ·have c:x.toNat<128:=by omega
    have j:x.toNat % 128=x.toNat:=Nat.mod_eq_of_lt c;have h6:6-k=(6-(k+1))+1:=by omega
    rw[h6] at a;simp only[lp] at a;rw[o6 c] at a;have p:=xor_eq v;have f:IntKind.wrap .i64 ((IntKind.wrap .i64 ((BitVec.ofInt 64 (z:Int) ||| BitVec.ofInt 64 ((x.toNat % 128*128 ^ k:Nat):Int)).toNat:Int)).tdiv 2)=(((z+x.toNat % 128*128 ^ k) / 2:Nat):Int):=by
     rw[l,Int.tdiv_eq_ediv_of_nonneg (by omega)];exact bP (by omega) (by omega)
    have o:0-(IntKind.wrap .i64 ((BitVec.ofInt 64 (z:Int) ||| BitVec.ofInt 64 ((x.toNat % 128*128 ^ k:Nat):Int)).toNat:Int)).tmod 2=0-(((z+x.toNat % 128*128 ^ k) % 2:Nat):Int):=by
     rw[l,Int.tmod_eq_emod_of_nonneg (by omega)];rfl
    have d:IntKind.wrap .i64 (0-(IntKind.wrap .i64 ((BitVec.ofInt 64 (z:Int) ||| BitVec.ofInt 64 ((x.toNat % 128*128 ^ k:Nat):Int)).toNat:Int)).tmod 2)=0-(((z+x.toNat % 128*128 ^ k) % 2:Nat):Int):=by
     rw[o];exact bP (by omega) (by omega)
    refine aF (fun w=>?_) (fun w=>?_)
    ·refine wK (vV true) rfl (fun h=>by cases h) fun _=>?_;rw[o6 (.inl (by omega)),<-j] at a;refine kK.mk (by omega) (Fit.to f ?_);refine kK.mk (by omega) (Fit.to d ?_);exact cD [1000] rfl rfl rfl (j3 (C.int .i64) p) ⟨_,r',a.symm,rfl,rfl⟩
    ·refine wK (vV (decide ((k:Int)=0))) rfl (fun h=>⟨rfl,?_⟩) fun h=>?_
     ·have h:=adq h;rw[<-a,s8 (by omega)]
     ·have h:=ada h;rw[o6 (.inr (by omega)),<-j] at a;refine kK.mk (by omega) (Fit.to f ?_);refine kK.mk (by omega) (Fit.to d ?_);exact cD [1000] rfl rfl rfl (j3 (C.int .i64) p) ⟨_,r',a.symm,rfl,rfl⟩
   ·refine bf ?_;refine⟨(k+1,(z+x.toNat % 128*128 ^ k,r')),⟨by omega,?_,?_⟩,⟨aR,⟨.inr (.inl ⟨j3 C.cel (j3 (C.int .i64) l),rfl⟩),trivial⟩⟩,⟨bJ,trivial⟩,aS n⟩
    ·have h6:6-k=(6-(k+1))+1:=by omega
     rw[<-a,h6];simp only[lp];rw[s8 (by omega),show x.toNat % 128=x.toNat-128 by omega]
    ·rw[Nat.pow_succ];have:x.toNat % 128*128 ^ k<=127*128 ^ k:=Nat.mul_le_mul_right _ (by omega);simp only[];omega
 ·have t:k=6:=by omega
  subst t;refine WA rfl ⟨rfl,?_⟩;rw[<-a];rfl
def Nk (f:Nat):Prop:=∀(t:Nat) (pre post:List C) (x:Int) (bs:List UInt8),cW pre->cW post ->
 CallsTX PZ f [.own 1000 0,.own 1001 pre.length] [RB bs,.win t pre [IC x] post] (fun Mo c=>∃n r,gW bs=some (n,r)/\Mo=[RB r,.win t pre [IC n] post]/\c=.tup []) (fun v=>v=gC/\gW bs=none)
theorem UX:Nk 164:=by
 intro t pre post x bs _ _;refine aC Tryz.func164 MW rfl fun d c=>?_;refine rn 1000 (S1 bs) rfl rfl rfl (fun h=>⟨rfl,by simp only[gW,h]⟩) fun n r e _=>?_;have b:gW bs=if -bound<=n/\n<=bound then some (n,r) else none:=by simp only[gW,e]
 refine⟨.inl ⟨0,rfl,?_⟩⟩;refine⟨.inl ⟨0,rfl,?_⟩⟩;refine aF (fun a=>?_) (fun a=>?_)
 ·have a:-bound<=n:=a;refine⟨.inl ⟨0,rfl,?_⟩⟩;refine wK (vV (decide (n<=bound))) rfl (fun h=>⟨rfl,?_⟩) fun h=>?_
  ·rw[b,s8 (fun q=>adq h q.2)]
  ·exact cD [1000,1001] rfl rfl rfl rfl ⟨n,r,by rw[b,o6 ⟨a,ada h⟩],rfl,rfl⟩
 ·have a:¬-bound<=n:=a;refine wK (vV false) rfl (fun h=>⟨rfl,?_⟩) fun h=>by cases h
  rw[b,s8 (fun q=>a q.1)]
theorem Bm (m:Int) (bs:List UInt8):Rh 165 [.own 1000 0,IC m] bs (Bj bs) (fun n=>IC n):=by
 refine aC Tryz.func165 MX rfl fun f d=>?_;refine rn 1000 (S1 bs) rfl rfl rfl (fun h=>⟨rfl,by simp only[Bj,h]⟩) fun n r e _=>?_;have b:Bj bs=if 0<=n/\n<=100000/\n<=r.length then some (n.toNat,r) else none:=by simp only[Bj,e]
 refine aF (fun a=>?_) (fun a=>?_)
 ·have a:0<=n:=a;refine aF (fun c=>?_) (fun c=>?_)
  ·refine wK (vV (decide (n<=(ah r).length))) rfl (fun h=>⟨rfl,?_⟩) fun h=>?_
   ·have h:=adq h;rw[aG] at h;rw[b,s8 (fun q=>h q.2.2)]
   ·have h:=ada h;rw[aG] at h;exact cD [1000] rfl rfl rfl (j3 (C.int .i64) (show n=(n.toNat:Int) by omega)) ⟨n.toNat,r,by rw[b,o6 ⟨a,c,h⟩],rfl,rfl⟩
  ·refine wK (vV false) rfl (fun h=>⟨rfl,?_⟩) fun h=>by cases h
   rw[b,s8 (fun q=>c q.2.1)]
 ·refine wK (vV false) rfl (fun h=>⟨rfl,?_⟩) fun h=>by cases h
  rw[b,s8 (fun q=>a q.1)]
theorem UY:pB PZ 86 "leasehold/snapshot.num"=some 164:=by kernel_rfl
theorem Bn:pB PZ 86 "leasehold/snapshot.size"=some 165:=by kernel_rfl
theorem Nl {cs:List C}{o:Nat}{c:C}(h:cs[o]?=some c):cs=cs.take o++([c]++cs.drop (o+1)):=by
 have a:=(acP.1 h).1;have b:=(acP.1 h).2
 conv=>lhs;rw[<-List.take_append_drop o cs,adG a,b]
 rfl
theorem IJ {cs:List C}{o:Nat}{c d:C}(h:cs[o]?=some c):cs.set o d=cs.take o++([d]++cs.drop (o+1)):=by
 have a:=(acP.1 h).1;have b:(cs.set o d)[o]?=some d:=by simp[a]
 have:=Nl b
 rwa [List.take_set_of_le (ac4 o),List.drop_set_of_lt (by omega)] at this
theorem Nk.cell {f:Nat}(h:Nk f) (t:Nat) (cs:List C) (o:Nat) (x:Int) (bs:List UInt8) (hi:cW cs) (b:cs[o]?=some (IC x)) :
  CallsTX PZ f [.own 1000 0,.own 1001 o] [RB bs,.win t cs [] []] (fun Mo c=>∃n r,gW bs=some (n,r)/\Mo=[RB r,.win t (cs.set o (IC n)) [] []]/\c=.tup []) (fun v=>v=gC/\gW bs=none):=by
 have a:(cs.take o).length=o:=by have:=(acP.1 b).1;simp;omega
 have d:cW ([]:List C):=fun c j=>by cases j
 have:=h t (cs.take o) (cs.drop (o+1)) x bs (hi.take o) (hi.drop _);rw[a] at this;refine this.view (vw.same (vw.cons (oP (by simpa using Nl b) (hi.take o) (hi.drop _)) (vw.refl []))) ?_ fun _ h=>h;rintro Mo c ⟨n,r,e,rfl,rfl⟩;exact⟨_,vw.same (vw.cons (oP (by simpa using(IJ b).symm) (hi.set rfl) d) (vw.refl [])),n,r,e,rfl,rfl⟩
theorem Nk.box {f:Nat}(h:Nk f) (t:Nat) (x:Int) (bs:List UInt8) :
  CallsTX PZ f [.own 1000 0,.own 1001 0] [RB bs,.box t [IC x]] (fun Mo c=>∃n r,gW bs=some (n,r)/\Mo=[RB r,.box t [IC n]]/\c=.tup []) (fun v=>v=gC/\gW bs=none):=by
 have a:cW ([]:List C):=fun c b=>by cases b
 refine(h t [] [] x bs a a).view (vw.same (vw.cons (yx rfl a a) (vw.refl []))) ?_ fun _ h=>h;rintro Mo c ⟨n,r,e,rfl,rfl⟩;exact⟨_,vw.same (vw.cons (Dt rfl) (vw.refl [])),n,r,e,rfl,rfl⟩
def Dy {a:Type}(g:a->C):List C->List Nat->List a->List C
 | cs,o::os,n::ns=>Dy g (cs.set o (g n)) os ns
 | cs,_,_=>cs
def W6 (f:Nat):Prop:=∀(t:Nat) (cs:List C) (a:List Nat) (bs:List UInt8),cW cs->(∀o∈a,∃x,cs[o]?=some (IC x)) ->
 CallsTX PZ f [.ifo none 86 1000 0,.slo 1001 a] [RB bs,.win t cs [] []] (fun Mo c=>∃ns r,bT gW a.length bs=some (ns,r)/\Mo=[RB r,.win t (Dy IC cs a ns) [] []]/\c=.tup []) (fun v=>v=gC/\bT gW a.length bs=none)
theorem Nm {cs:List C}{o p:Nat}{n x:Int}(h:cs[p]?=some (IC x)):∃y,(cs.set o (IC n))[p]?=some (IC y):=by
 have a:=(acP.1 h).1
 by_cases b:o=p
 ·subst b;exact⟨n,by simp[a]⟩
 ·exact⟨x,by rw[adM b];exact h⟩
theorem aaM:W6 85:=by
 intro t cs a bs hi ho;refine aC Tryz.func85 Im rfl fun hw ad=>?_;have an:a.length<=9223372036854775807:=by have h:=hw.2.1;simp only[Wf,maxLen] at h;exact h
 refine aP a.length 8 [] (cs,bs) (fun _=>[]) (fun s=>[(1000,RB s.2),(1001,.win t s.1 [] [])])
  (fun k s=>(∀ns r,bT gW (a.length-k) s.2=some (ns,r)->∃b,bT gW a.length bs=some (b,r)/\Dy IC cs a b=Dy IC s.1 (a.drop k) ns)/\(bT gW (a.length-k) s.2=none->bT gW a.length bs=none)/\cW s.1/\∀o∈a,∃x,s.1[o]?=some (IC x))
  ⟨fun ns r h=>⟨ns,h,rfl⟩,fun h=>h,hi,ho⟩ (af rfl) trivial ⟨bJ,bJ,trivial⟩ ?_
 rintro k ⟨ds,c⟩ hk ⟨j,m,h3,h4⟩ _ _ aa;refine aF (fun d=>?_) (fun f=>?_)
 ·have d:k<a.length:=by omega
  refine eZ d fun o z u hd=>?_;have l:a.length-k=(a.length-(k+1))+1:=by omega
  simp only[l,hd,bT] at j m;refine r9 (h4 o u) fun x hx=>?_;refine⟨by omega,by omega,?_⟩;refine⟨o,z,?_⟩;refine⟨164,UY,?_⟩;refine cH [1000,1001] (UX.cell t ds o x c h3 hx) rfl rfl rfl rfl (fun v ⟨e,h⟩=>⟨e,m (by simp only[h])⟩) ?_;rintro v Mo ⟨n,r,e,rfl,rfl⟩ _ _;refine⟨rfl,?_⟩;simp only[e] at j m;refine bf ?_;refine⟨(k+1,ds.set o (IC n),r),⟨by omega,fun ns r' h=>?_,fun h=>?_,h3.set rfl,fun p hp=>?_⟩,⟨aR,trivial⟩,⟨bJ,bJ,trivial⟩,aS d⟩
  ·obtain⟨b,w,q⟩:=j (n::ns) r' (by simp only[h]);exact⟨b,w,by rw[q];rfl⟩
  ·exact m (by simp only[h])
  ·obtain⟨y,hy⟩:=h4 p hp;exact Nm hy
 ·have f:a.length-k=0:=by omega
  rw[f] at j;obtain⟨b,w,q⟩:=j [] c rfl;rw[List.drop_eq_nil_of_le (by omega)] at q;exact cD [1000,1001] rfl rfl rfl rfl ⟨b,c,w,by rw[q];rfl,rfl⟩
def W7 (f:Nat):Prop:=∀(t:Nat) (cs:List C) (a:List Nat) (bs:List UInt8),cW cs->(∀o∈a,∃x,cs[o]?=some (.bool x)) ->
 CallsTX PZ f [.ifo none 86 1000 0,.slo 1001 a] [RB bs,.win t cs [] []] (fun Mo c=>∃ns r,bT pu a.length bs=some (ns,r)/\Mo=[RB r,.win t (Dy C.bool cs a ns) [] []]/\c=.tup []) (fun v=>v=gC/\bT pu a.length bs=none)
theorem Ke {cs:List C}{o p:Nat}{n x:Bool}(h:cs[p]?=some (.bool x)):∃y,(cs.set o (.bool n))[p]?=some (.bool y):=by
 have a:=(acP.1 h).1
 by_cases b:o=p
 ·subst b;exact⟨n,by simp[a]⟩
 ·exact⟨x,by rw[adM b];exact h⟩
theorem take_one {cs:List C}{o:Nat}{c:C}(h:cs[o]?=some c):(cs.drop o).take 1=[c]:=by
 have a:=(acP.1 h).1;have b:=(acP.1 h).2;rw[adG a,b];rfl
theorem G0 {cs:List C}{o:Nat}{c d:C}(h:cs[o]?=some c):iy cs o [d]=cs.set o d:=by
 rw[IJ (d:=d) h];simp[iy]
theorem W8 {cs:List C}{o:Nat}{c:C}(h:cs[o]?=some c):o+1<=cs.length:=(acP.1 h).1
theorem W9:W7 103:=by
 intro t cs a bs hi ho;refine aC Tryz.func103 E4 rfl fun hw ak=>?_;have ar:a.length<=9223372036854775807:=by have h:=hw.2.1;simp only[Wf,maxLen] at h;exact h
 refine aP a.length 9 [] (cs,bs) (fun _=>[]) (fun s=>[(1000,RB s.2),(1001,.win t s.1 [] [])])
  (fun k s=>(∀ns r,bT pu (a.length-k) s.2=some (ns,r)->∃b,bT pu a.length bs=some (b,r)/\Dy C.bool cs a b=Dy C.bool s.1 (a.drop k) ns)/\(bT pu (a.length-k) s.2=none->bT pu a.length bs=none)/\cW s.1/\∀o∈a,∃x,s.1[o]?=some (.bool x))
  ⟨fun ns r h=>⟨ns,h,rfl⟩,fun h=>h,hi,ho⟩ (af rfl) trivial ⟨bJ,bJ,trivial⟩ ?_
 rintro k ⟨ds,c⟩ hk ⟨j,f,h3,h4⟩ _ _ ae;refine aF (fun d=>?_) (fun m=>?_)
 ·have d:k<a.length:=by omega
  refine eZ d fun o ad z hd=>?_;have l:a.length-k=(a.length-(k+1))+1:=by omega
  simp only[l,hd,bT] at j f;refine r9 (h4 o z) fun x hx=>?_;refine⟨by omega,by omega,?_⟩;refine⟨o,ad,?_⟩;refine⟨.inr ⟨_,take_one hx,rfl,?_⟩⟩;refine aj (fun _=>?_) (fun _=>?_)
  all_goals
   refine⟨164,UY,?_⟩;refine cH [1000,6] (UX.box 3 _ c) rfl rfl rfl rfl (fun v ⟨e,h⟩=>⟨e,f (by simp only[pu,h])⟩) ?_;rintro v Mo ⟨n,r,e,rfl,rfl⟩ _ _;refine⟨rfl,?_⟩;have hb:pu c=if n=0\/n=1 then some (decide (n=1),r) else none:=by simp only[pu,e]
   refine aF (fun w=>?_) (fun w=>?_)
  all_goals
   refine wK (vV _) rfl (fun h=>?_) fun h=>?_
   ·first
     | cases h
     | (have h:=adq h
        exact⟨rfl,f (by rw[hb,s8 (fun q=>q.elim w h)])⟩)
   have aa:n=0\/n=1:=by first | exact .inl w | exact .inr (ada h)
   rw[o6 aa] at hb;simp only[hb] at j f;refine⟨.inr ⟨ds.set o (.bool (decide (n=1))),W8 hx,rfl,G0 hx,?_⟩⟩;refine bf ?_;refine⟨(k+1,ds.set o (.bool (decide (n=1))),r),⟨by omega,fun ns r' h=>?_,fun h=>?_,h3.set rfl,fun p hp=>?_⟩,⟨aR,trivial⟩,⟨bJ,bJ,trivial⟩,aS d⟩
   ·obtain⟨b,f1,u⟩:=j (decide (n=1)::ns) r' (by simp only[h]);exact⟨b,f1,by rw[u];rfl⟩
   ·exact f (by simp only[h])
   ·obtain⟨y,hy⟩:=h4 p hp;exact Ke hy
 ·have m:a.length-k=0:=by omega
  rw[m] at j;obtain⟨b,f1,u⟩:=j [] c rfl;rw[List.drop_eq_nil_of_le (by omega)] at u;exact cD [1000,1001] rfl rfl rfl rfl ⟨b,c,f1,by rw[u];rfl,rfl⟩
def AR (sz:Nat) (l:List C):Prop:=l.length=sz/\eP l=true/\gJ l=true
theorem Nn {a:Type}{cs:a->List C}{z:List C}{done:List a}{n k:Nat}{x:a}(c:done.length=k) (b:k<n) :
  (done.map cs++List.replicate (n-done.length) z).set k (cs x)=(done++[x]).map cs++List.replicate (n-(done++[x]).length) z:=by
 subst c;rw[show n-done.length=(n-(done++[x]).length)+1 by simp;omega,adB,List.set_append_right _ _ (by simp)];simp
theorem jc {α:Type}{f:Nat}{fi ca:List C}{b:Dec α}{z:List C}{cs:α->List C}{sz e:Nat}(hd:iD f fi ca b z cs) (he:n9 PZ f) (ac:Om e=true)
  (aa:∀c∈fi++.ifo none 86 1000 0::ca,c.kill 1001=c/\tX 1001 sz c=c) (d:∀x,AR sz (cs x)) (hz:AR sz z) {n k:Nat}{done:List α}(hk:done.length=k) (ag:k<n) (a:List UInt8) :
  pQ PZ f (fi++.ifo none 86 1000 0::.elr 1001 k 0::ca) [RB a,.row e sz (done.map cs++List.replicate (n-done.length) z)]
   (fun Mo c=>∃x r,b a=some (x,r)/\Mo=[RB r,.row e sz ((done++[x]).map cs++List.replicate (n-(done++[x]).length) z)]/\c=.tup []) (fun v=>v=gC/\b a=none):=by
 have m:∀l∈done.map cs++List.replicate (n-done.length) z,AR sz l:=by
  intro l s;rcases acN.1 s with s | s
  ·obtain⟨x,_,rfl⟩:=adi.1 s;exact d x
  ·rw[List.eq_of_mem_replicate s];exact hz
 have hj:(done.map cs++List.replicate (n-done.length) z)[k]?=some z:=by
  subst hk;rw[ac7 (by simp),ac1,Nat.sub_self,List.getElem?_replicate,o6 (by omega)]
 have:=CallsTX.acG (A:=RB a) (R:=fun A' es' c=>∃x r,b a=some (x,r)/\A'=RB r/\es'=cs x/\c=.tup []) (Pp:=fun v=>v=gC/\b a=none) he ac rfl ⟨_,_,rfl⟩ aa hj m
  (fun pre post h1 u=>(hd e pre post a h1 u).imp (fun Mo c ⟨x,r,t,p,o⟩=>⟨RB r,cs x,p,x,r,t,rfl,rfl,o⟩) fun _ h=>h)
  (fun A' es' c ⟨x,r,t,p,o,y⟩=>by
   subst p o y;refine⟨(d x).1,(d x).2.1,(d x).2.2,rfl,fun F L L' v h=>?_⟩;simp only[Rel] at h ⊢;exact h)
 refine⟨fun F Li vs h1 u h3=>?_⟩;have q:=this.out F Li vs h1 u h3;have j:∀{F':aJ}{Lo:List Own}{v:Value},iN Li (fun Mo c=>∃A' es',Mo=[A',.row e sz ((done.map cs++List.replicate (n-done.length) z).set k es')]/\∃x r,b a=some (x,r)/\A'=RB r/\es'=cs x/\c=.tup []) F' Lo v ->
   iN Li (fun Mo c=>∃x r,b a=some (x,r)/\Mo=[RB r,.row e sz ((done++[x]).map cs++List.replicate (n-(done++[x]).length) z)]/\c=.tup []) F' Lo v:=by
  rintro F' Lo v ⟨Mo,c,t,p,o,y,A',es',rfl,x,r,e1,rfl,rfl,rfl⟩;exact⟨_,_,t,p,o,y,x,r,e1,by rw[Nn hk ag],rfl⟩
 exact⟨q.ent,fun F G L v ae r=>⟨iN.abM _ _ _ _ ae r.1,r.2⟩,fun w hs=>(q.run w hs).mono fun _ _ k=>k.imp (fun⟨v,F',Lo,e1,e2,e3,e4,e5⟩=>⟨v,F',Lo,e1,e2,e3,j e4,e5⟩) id⟩
theorem mr {bs r:List UInt8}{n:Nat}(h:Bj bs=some (n,r)):n<=100000:=by
 unfold Bj at h;split at h
 ·split at h
  ·injection h with h
   injection h with h1 h2
   omega
  ·cases h
 ·cases h
end Go.Fr.Tryz
