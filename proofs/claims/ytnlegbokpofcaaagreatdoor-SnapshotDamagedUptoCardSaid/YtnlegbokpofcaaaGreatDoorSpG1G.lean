/- Part of the proofs of the statements of this seat. -/
import Derived.Test.YtnlegbokpofcaaaGreatDoorSpL4G
import Derived.Test.YtnlegbokpofcaaaGreatDoorSpIds
import Derived.Deep.DeepWitnessRowRef
set_option maxRecDepth 10000
set_option linter.unusedVariables false
set_option linter.unusedSimpArgs false
namespace Go.Fr.Tryz
open Go Go.RowKit Go.Proofs Go.Fr Go.Fr.T Go.Fr.Api Go.Fr.Dm
theorem FC {bs:List UInt8}{k:Nat}{x:UInt8}(h:bs[k]?=some x):(af bs)[k]?=some [gR x]:=by simp[af,h]
theorem FD (bs:List UInt8) (k:Nat) (v:UInt8):(af bs).set k [gR v]=af (bs.set k v):=by simp[af,List.map_set]
theorem Vb {els:List (List C)}{j off n:Nat}{es0:List C}{K:List C->Prop}(h:els[j]?=some es0) (b:cR ((es0.drop off).take n) n=true) (k:K es0):HJ els j off n fun _=>∀es,els[j]?=some es->K es :=
 ⟨es0,h,b,fun es a=>by rw[h] at a;injection a with a;rw[<-a];exact k⟩
theorem Vc {els:List (List C)}{j n:Nat}{es0:List C}{K:List C->Prop}(h:els[j]?=some es0) (a:cR ((es0.drop 0).take n) n=true) (k:K ((es0.drop 0).take n)):HJ els j 0 n K:=⟨es0,h,a,k⟩
def other (x a:UInt8):UInt8:=UInt8.ofNat ((x.toNat+1+a.toNat % 255) % 256)
theorem Mj (x y:UInt8):other x y≠x:=fun h=>by
 have:=j3 UInt8.toNat h;have b:=x.toNat_lt;have a:=y.toNat_lt;simp only[other,UInt8.toNat_ofNat'] at this;omega
theorem FE (x y:UInt8):IntKind.wrap .u8 ((x.toNat:Int)+1+(y.toNat:Int).tmod 255)=((other x y).toNat:Int):=by
 have b:=x.toNat_lt;have a:=y.toNat_lt;rw[Int.tmod_eq_emod_of_nonneg (by omega)];simp only[IntKind.wrap,IntKind.bits,IntKind.signed,other,UInt8.toNat_ofNat'];simp
theorem Y6 (i:zT) (x:Wd) (b:List UInt8) (a f:Int) (y:UInt8) (ao:0<=a/\a<=65535) (am:0<=f/\f<=65535) (v:CallsT PZ 14 [.agg (Mr i x)] [] (iQ [] (.sl (af b)))) (ad:(af b).length=b.length) (hl:b.length<=20000007) (k n:Nat) (w:b.length≠0->a.tmod (af b).length=k/\k<b.length) (j:b.length≠0->f.tmod (af b).length=n/\n<b.length)
  (u:UInt8) (p:b.length≠0->b[k]?=some u) (o m:Int) (r:o=16\/o=17) (t:m=16\/m=17)
  (c:b.length≠0->CallsT PZ 10 [.agg (Lr i),.sl (af (b.set k (other u y)))] [] (iQ [] (.tup [.agg (uQ [] [] 0 w0),IC o])))
  (d:b.length≠0->CallsT PZ 10 [.agg (Lr i),.sl (af (b.take n))] [] (iQ [] (.tup [.agg (uQ [] [] 0 w0),IC m]))) :
  CallsT PZ 6 [.agg (Mr i x),.int .u16 a,gR y,.int .u16 f] [] (iQ [] (.bool true)):=by
 rcases r with rfl | rfl<;>rcases t with rfl | rfl
 all_goals
  refine au Tryz.func6 RX rfl fun hw _=>?_;refine bY t7 rfl fun _=>?_;refine rm (t8 i x) rfl fun q _=>?_;refine aB (fun _=>?_) (fun _=>?_)
  ·exact bK rfl rfl
  refine bY v rfl fun _=>?_;refine aM (fun h0=>?_) (fun h0=>?_)
  ·exact bK rfl rfl
  refine aM (fun h2=>?_) (fun h2=>?_)
  ·exact bK rfl rfl
  have e:b.length≠0:=by omega
  have h:=(w e).1;have ag:=(w e).2;have s:=(j e).1;have z:=(j e).2;have p:=p e;have c:=c e;have d:=d e;have al:=u.toNat_lt;have an:=y.toNat_lt;refine⟨by omega,eJ (bs:=[]),rY.mk eJ ?_ ?_ ?_⟩
  ·show 0+(af b).length<=maxLen;simp only[maxLen];omega
  ·show(0+(af b).length)*1<=_;omega
  refine Fit.aae (by omega) (by omega) ?_;refine mr.mk (by omega) ?_;refine Mu.mk (by omega) ?_ ?_
  ·show a.tmod _<(((af b).length:Nat):Int);omega
  have l:(af b)[(a.tmod ↑(af b).length).toNat]?=some [gR u]:=by rw[h];exact FC p
  refine Vc l rfl ?_;refine Fit.aae (by omega) (by omega) ?_;refine Fit.aae (by omega) (by omega) ?_;refine Fit.aae (by omega) (by omega) ?_;refine mr.mk (by omega) ?_;have hr:=Int.emod_nonneg (y.toNat:Int) (show(255:Int)≠0 by omega);have ae:=Int.emod_lt_of_pos (y.toNat:Int) (show(0:Int)<255 by omega);have aa:(y.toNat:Int).tmod 255=(y.toNat:Int) % 255:=Int.tmod_eq_emod_of_nonneg (by omega);refine Fit.aae (by omega) (by omega) ?_;refine Fit.to (FE u y) ?_;refine Mu.mk (by omega) ?_ ?_
  ·show a.tmod _<(((af b).length:Nat):Int);omega
  refine⟨rfl,Vb l rfl ?_⟩;refine uE [35] [] [] c ⟨[],rfl,rfl,?_,rfl,rfl,fun _ _=>?_⟩
  ·show[C.agg _,C.sl ((af b).set (a.tmod ↑(af b).length).toNat [gR (other u y)])]=_;rw[h,abN,FD];rfl
  refine Fit.aae (by omega) (by omega) ?_;refine mr.mk (by omega) ?_;refine Bw.mk (abe 0) (by omega) (by omega) eJ ?_;refine jy d ?_ fun _=>?_
  ·show[C.agg _,C.sl (((af b).drop 0).take ((f.tmod ↑(af b).length).toNat-0))]=_;rw[s,abN,gG];rfl
  exact bK rfl rfl
theorem Mk {bs:List UInt8}(h:(nN bs).2≠0):∃e:Int,(e=16\/e=17)/\nN bs=(none,e):=by
 rcases vO bs with⟨x,e,_⟩ | e | e
 ·rw[e] at h;exact o4 rfl h
 ·exact⟨16,.inl rfl,e⟩
 ·exact⟨17,.inr rfl,e⟩
theorem El {a:Int}{m:Nat}(h:0<=a) (d:m≠0):∃k:Nat,a.tmod (m:Int)=k/\k<m:=by
 rw[Int.tmod_eq_emod_of_nonneg h];have c:=Int.emod_lt_of_pos a (show(0:Int)<m by omega);obtain⟨k,b⟩:=Int.eq_ofNat_of_zero_le (Int.emod_nonneg a (show(m:Int)≠0 by omega));exact⟨k,b,by omega⟩
theorem t6 (i:zT) (x:Wd) (hx:Fs x) (hb:(kI kW x).1.length<=20000000) (a j:Int) (y:UInt8) (f:0<=a/\a<=65535) (e:0<=j/\j<=65535) :
  CallsT PZ 6 [.agg (Mr i x),.int .u16 a,gR y,.int .u16 j] [] (iQ [] (.bool true)):=by
 have r:=S8 hb;have d:=aO (bs:=dQ x);have p:=YM i x hx hb
 by_cases c:(dQ x).length=0
 ·exact Y6 i x (dQ x) a j y f e p d r 0 0 (fun h=>o4 c h) (fun h=>o4 c h) 0 (fun h=>o4 c h) 16 16 (.inl rfl) (.inl rfl) (fun h=>o4 c h) (fun h=>o4 c h)
 ·obtain⟨k,hk,o⟩:=El (m:=(dQ x).length) f.1 c;obtain⟨n,t,l⟩:=El (m:=(dQ x).length) e.1 c;have q:(dQ x)[k]?=some (dQ x)[k]:=by simp[o]
  obtain⟨u,v,w⟩:=Mk (Ps c q (Mj (dQ x)[k] y));obtain⟨s,z,d2⟩:=Mk (Pr c l);refine Y6 i x (dQ x) a j y f e p d r k n (fun _=>⟨by rw[d];exact hk,o⟩) (fun _=>⟨by rw[d];exact t,l⟩) (dQ x)[k] (fun _=>q) u s v z (fun _=>?_) (fun _=>?_)
  ·have b:=Vm (i.datas.map jc) (i.routs.map jd) i.main ((dQ x).set k (other (dQ x)[k] y)) (by rw[List.length_set];omega);rw[w] at b;exact b
  ·have b:=Vm (i.datas.map jc) (i.routs.map jd) i.main ((dQ x).take n) (by rw[aa6];omega);rw[d2] at b;exact b
end Go.Fr.Tryz
namespace Go.Fr.Tryz
open Go Go.RowKit Go.Proofs Go.Fr Go.Fr.T
theorem CB {W:World}{p:Prop}(h:p):sM (qp W):=trivial
end Go.Fr.Tryz
