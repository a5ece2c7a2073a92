/- Part of the proofs of the statements of this seat. -/
import Derived.Test.YtnlegbokpofcaaaGreatDoorSpT5G
import Derived.Test.YtnlegbokpofcaaaGreatDoorSpT8G
import Derived.Test.YtnlegbokpofcaaaGreatDoorSpW1G
import Derived.Test.YtnlegbokpofcaaaGreatDoorFW3
set_option maxRecDepth 10000
set_option linter.unusedVariables false
set_option linter.unusedSimpArgs false
namespace Go.Fr.Tryz
open Go Go.RowKit Go.Proofs Go.Fr Go.Fr.T Go.Fr.Api
structure s5 (k:Kd):Prop where
 num:∃f,n9 PZ k.t "leasehold/snapshot.num"=some f/\(∀n,fH k f [.own 1000 0,.pt [IC n] 0] (k.num n))/\∀n,Vy k f n
 siz:∃f,n9 PZ k.t "leasehold/snapshot.size"=some f/\∀n:Nat,SS k f [.own 1000 0,IC n] (k.siz n) (IC n)
 mkn:Nv FN k.t "leasehold/snapshot.num"=true
 mks:Nv FN k.t "leasehold/snapshot.size"=true
theorem z5:s5 kW:=⟨⟨167,by kernel_rfl,Vv,RJ⟩,⟨168,by kernel_rfl,Vw⟩,rfl,rfl⟩
theorem z6:s5 kL:=⟨⟨169,by kernel_rfl,RI,RM⟩,⟨170,by kernel_rfl,Vx⟩,rfl,rfl⟩
theorem Eh {l:List C}(h:dP l=true) (n:Nat):dP (l.take n)=true:=iX.2 fun c a=>iX.1 h c (List.mem_of_mem_take a)
theorem Ei {l:List C}(h:dP l=true) (n:Nat):dP (l.drop n)=true:=iX.2 fun c a=>iX.1 h c (List.mem_of_mem_drop a)
theorem Ft {F:aD}{L:Loc}{es es':List C}{off:Nat}{v:Value}(e:(es.drop off).take es'.length=es') (h:Rel F L (.pt es off) v):Rel F L (.pt es' 0) v:=by
 simp only[Rel] at h ⊢;obtain⟨b,o,vs,rfl,⟨c,d,t,j,hb,n,f⟩,l,m⟩:=h;refine⟨b,o,(vs.drop off).take es'.length,rfl,⟨c+off,d,t,j,hb,by omega,fun i v a=>?_⟩,?_,?_⟩
 ·rw[aaN] at a;split at a
  case isFalse=>cases a
  rw[aaL] at a;have:=f _ _ a
  rwa [<-Nat.add_assoc] at this
 ·rw[<-e];exact Eh (Ei l off) _
 ·have:=(m.drop off).take es'.length
  rwa [e] at this
theorem Fu {P:Program}{f:Nat}{args a:List C}{Lin:List TO}{R:List TO->C->Prop}{Pp:Value->Prop}(h:CallsTX P f args Lin R Pp) (d:∀F L vs,aF F L a vs->aF F L args vs):CallsTX P f a Lin R Pp :=
 ⟨fun F Li vs e c b=>h.out F Li vs e c (d _ _ _ b)⟩
theorem C0 {F:aD}{L:Loc}{a b:List C}{c l:C}(m:∀v,Rel F L c v->Rel F L l v):∀{vs:List Value},aF F L (a++c::b) vs->aF F L (a++l::b) vs:=by
 induction a with
 | nil =>
  intro vs h;simp only[aaP,aF] at h ⊢;obtain⟨v,e,rfl,j,f⟩:=h;exact⟨v,e,rfl,m v j,f⟩
 | cons d a n =>
  intro vs h;simp only[aay,aF] at h ⊢;obtain⟨v,e,rfl,j,f⟩:=h;exact⟨v,e,rfl,j,n f⟩
theorem fH.at {k:Kd}{f:Nat}{b:C}{ca:List C}{es es':List C}{off:Nat}{e:Enc}(h:fH k f (b::.pt es' 0::ca) e) (j:(es.drop off).take es'.length=es'):fH k f (b::.pt es off::ca) e :=
 fun bs hb=>Fu (h bs hb) fun F L vs d=>C0 (a:=[b]) (fun v c=>Ft j c) d
def Fv (es:List C):List Nat->List C->Prop
 | o::os,c::cs=>es[o]?=some c/\Fv es os cs
 | [],[]=>True
 | _,_=>False
theorem C2 {F:aD}{a:Option Addr}{sz:Nat}{es:List C}:∀{os:List Nat}{cs:List C}{i:Nat},Fv es os cs->gF F a sz i (os.map fun o=>[.pt es o])->gF F a sz i (cs.map fun c=>[.pt [c] 0])
 | [],[],i,_,h=>by simp only[abb,gF]
 | o::os,c::cs,i,b,h=>by
  simp only[aao,gF] at h ⊢;obtain⟨⟨vs,l,n,p,e⟩,j⟩:=h;refine⟨⟨vs,l,n,rfl,?_⟩,C2 b.2 j⟩;simp only[aF] at e ⊢;obtain⟨v,d,rfl,m,f⟩:=e;refine⟨v,d,rfl,Ft (es':=[c]) ?_ m,f⟩;exact take_one b.1
 | [],_::_,i,b,h=>b.elim
 | _::_,[],i,b,h=>b.elim
theorem z7 {es:List C}:∀{os:List Nat}{cs:List C},Fv es os cs->os.length=cs.length
 | [],[],_=>rfl
 | o::os,c::cs,h=>by simp[z7 h.2]
theorem fH.pts {k:Kd}{f:Nat}{d:C}{es:List C}{os:List Nat}{cs:List C}{e:Enc}(h:fH k f [d,.sl (cs.map fun c=>[.pt [c] 0])] e) (m:Fv es os cs):fH k f [d,.sl (os.map fun o=>[.pt es o])] e :=
 fun bs hb=>Fu (h bs hb) fun F L vs r=>C0 (a:=[d]) (b:=[]) (fun v j=>by
  simp only[Rel] at j ⊢;obtain⟨a,c,rfl,s,u,l,sz,q⟩:=j;have n:=z7 m;simp only[aax] at s u l ⊢;refine⟨a,c,by rw[n],by omega,by omega,fun e=>?_,sz,C2 m q⟩;obtain⟨p,t⟩:=l e;have:os=[]:=by simpa using p
  subst this;have:cs=[]:=aaG (by simpa using n.symm);subst this;exact⟨rfl,t⟩) r
theorem J5 {a b:Enc}(p:List UInt8) (h:a.2=true):bn (p,true) (bn a b)=bn (p++a.1,true) b:=by
 obtain⟨q,y⟩:=a;simp only at h;subst h;simp[bn]
theorem J6 {a b:Enc}(p:List UInt8) (h:a.2=false):(bn (p,true) (bn a b)).2=false:=by simp[bn,h]
theorem ju {b:Type}{f:b->Enc}{l:List b}{k:Nat}{x:b}{bs s p:List UInt8}(d:l.drop k=x::l.drop (k+1)) (c:s=bs++p) (a:aS f l=bn (p,true) (aS f (l.drop k))) (hb:bs.length+(aS f l).1.length<=70368744177664) :
  s.length+(f x).1.length<=70368744177664/\((f x).2=false->(aS f l).2=false)/\((f x).2=true->aS f l=bn (p++(f x).1,true) (aS f (l.drop (k+1)))):=by
 rw[d] at a;have e:aS f (x::l.drop (k+1))=bn (f x) (aS f (l.drop (k+1))):=rfl;rw[e] at a;refine⟨?_,fun h=>by rw[a];exact J6 p h,fun h=>by rw[a,J5 p h]⟩;rw[a] at hb;rw[c];simp only[bn,aak] at hb ⊢;omega
theorem lV {b:Type}{f:b->Enc}{l:List b}{k:Nat}{bs s p:List UInt8}(d:l.drop k=[]) (c:s=bs++p) (a:aS f l=bn (p,true) (aS f (l.drop k))):(aS f l).2=true/\s=bs++(aS f l).1:=by
 rw[d] at a;rw[a,c];simp[bn,aS,QI]
section
variable {k:Kd}(hk:s5 k)
include hk
theorem Bq (ns:List Int):fH k 85 [.ifo none k.t 1000 0,.sl ((ns.map IC).map fun c=>[.pt [c] 0])] (aS k.num ns):=by
 intro bs hb;obtain⟨fn,n,m,_⟩:=hk.num;rw[aa6];refine aq Tryz.func85 E9 rfl fun o ho=>?_;have ab:=dL o.2.1;have f:((ns.map ((fun c=>[C.pt [c] 0])∘IC)).length:Int)=ns.length:=by simp
 refine bF ns.length 8 [] bs (fun _=>[]) (fun s=>Eb k.tb s) (fun i s=>∃p,s=bs++p/\aS k.num ns=bn (p,true) (aS k.num (ns.drop i))) ⟨[],by simp,by simp[bn]⟩ (ak rfl) trivial
  ⟨.inl ⟨_,rfl,.inl ⟨rfl,rfl⟩⟩,.inl ⟨_,rfl,.inl ⟨rfl,rfl⟩⟩,trivial⟩ (fun _=>rfl) (fun _=>rfl) ?_
 rintro i s hi ⟨p,j,b⟩ _ _ _;refine aN (fun a=>?_) (fun d=>?_)
 ·have a:i<ns.length:=by
   have h:(i:Int)<((ns.map ((fun c=>[C.pt [c] 0])∘IC)).length:Int):=a;rw[f] at h;omega
  refine fj a fun x hx u r=>?_;obtain⟨y,z,w⟩:=ju r j b hb;refine ck hx rfl rfl ?_;refine⟨fn,n,?_⟩;refine bW [1000,1001] (m x s y) rfl rfl rfl rfl (fun v ⟨e,h⟩=>⟨e,z h⟩) ?_;rintro v Mo ⟨l,rfl,rfl⟩ _ _;refine⟨rfl,?_⟩;refine Fit.ZA (by omega) (by omega) ?_;exact⟨(i+1,s++(k.num x).1),⟨by omega,p++(k.num x).1,by rw[j,aan],w l⟩,⟨bL,trivial⟩,⟨.inl ⟨_,rfl,.inl ⟨rfl,rfl⟩⟩,.inl ⟨_,rfl,.inl ⟨rfl,rfl⟩⟩,trivial⟩,bM a⟩
 ·have d:¬i<ns.length:=by
   have h:¬(i:Int)<((ns.map ((fun c=>[C.pt [c] 0])∘IC)).length:Int):=d;rw[f] at h;omega
  obtain⟨l,q⟩:=lV (gH d) j b;exact dz [1000,1001] rfl rfl rfl rfl ⟨l,j3 (WB k.tb) q,rfl⟩
theorem C3 (ns:List Bool):fH k 103 [.ifo none k.t 1000 0,.sl ((ns.map C.bool).map fun c=>[.pt [c] 0])] (aS (oH k) ns):=by
 intro bs hb;obtain⟨fn,o,_,n⟩:=hk.num;rw[aa6];refine aq Tryz.func103 CF rfl fun r ho=>?_;have ac:=dL r.2.1;have j:((ns.map ((fun c=>[C.pt [c] 0])∘C.bool)).length:Int)=ns.length:=by simp
 refine bF ns.length 9 [] bs (fun _=>[]) (fun s=>Eb k.tb s) (fun i s=>∃p,s=bs++p/\aS (oH k) ns=bn (p,true) (aS (oH k) (ns.drop i))) ⟨[],by simp,by simp[bn]⟩ (ak rfl) trivial
  ⟨.inl ⟨_,rfl,.inl ⟨rfl,rfl⟩⟩,.inl ⟨_,rfl,.inl ⟨rfl,rfl⟩⟩,trivial⟩ (fun _=>rfl) (fun _=>rfl) ?_
 rintro i s hi ⟨p,l,b⟩ _ _ _;refine aN (fun a=>?_) (fun d=>?_)
 ·have a:i<ns.length:=by
   have h:(i:Int)<((ns.map ((fun c=>[C.pt [c] 0])∘C.bool)).length:Int):=a;rw[j] at h;omega
  refine fj a fun x hx y w=>?_;obtain⟨z,g2,q⟩:=ju w l b hb;refine ck hx rfl rfl ?_;refine ah (fun f=>?_) (fun f=>?_)
  all_goals
   subst f;refine⟨fn,o,?_⟩;refine bW [1000,1001,6] (n _ s z) rfl rfl rfl rfl (fun v ⟨e,h⟩=>⟨e,g2 h⟩) ?_;rintro v Mo ⟨m,rfl,rfl⟩ _ _;refine⟨rfl,?_⟩
  ·refine u4 (uo true) rfl (fun h=>by cases h) fun _=>?_;refine⟨rfl,?_⟩;refine Fit.ZA (by omega) (by omega) ?_;exact⟨(i+1,s++(oH k true).1),⟨by omega,p++(oH k true).1,by rw[l,aan],q m⟩,⟨bL,trivial⟩,⟨.inl ⟨_,rfl,.inl ⟨rfl,rfl⟩⟩,.inl ⟨_,rfl,.inl ⟨rfl,rfl⟩⟩,trivial⟩,bM a⟩
  ·refine u4 (uo true) rfl (fun h=>by cases h) fun _=>?_;refine⟨rfl,?_⟩;refine Fit.ZA (by omega) (by omega) ?_;exact⟨(i+1,s++(oH k false).1),⟨by omega,p++(oH k false).1,by rw[l,aan],q m⟩,⟨bL,trivial⟩,⟨.inl ⟨_,rfl,.inl ⟨rfl,rfl⟩⟩,.inl ⟨_,rfl,.inl ⟨rfl,rfl⟩⟩,trivial⟩,bM a⟩
 ·have d:¬i<ns.length:=by
   have h:¬(i:Int)<((ns.map ((fun c=>[C.pt [c] 0])∘C.bool)).length:Int):=d;rw[j] at h;omega
  obtain⟨m,u⟩:=lV (gH d) l b;exact dz [1000,1001] rfl rfl rfl rfl ⟨m,j3 (WB k.tb) u,rfl⟩
end
theorem R4 {k:Kd}(hk:s5 k) {w:Type}{f:Nat}{enc:w->Enc}{cs:w->List C}(l:List w) (hl:∀x,T.dD (cs x) 1=true) (hf:∀x∈l,fH k f (.ifo none k.t 1000 0::.pt (cs x) 0::[]) (enc x)) :
  fH k 109 [.ifo none k.t 1000 0,.pt [.sl (l.map cs)] 0,.fn f [] []] (bQ k enc l):=by
 intro bs hb;obtain⟨fs,u,q⟩:=hk.siz;have hE:bQ k enc l=bn (k.siz (l.map cs).length) (aS enc l):=by unfold bQ;rw[aax]
 rw[hE] at hb ⊢;have y:bs.length+(k.siz (l.map cs).length).1.length<=70368744177664:=by
  simp only[bn,aak] at hb;omega
 refine aq Tryz.func109 CM rfl fun hw ho=>?_;have n:(l.map cs).length<=9223372036854775807:=by have h:=hw.2.1.1.1;simp only[maxLen] at h;exact h
 refine⟨hk.mks,?_⟩;refine⟨fs,u,?_⟩;refine cu [1000,1001] (q (l.map cs).length bs y) rfl rfl rfl rfl (fun v ⟨e,h⟩=>⟨e,by show(_&&_)=false;rw[h];rfl⟩) ?_;rintro v Mo ⟨e0,rfl,rfl⟩ _ _;refine⟨rfl,?_⟩;refine ah (fun h=>?_) (fun _=>?_)
 ·simp at h
 have j:(bs++(k.siz (l.map cs).length).1).length+(aS enc l).1.length<=70368744177664:=by
  simp only[bn,aak] at hb ⊢;omega
 generalize z:bs++(k.siz (l.map cs).length).1=b1 at j;have d:((l.map cs).length:Int)=l.length:=by simp
 refine bF l.length 31 [] b1 (fun _=>[]) (fun s=>Eb k.tb s) (fun i s=>∃p,s=b1++p/\aS enc l=bn (p,true) (aS enc (l.drop i))) ⟨[],by simp,by simp[bn]⟩ (ak rfl) trivial
  ⟨.inl ⟨_,rfl,.inl ⟨rfl,rfl⟩⟩,.inl ⟨_,rfl,.inl ⟨rfl,rfl⟩⟩,trivial⟩ (fun _=>rfl) (fun _=>rfl) ?_
 rintro i s hi ⟨p,m,b⟩ _ _ _;refine aN (fun a=>?_) (fun c=>?_)
 ·have a:i<l.length:=by
   have h:(i:Int)<((l.map cs).length:Int):=a;rw[d] at h;omega
  refine fj a fun x hx o hd=>?_;obtain⟨g1,g2,g3⟩:=ju hd m b j;refine ck hx rfl (hl x) ?_;refine bW [1000,1001] (hf x o s g1) rfl rfl rfl rfl (fun v ⟨e,h⟩=>⟨e,by show(_&&_)=false;rw[g2 h,aaS]⟩) ?_;rintro v Mo ⟨r,rfl,rfl⟩ _ _;refine⟨rfl,?_⟩;refine Fit.ZA (by omega) (by rw[aax] at n;omega) ?_;exact⟨(i+1,s++(enc x).1),⟨by omega,p++(enc x).1,by rw[m,aan],g3 r⟩,⟨bL,trivial⟩,⟨.inl ⟨_,rfl,.inl ⟨rfl,rfl⟩⟩,.inl ⟨_,rfl,.inl ⟨rfl,rfl⟩⟩,trivial⟩,bM a⟩
 ·have c:¬i<l.length:=by
   have h:¬(i:Int)<((l.map cs).length:Int):=c;rw[d] at h;omega
  obtain⟨r,e2⟩:=lV (gH c) m b;exact dz [1000,1001] rfl rfl rfl rfl ⟨by show(_&&_)=true;rw[e0,r];rfl,j3 (WB k.tb) (by rw[e2,<-z];show _=bs++(_++_);rw[aan]),rfl⟩
theorem VL {k:Kd}(hk:s5 k) {w:Type}{f:Nat}{enc:w->Enc}{cs:w->List C}(l:List w) (hl:∀x,T.dD (cs x) 1=true) (hf:∀x∈l,fH k f (.ifo none k.t 1000 0::.pt (cs x) 0::[]) (enc x)) :
  fH k 77 [.ifo none k.t 1000 0,.pt [.sl (l.map cs)] 0,.fn f [] []] (bQ k enc l):=by
 intro bs hb;obtain⟨fs,u,q⟩:=hk.siz;have hE:bQ k enc l=bn (k.siz (l.map cs).length) (aS enc l):=by unfold bQ;rw[aax]
 rw[hE] at hb ⊢;have y:bs.length+(k.siz (l.map cs).length).1.length<=70368744177664:=by
  simp only[bn,aak] at hb;omega
 refine aq Tryz.func77 EY rfl fun hw ho=>?_;have n:(l.map cs).length<=9223372036854775807:=by have h:=hw.2.1.1.1;simp only[maxLen] at h;exact h
 refine⟨hk.mks,?_⟩;refine⟨fs,u,?_⟩;refine cu [1000,1001] (q (l.map cs).length bs y) rfl rfl rfl rfl (fun v ⟨e,h⟩=>⟨e,by show(_&&_)=false;rw[h];rfl⟩) ?_;rintro v Mo ⟨e0,rfl,rfl⟩ _ _;refine⟨rfl,?_⟩;refine ah (fun h=>?_) (fun _=>?_)
 ·simp at h
 have j:(bs++(k.siz (l.map cs).length).1).length+(aS enc l).1.length<=70368744177664:=by
  simp only[bn,aak] at hb ⊢;omega
 generalize z:bs++(k.siz (l.map cs).length).1=b1 at j;have d:((l.map cs).length:Int)=l.length:=by simp
 refine bF l.length 31 [] b1 (fun _=>[]) (fun s=>Eb k.tb s) (fun i s=>∃p,s=b1++p/\aS enc l=bn (p,true) (aS enc (l.drop i))) ⟨[],by simp,by simp[bn]⟩ (ak rfl) trivial
  ⟨.inl ⟨_,rfl,.inl ⟨rfl,rfl⟩⟩,.inl ⟨_,rfl,.inl ⟨rfl,rfl⟩⟩,trivial⟩ (fun _=>rfl) (fun _=>rfl) ?_
 rintro i s hi ⟨p,m,b⟩ _ _ _;refine aN (fun a=>?_) (fun c=>?_)
 ·have a:i<l.length:=by
   have h:(i:Int)<((l.map cs).length:Int):=a;rw[d] at h;omega
  refine fj a fun x hx o hd=>?_;obtain⟨g1,g2,g3⟩:=ju hd m b j;refine ck hx rfl (hl x) ?_;refine bW [1000,1001] (hf x o s g1) rfl rfl rfl rfl (fun v ⟨e,h⟩=>⟨e,by show(_&&_)=false;rw[g2 h,aaS]⟩) ?_;rintro v Mo ⟨r,rfl,rfl⟩ _ _;refine⟨rfl,?_⟩;refine Fit.ZA (by omega) (by rw[aax] at n;omega) ?_;exact⟨(i+1,s++(enc x).1),⟨by omega,p++(enc x).1,by rw[m,aan],g3 r⟩,⟨bL,trivial⟩,⟨.inl ⟨_,rfl,.inl ⟨rfl,rfl⟩⟩,.inl ⟨_,rfl,.inl ⟨rfl,rfl⟩⟩,trivial⟩,bM a⟩
 ·have c:¬i<l.length:=by
   have h:¬(i:Int)<((l.map cs).length:Int):=c;rw[d] at h;omega
  obtain⟨r,e2⟩:=lV (gH c) m b;exact dz [1000,1001] rfl rfl rfl rfl ⟨by show(_&&_)=true;rw[e0,r];rfl,j3 (WB k.tb) (by rw[e2,<-z];show _=bs++(_++_);rw[aan]),rfl⟩
theorem VN {k:Kd}(hk:s5 k) {w:Type}{f:Nat}{enc:w->Enc}{cs:w->List C}(l:List w) (hl:∀x,T.dD (cs x) 10=true) (hf:∀x∈l,fH k f (.ifo none k.t 1000 0::.pt (cs x) 0::[]) (enc x)) :
  fH k 75 [.ifo none k.t 1000 0,.pt [.sl (l.map cs)] 0,.fn f [] []] (bQ k enc l):=by
 intro bs hb;obtain⟨fs,u,q⟩:=hk.siz;have hE:bQ k enc l=bn (k.siz (l.map cs).length) (aS enc l):=by unfold bQ;rw[aax]
 rw[hE] at hb ⊢;have y:bs.length+(k.siz (l.map cs).length).1.length<=70368744177664:=by
  simp only[bn,aak] at hb;omega
 refine aq Tryz.func75 EW rfl fun hw ho=>?_;have n:(l.map cs).length<=9223372036854775807:=by have h:=hw.2.1.1.1;simp only[maxLen] at h;exact h
 refine⟨hk.mks,?_⟩;refine⟨fs,u,?_⟩;refine cu [1000,1001] (q (l.map cs).length bs y) rfl rfl rfl rfl (fun v ⟨e,h⟩=>⟨e,by show(_&&_)=false;rw[h];rfl⟩) ?_;rintro v Mo ⟨e0,rfl,rfl⟩ _ _;refine⟨rfl,?_⟩;refine ah (fun h=>?_) (fun _=>?_)
 ·simp at h
 have j:(bs++(k.siz (l.map cs).length).1).length+(aS enc l).1.length<=70368744177664:=by
  simp only[bn,aak] at hb ⊢;omega
 generalize z:bs++(k.siz (l.map cs).length).1=b1 at j;have d:((l.map cs).length:Int)=l.length:=by simp
 refine bF l.length 31 [] b1 (fun _=>[]) (fun s=>Eb k.tb s) (fun i s=>∃p,s=b1++p/\aS enc l=bn (p,true) (aS enc (l.drop i))) ⟨[],by simp,by simp[bn]⟩ (ak rfl) trivial
  ⟨.inl ⟨_,rfl,.inl ⟨rfl,rfl⟩⟩,.inl ⟨_,rfl,.inl ⟨rfl,rfl⟩⟩,trivial⟩ (fun _=>rfl) (fun _=>rfl) ?_
 rintro i s hi ⟨p,m,b⟩ _ _ _;refine aN (fun a=>?_) (fun c=>?_)
 ·have a:i<l.length:=by
   have h:(i:Int)<((l.map cs).length:Int):=a;rw[d] at h;omega
  refine fj a fun x hx o hd=>?_;obtain⟨g1,g2,g3⟩:=ju hd m b j;refine ck hx rfl (hl x) ?_;refine bW [1000,1001] (hf x o s g1) rfl rfl rfl rfl (fun v ⟨e,h⟩=>⟨e,by show(_&&_)=false;rw[g2 h,aaS]⟩) ?_;rintro v Mo ⟨r,rfl,rfl⟩ _ _;refine⟨rfl,?_⟩;refine Fit.ZA (by omega) (by rw[aax] at n;omega) ?_;exact⟨(i+1,s++(enc x).1),⟨by omega,p++(enc x).1,by rw[m,aan],g3 r⟩,⟨bL,trivial⟩,⟨.inl ⟨_,rfl,.inl ⟨rfl,rfl⟩⟩,.inl ⟨_,rfl,.inl ⟨rfl,rfl⟩⟩,trivial⟩,bM a⟩
 ·have c:¬i<l.length:=by
   have h:¬(i:Int)<((l.map cs).length:Int):=c;rw[d] at h;omega
  obtain⟨r,e2⟩:=lV (gH c) m b;exact dz [1000,1001] rfl rfl rfl rfl ⟨by show(_&&_)=true;rw[e0,r];rfl,j3 (WB k.tb) (by rw[e2,<-z];show _=bs++(_++_);rw[aan]),rfl⟩
theorem VO {k:Kd}(hk:s5 k) {w:Type}{f:Nat}{enc:w->Enc}{cs:w->List C}(l:List w) (hl:∀x,T.dD (cs x) 7=true) (hf:∀x∈l,fH k f (.ifo none k.t 1000 0::.pt (cs x) 0::[]) (enc x)) :
  fH k 79 [.ifo none k.t 1000 0,.pt [.sl (l.map cs)] 0,.fn f [] []] (bQ k enc l):=by
 intro bs hb;obtain⟨fs,u,q⟩:=hk.siz;have hE:bQ k enc l=bn (k.siz (l.map cs).length) (aS enc l):=by unfold bQ;rw[aax]
 rw[hE] at hb ⊢;have y:bs.length+(k.siz (l.map cs).length).1.length<=70368744177664:=by
  simp only[bn,aak] at hb;omega
 refine aq Tryz.func79 E0 rfl fun hw ho=>?_;have n:(l.map cs).length<=9223372036854775807:=by have h:=hw.2.1.1.1;simp only[maxLen] at h;exact h
 refine⟨hk.mks,?_⟩;refine⟨fs,u,?_⟩;refine cu [1000,1001] (q (l.map cs).length bs y) rfl rfl rfl rfl (fun v ⟨e,h⟩=>⟨e,by show(_&&_)=false;rw[h];rfl⟩) ?_;rintro v Mo ⟨e0,rfl,rfl⟩ _ _;refine⟨rfl,?_⟩;refine ah (fun h=>?_) (fun _=>?_)
 ·simp at h
 have j:(bs++(k.siz (l.map cs).length).1).length+(aS enc l).1.length<=70368744177664:=by
  simp only[bn,aak] at hb ⊢;omega
 generalize z:bs++(k.siz (l.map cs).length).1=b1 at j;have d:((l.map cs).length:Int)=l.length:=by simp
 refine bF l.length 31 [] b1 (fun _=>[]) (fun s=>Eb k.tb s) (fun i s=>∃p,s=b1++p/\aS enc l=bn (p,true) (aS enc (l.drop i))) ⟨[],by simp,by simp[bn]⟩ (ak rfl) trivial
  ⟨.inl ⟨_,rfl,.inl ⟨rfl,rfl⟩⟩,.inl ⟨_,rfl,.inl ⟨rfl,rfl⟩⟩,trivial⟩ (fun _=>rfl) (fun _=>rfl) ?_
 rintro i s hi ⟨p,m,b⟩ _ _ _;refine aN (fun a=>?_) (fun c=>?_)
 ·have a:i<l.length:=by
   have h:(i:Int)<((l.map cs).length:Int):=a;rw[d] at h;omega
  refine fj a fun x hx o hd=>?_;obtain⟨g1,g2,g3⟩:=ju hd m b j;refine ck hx rfl (hl x) ?_;refine bW [1000,1001] (hf x o s g1) rfl rfl rfl rfl (fun v ⟨e,h⟩=>⟨e,by show(_&&_)=false;rw[g2 h,aaS]⟩) ?_;rintro v Mo ⟨r,rfl,rfl⟩ _ _;refine⟨rfl,?_⟩;refine Fit.ZA (by omega) (by rw[aax] at n;omega) ?_;exact⟨(i+1,s++(enc x).1),⟨by omega,p++(enc x).1,by rw[m,aan],g3 r⟩,⟨bL,trivial⟩,⟨.inl ⟨_,rfl,.inl ⟨rfl,rfl⟩⟩,.inl ⟨_,rfl,.inl ⟨rfl,rfl⟩⟩,trivial⟩,bM a⟩
 ·have c:¬i<l.length:=by
   have h:¬(i:Int)<((l.map cs).length:Int):=c;rw[d] at h;omega
  obtain⟨r,e2⟩:=lV (gH c) m b;exact dz [1000,1001] rfl rfl rfl rfl ⟨by show(_&&_)=true;rw[e0,r];rfl,j3 (WB k.tb) (by rw[e2,<-z];show _=bs++(_++_);rw[aan]),rfl⟩
theorem VP {k:Kd}(hk:s5 k) {w:Type}{f:Nat}{enc:w->Enc}{cs:w->List C}(l:List w) (hl:∀x,T.dD (cs x) 1=true) (hf:∀x∈l,fH k f (.ifo none k.t 1000 0::.pt (cs x) 0::[]) (enc x)) :
  fH k 81 [.ifo none k.t 1000 0,.pt [.sl (l.map cs)] 0,.fn f [] []] (bQ k enc l):=by
 intro bs hb;obtain⟨fs,u,q⟩:=hk.siz;have hE:bQ k enc l=bn (k.siz (l.map cs).length) (aS enc l):=by unfold bQ;rw[aax]
 rw[hE] at hb ⊢;have y:bs.length+(k.siz (l.map cs).length).1.length<=70368744177664:=by
  simp only[bn,aak] at hb;omega
 refine aq Tryz.func81 E5 rfl fun hw ho=>?_;have n:(l.map cs).length<=9223372036854775807:=by have h:=hw.2.1.1.1;simp only[maxLen] at h;exact h
 refine⟨hk.mks,?_⟩;refine⟨fs,u,?_⟩;refine cu [1000,1001] (q (l.map cs).length bs y) rfl rfl rfl rfl (fun v ⟨e,h⟩=>⟨e,by show(_&&_)=false;rw[h];rfl⟩) ?_;rintro v Mo ⟨e0,rfl,rfl⟩ _ _;refine⟨rfl,?_⟩;refine ah (fun h=>?_) (fun _=>?_)
 ·simp at h
 have j:(bs++(k.siz (l.map cs).length).1).length+(aS enc l).1.length<=70368744177664:=by
  simp only[bn,aak] at hb ⊢;omega
 generalize z:bs++(k.siz (l.map cs).length).1=b1 at j;have d:((l.map cs).length:Int)=l.length:=by simp
 refine bF l.length 31 [] b1 (fun _=>[]) (fun s=>Eb k.tb s) (fun i s=>∃p,s=b1++p/\aS enc l=bn (p,true) (aS enc (l.drop i))) ⟨[],by simp,by simp[bn]⟩ (ak rfl) trivial
  ⟨.inl ⟨_,rfl,.inl ⟨rfl,rfl⟩⟩,.inl ⟨_,rfl,.inl ⟨rfl,rfl⟩⟩,trivial⟩ (fun _=>rfl) (fun _=>rfl) ?_
 rintro i s hi ⟨p,m,b⟩ _ _ _;refine aN (fun a=>?_) (fun c=>?_)
 ·have a:i<l.length:=by
   have h:(i:Int)<((l.map cs).length:Int):=a;rw[d] at h;omega
  refine fj a fun x hx o hd=>?_;obtain⟨g1,g2,g3⟩:=ju hd m b j;refine ck hx rfl (hl x) ?_;refine bW [1000,1001] (hf x o s g1) rfl rfl rfl rfl (fun v ⟨e,h⟩=>⟨e,by show(_&&_)=false;rw[g2 h,aaS]⟩) ?_;rintro v Mo ⟨r,rfl,rfl⟩ _ _;refine⟨rfl,?_⟩;refine Fit.ZA (by omega) (by rw[aax] at n;omega) ?_;exact⟨(i+1,s++(enc x).1),⟨by omega,p++(enc x).1,by rw[m,aan],g3 r⟩,⟨bL,trivial⟩,⟨.inl ⟨_,rfl,.inl ⟨rfl,rfl⟩⟩,.inl ⟨_,rfl,.inl ⟨rfl,rfl⟩⟩,trivial⟩,bM a⟩
 ·have c:¬i<l.length:=by
   have h:¬(i:Int)<((l.map cs).length:Int):=c;rw[d] at h;omega
  obtain⟨r,e2⟩:=lV (gH c) m b;exact dz [1000,1001] rfl rfl rfl rfl ⟨by show(_&&_)=true;rw[e0,r];rfl,j3 (WB k.tb) (by rw[e2,<-z];show _=bs++(_++_);rw[aan]),rfl⟩
theorem VQ {k:Kd}(hk:s5 k) {w:Type}{f:Nat}{enc:w->Enc}{cs:w->List C}(l:List w) (hl:∀x,T.dD (cs x) 2=true) (hf:∀x∈l,fH k f (.ifo none k.t 1000 0::.pt (cs x) 0::[]) (enc x)) :
  fH k 83 [.ifo none k.t 1000 0,.pt [.sl (l.map cs)] 0,.fn f [] []] (bQ k enc l):=by
 intro bs hb;obtain⟨fs,u,q⟩:=hk.siz;have hE:bQ k enc l=bn (k.siz (l.map cs).length) (aS enc l):=by unfold bQ;rw[aax]
 rw[hE] at hb ⊢;have y:bs.length+(k.siz (l.map cs).length).1.length<=70368744177664:=by
  simp only[bn,aak] at hb;omega
 refine aq Tryz.func83 E7 rfl fun hw ho=>?_;have n:(l.map cs).length<=9223372036854775807:=by have h:=hw.2.1.1.1;simp only[maxLen] at h;exact h
 refine⟨hk.mks,?_⟩;refine⟨fs,u,?_⟩;refine cu [1000,1001] (q (l.map cs).length bs y) rfl rfl rfl rfl (fun v ⟨e,h⟩=>⟨e,by show(_&&_)=false;rw[h];rfl⟩) ?_;rintro v Mo ⟨e0,rfl,rfl⟩ _ _;refine⟨rfl,?_⟩;refine ah (fun h=>?_) (fun _=>?_)
 ·simp at h
 have j:(bs++(k.siz (l.map cs).length).1).length+(aS enc l).1.length<=70368744177664:=by
  simp only[bn,aak] at hb ⊢;omega
 generalize z:bs++(k.siz (l.map cs).length).1=b1 at j;have d:((l.map cs).length:Int)=l.length:=by simp
 refine bF l.length 31 [] b1 (fun _=>[]) (fun s=>Eb k.tb s) (fun i s=>∃p,s=b1++p/\aS enc l=bn (p,true) (aS enc (l.drop i))) ⟨[],by simp,by simp[bn]⟩ (ak rfl) trivial
  ⟨.inl ⟨_,rfl,.inl ⟨rfl,rfl⟩⟩,.inl ⟨_,rfl,.inl ⟨rfl,rfl⟩⟩,trivial⟩ (fun _=>rfl) (fun _=>rfl) ?_
 rintro i s hi ⟨p,m,b⟩ _ _ _;refine aN (fun a=>?_) (fun c=>?_)
 ·have a:i<l.length:=by
   have h:(i:Int)<((l.map cs).length:Int):=a;rw[d] at h;omega
  refine fj a fun x hx o hd=>?_;obtain⟨g1,g2,g3⟩:=ju hd m b j;refine ck hx rfl (hl x) ?_;refine bW [1000,1001] (hf x o s g1) rfl rfl rfl rfl (fun v ⟨e,h⟩=>⟨e,by show(_&&_)=false;rw[g2 h,aaS]⟩) ?_;rintro v Mo ⟨r,rfl,rfl⟩ _ _;refine⟨rfl,?_⟩;refine Fit.ZA (by omega) (by rw[aax] at n;omega) ?_;exact⟨(i+1,s++(enc x).1),⟨by omega,p++(enc x).1,by rw[m,aan],g3 r⟩,⟨bL,trivial⟩,⟨.inl ⟨_,rfl,.inl ⟨rfl,rfl⟩⟩,.inl ⟨_,rfl,.inl ⟨rfl,rfl⟩⟩,trivial⟩,bM a⟩
 ·have c:¬i<l.length:=by
   have h:¬(i:Int)<((l.map cs).length:Int):=c;rw[d] at h;omega
  obtain⟨r,e2⟩:=lV (gH c) m b;exact dz [1000,1001] rfl rfl rfl rfl ⟨by show(_&&_)=true;rw[e0,r];rfl,j3 (WB k.tb) (by rw[e2,<-z];show _=bs++(_++_);rw[aan]),rfl⟩
theorem R5 {k:Kd}(hk:s5 k) {w:Type}{f:Nat}{enc:w->Enc}{cs:w->List C}(l:List w) (hl:∀x,T.dD (cs x) 7=true) (hf:∀x∈l,fH k f (.ifo none k.t 1000 0::.pt (cs x) 0::[]) (enc x)) :
  fH k 105 [.ifo none k.t 1000 0,.pt [.sl (l.map cs)] 0,.fn f [] []] (bQ k enc l):=by
 intro bs hb;obtain⟨fs,u,q⟩:=hk.siz;have hE:bQ k enc l=bn (k.siz (l.map cs).length) (aS enc l):=by unfold bQ;rw[aax]
 rw[hE] at hb ⊢;have y:bs.length+(k.siz (l.map cs).length).1.length<=70368744177664:=by
  simp only[bn,aak] at hb;omega
 refine aq Tryz.func105 CH rfl fun hw ho=>?_;have n:(l.map cs).length<=9223372036854775807:=by have h:=hw.2.1.1.1;simp only[maxLen] at h;exact h
 refine⟨hk.mks,?_⟩;refine⟨fs,u,?_⟩;refine cu [1000,1001] (q (l.map cs).length bs y) rfl rfl rfl rfl (fun v ⟨e,h⟩=>⟨e,by show(_&&_)=false;rw[h];rfl⟩) ?_;rintro v Mo ⟨e0,rfl,rfl⟩ _ _;refine⟨rfl,?_⟩;refine ah (fun h=>?_) (fun _=>?_)
 ·simp at h
 have j:(bs++(k.siz (l.map cs).length).1).length+(aS enc l).1.length<=70368744177664:=by
  simp only[bn,aak] at hb ⊢;omega
 generalize z:bs++(k.siz (l.map cs).length).1=b1 at j;have d:((l.map cs).length:Int)=l.length:=by simp
 refine bF l.length 31 [] b1 (fun _=>[]) (fun s=>Eb k.tb s) (fun i s=>∃p,s=b1++p/\aS enc l=bn (p,true) (aS enc (l.drop i))) ⟨[],by simp,by simp[bn]⟩ (ak rfl) trivial
  ⟨.inl ⟨_,rfl,.inl ⟨rfl,rfl⟩⟩,.inl ⟨_,rfl,.inl ⟨rfl,rfl⟩⟩,trivial⟩ (fun _=>rfl) (fun _=>rfl) ?_
 rintro i s hi ⟨p,m,b⟩ _ _ _;refine aN (fun a=>?_) (fun c=>?_)
 ·have a:i<l.length:=by
   have h:(i:Int)<((l.map cs).length:Int):=a;rw[d] at h;omega
  refine fj a fun x hx o hd=>?_;obtain⟨g1,g2,g3⟩:=ju hd m b j;refine ck hx rfl (hl x) ?_;refine bW [1000,1001] (hf x o s g1) rfl rfl rfl rfl (fun v ⟨e,h⟩=>⟨e,by show(_&&_)=false;rw[g2 h,aaS]⟩) ?_;rintro v Mo ⟨r,rfl,rfl⟩ _ _;refine⟨rfl,?_⟩;refine Fit.ZA (by omega) (by rw[aax] at n;omega) ?_;exact⟨(i+1,s++(enc x).1),⟨by omega,p++(enc x).1,by rw[m,aan],g3 r⟩,⟨bL,trivial⟩,⟨.inl ⟨_,rfl,.inl ⟨rfl,rfl⟩⟩,.inl ⟨_,rfl,.inl ⟨rfl,rfl⟩⟩,trivial⟩,bM a⟩
 ·have c:¬i<l.length:=by
   have h:¬(i:Int)<((l.map cs).length:Int):=c;rw[d] at h;omega
  obtain⟨r,e2⟩:=lV (gH c) m b;exact dz [1000,1001] rfl rfl rfl rfl ⟨by show(_&&_)=true;rw[e0,r];rfl,j3 (WB k.tb) (by rw[e2,<-z];show _=bs++(_++_);rw[aan]),rfl⟩
theorem R6 {k:Kd}(hk:s5 k) {w:Type}{f:Nat}{enc:w->Enc}{cs:w->List C}(l:List w) (hl:∀x,T.dD (cs x) 5=true) (hf:∀x∈l,fH k f (.ifo none k.t 1000 0::.pt (cs x) 0::[]) (enc x)) :
  fH k 107 [.ifo none k.t 1000 0,.pt [.sl (l.map cs)] 0,.fn f [] []] (bQ k enc l):=by
 intro bs hb;obtain⟨fs,u,q⟩:=hk.siz;have hE:bQ k enc l=bn (k.siz (l.map cs).length) (aS enc l):=by unfold bQ;rw[aax]
 rw[hE] at hb ⊢;have y:bs.length+(k.siz (l.map cs).length).1.length<=70368744177664:=by
  simp only[bn,aak] at hb;omega
 refine aq Tryz.func107 CJ rfl fun hw ho=>?_;have n:(l.map cs).length<=9223372036854775807:=by have h:=hw.2.1.1.1;simp only[maxLen] at h;exact h
 refine⟨hk.mks,?_⟩;refine⟨fs,u,?_⟩;refine cu [1000,1001] (q (l.map cs).length bs y) rfl rfl rfl rfl (fun v ⟨e,h⟩=>⟨e,by show(_&&_)=false;rw[h];rfl⟩) ?_;rintro v Mo ⟨e0,rfl,rfl⟩ _ _;refine⟨rfl,?_⟩;refine ah (fun h=>?_) (fun _=>?_)
 ·simp at h
 have j:(bs++(k.siz (l.map cs).length).1).length+(aS enc l).1.length<=70368744177664:=by
  simp only[bn,aak] at hb ⊢;omega
 generalize z:bs++(k.siz (l.map cs).length).1=b1 at j;have d:((l.map cs).length:Int)=l.length:=by simp
 refine bF l.length 31 [] b1 (fun _=>[]) (fun s=>Eb k.tb s) (fun i s=>∃p,s=b1++p/\aS enc l=bn (p,true) (aS enc (l.drop i))) ⟨[],by simp,by simp[bn]⟩ (ak rfl) trivial
  ⟨.inl ⟨_,rfl,.inl ⟨rfl,rfl⟩⟩,.inl ⟨_,rfl,.inl ⟨rfl,rfl⟩⟩,trivial⟩ (fun _=>rfl) (fun _=>rfl) ?_
 rintro i s hi ⟨p,m,b⟩ _ _ _;refine aN (fun a=>?_) (fun c=>?_)
 ·have a:i<l.length:=by
   have h:(i:Int)<((l.map cs).length:Int):=a;rw[d] at h;omega
  refine fj a fun x hx o hd=>?_;obtain⟨g1,g2,g3⟩:=ju hd m b j;refine ck hx rfl (hl x) ?_;refine bW [1000,1001] (hf x o s g1) rfl rfl rfl rfl (fun v ⟨e,h⟩=>⟨e,by show(_&&_)=false;rw[g2 h,aaS]⟩) ?_;rintro v Mo ⟨r,rfl,rfl⟩ _ _;refine⟨rfl,?_⟩;refine Fit.ZA (by omega) (by rw[aax] at n;omega) ?_;exact⟨(i+1,s++(enc x).1),⟨by omega,p++(enc x).1,by rw[m,aan],g3 r⟩,⟨bL,trivial⟩,⟨.inl ⟨_,rfl,.inl ⟨rfl,rfl⟩⟩,.inl ⟨_,rfl,.inl ⟨rfl,rfl⟩⟩,trivial⟩,bM a⟩
 ·have c:¬i<l.length:=by
   have h:¬(i:Int)<((l.map cs).length:Int):=c;rw[d] at h;omega
  obtain⟨r,e2⟩:=lV (gH c) m b;exact dz [1000,1001] rfl rfl rfl rfl ⟨by show(_&&_)=true;rw[e0,r];rfl,j3 (WB k.tb) (by rw[e2,<-z];show _=bs++(_++_);rw[aan]),rfl⟩
theorem R7 {k:Kd}(hk:s5 k) {w:Type}{f:Nat}{enc:w->Enc}{cs:w->List C}(l:List w) (hl:∀x,T.dD (cs x) 8=true) (hf:∀x∈l,fH k f (.ifo none k.t 1000 0::.pt (cs x) 0::[]) (enc x)) :
  fH k 111 [.ifo none k.t 1000 0,.pt [.sl (l.map cs)] 0,.fn f [] []] (bQ k enc l):=by
 intro bs hb;obtain⟨fs,u,q⟩:=hk.siz;have hE:bQ k enc l=bn (k.siz (l.map cs).length) (aS enc l):=by unfold bQ;rw[aax]
 rw[hE] at hb ⊢;have y:bs.length+(k.siz (l.map cs).length).1.length<=70368744177664:=by
  simp only[bn,aak] at hb;omega
 refine aq Tryz.func111 uc rfl fun hw ho=>?_;have n:(l.map cs).length<=9223372036854775807:=by have h:=hw.2.1.1.1;simp only[maxLen] at h;exact h
 refine⟨hk.mks,?_⟩;refine⟨fs,u,?_⟩;refine cu [1000,1001] (q (l.map cs).length bs y) rfl rfl rfl rfl (fun v ⟨e,h⟩=>⟨e,by show(_&&_)=false;rw[h];rfl⟩) ?_;rintro v Mo ⟨e0,rfl,rfl⟩ _ _;refine⟨rfl,?_⟩;refine ah (fun h=>?_) (fun _=>?_)
 ·simp at h
 have j:(bs++(k.siz (l.map cs).length).1).length+(aS enc l).1.length<=70368744177664:=by
  simp only[bn,aak] at hb ⊢;omega
 generalize z:bs++(k.siz (l.map cs).length).1=b1 at j;have d:((l.map cs).length:Int)=l.length:=by simp
 refine bF l.length 31 [] b1 (fun _=>[]) (fun s=>Eb k.tb s) (fun i s=>∃p,s=b1++p/\aS enc l=bn (p,true) (aS enc (l.drop i))) ⟨[],by simp,by simp[bn]⟩ (ak rfl) trivial
  ⟨.inl ⟨_,rfl,.inl ⟨rfl,rfl⟩⟩,.inl ⟨_,rfl,.inl ⟨rfl,rfl⟩⟩,trivial⟩ (fun _=>rfl) (fun _=>rfl) ?_
 rintro i s hi ⟨p,m,b⟩ _ _ _;refine aN (fun a=>?_) (fun c=>?_)
 ·have a:i<l.length:=by
   have h:(i:Int)<((l.map cs).length:Int):=a;rw[d] at h;omega
  refine fj a fun x hx o hd=>?_;obtain⟨g1,g2,g3⟩:=ju hd m b j;refine ck hx rfl (hl x) ?_;refine bW [1000,1001] (hf x o s g1) rfl rfl rfl rfl (fun v ⟨e,h⟩=>⟨e,by show(_&&_)=false;rw[g2 h,aaS]⟩) ?_;rintro v Mo ⟨r,rfl,rfl⟩ _ _;refine⟨rfl,?_⟩;refine Fit.ZA (by omega) (by rw[aax] at n;omega) ?_;exact⟨(i+1,s++(enc x).1),⟨by omega,p++(enc x).1,by rw[m,aan],g3 r⟩,⟨bL,trivial⟩,⟨.inl ⟨_,rfl,.inl ⟨rfl,rfl⟩⟩,.inl ⟨_,rfl,.inl ⟨rfl,rfl⟩⟩,trivial⟩,bM a⟩
 ·have c:¬i<l.length:=by
   have h:¬(i:Int)<((l.map cs).length:Int):=c;rw[d] at h;omega
  obtain⟨r,e2⟩:=lV (gH c) m b;exact dz [1000,1001] rfl rfl rfl rfl ⟨by show(_&&_)=true;rw[e0,r];rfl,j3 (WB k.tb) (by rw[e2,<-z];show _=bs++(_++_);rw[aan]),rfl⟩
theorem J7 {k:Kd}(hk:s5 k) {y:Type}{f:Nat}{d:Int}{enc:y->Enc}{cs:y->List C}(l:List y) (hl:∀x,T.dD (cs x) 8=true) (hf:∀x∈l,fH k f (.ifo none k.t 1000 0::.pt (cs x) 0::[.pt [IC d] 0]) (enc x)) :
  fH k 111 [.ifo none k.t 1000 0,.pt [.sl (l.map cs)] 0,.fn f [] [.pt [IC d] 0]] (bQ k enc l):=by
 intro bs hb;obtain⟨fs,w,r⟩:=hk.siz;have hE:bQ k enc l=bn (k.siz (l.map cs).length) (aS enc l):=by unfold bQ;rw[aax]
 rw[hE] at hb ⊢;have z:bs.length+(k.siz (l.map cs).length).1.length<=70368744177664:=by
  simp only[bn,aak] at hb;omega
 refine aq Tryz.func111 uc rfl fun hw ho=>?_;have o:(l.map cs).length<=9223372036854775807:=by have h:=hw.2.1.1.1;simp only[maxLen] at h;exact h
 refine⟨hk.mks,?_⟩;refine⟨fs,w,?_⟩;refine cu [1000,1001] (r (l.map cs).length bs z) rfl rfl rfl rfl (fun v ⟨e,h⟩=>⟨e,by show(_&&_)=false;rw[h];rfl⟩) ?_;rintro v Mo ⟨e0,rfl,rfl⟩ _ _;refine⟨rfl,?_⟩;refine ah (fun h=>?_) (fun _=>?_)
 ·simp at h
 have m:(bs++(k.siz (l.map cs).length).1).length+(aS enc l).1.length<=70368744177664:=by
  simp only[bn,aak] at hb ⊢;omega
 generalize aa:bs++(k.siz (l.map cs).length).1=b1 at m;have j:((l.map cs).length:Int)=l.length:=by simp
 refine bF l.length 31 [] b1 (fun _=>[]) (fun s=>Eb k.tb s) (fun i s=>∃p,s=b1++p/\aS enc l=bn (p,true) (aS enc (l.drop i))) ⟨[],by simp,by simp[bn]⟩ (ak rfl) trivial
  ⟨.inl ⟨_,rfl,.inl ⟨rfl,rfl⟩⟩,.inl ⟨_,rfl,.inl ⟨rfl,rfl⟩⟩,trivial⟩ (fun _=>rfl) (fun _=>rfl) ?_
 rintro i s hi ⟨p,n,b⟩ _ _ _;refine aN (fun a=>?_) (fun c=>?_)
 ·have a:i<l.length:=by
   have h:(i:Int)<((l.map cs).length:Int):=a;rw[j] at h;omega
  refine fj a fun x hx q hd=>?_;obtain⟨g1,g2,g3⟩:=ju hd n b m;refine ck hx rfl (hl x) ?_;refine bW [1000,1001] (hf x q s g1) rfl rfl rfl rfl (fun v ⟨e,h⟩=>⟨e,by show(_&&_)=false;rw[g2 h,aaS]⟩) ?_;rintro v Mo ⟨u,rfl,rfl⟩ _ _;refine⟨rfl,?_⟩;refine Fit.ZA (by omega) (by rw[aax] at o;omega) ?_;exact⟨(i+1,s++(enc x).1),⟨by omega,p++(enc x).1,by rw[n,aan],g3 u⟩,⟨bL,trivial⟩,⟨.inl ⟨_,rfl,.inl ⟨rfl,rfl⟩⟩,.inl ⟨_,rfl,.inl ⟨rfl,rfl⟩⟩,trivial⟩,bM a⟩
 ·have c:¬i<l.length:=by
   have h:¬(i:Int)<((l.map cs).length:Int):=c;rw[j] at h;omega
  obtain⟨u,e2⟩:=lV (gH c) n b;exact dz [1000,1001] rfl rfl rfl rfl ⟨by show(_&&_)=true;rw[e0,u];rfl,j3 (WB k.tb) (by rw[e2,<-aa];show _=bs++(_++_);rw[aan]),rfl⟩
theorem d9 {a b:Enc}(h:a.2=false):(bn a b).2=false:=by show(_&&_)=false;rw[h];rfl
theorem aT {a b:Enc}(h:b.2=false):(bn a b).2=false:=by show(_&&_)=false;rw[h,aaS]
theorem fI {a b:Enc}(h:a.2=true) (c:b.2=true):(bn a b).2=true:=by show(_&&_)=true;rw[h,c];rfl
theorem eJ {bs:List UInt8}{a b:Enc}{B:Nat}(h:bs.length+(bn a b).1.length<=B):bs.length+a.1.length<=B:=by
 simp only[bn,aak] at h;omega
theorem dU {bs:List UInt8}{a b:Enc}{B:Nat}(h:bs.length+(bn a b).1.length<=B):(bs++a.1).length+b.1.length<=B:=by
 simp only[bn,aak] at h ⊢;omega
theorem R8 (bs a b:List UInt8):(bs++a)++b=bs++(a++b):=by simp
theorem R9 (bs a b c:List UInt8):((bs++a)++b)++c=bs++(a++(b++c)):=by simp
theorem Qf (bs a b c d e:List UInt8):((((bs++a)++b)++c)++d)++e=bs++(a++(b++(c++(d++e)))):=by simp
theorem VR (bs a b c d e f:List UInt8):(((((bs++a)++b)++c)++d)++e)++f=bs++(a++(b++(c++(d++(e++f))))):=by simp
section
variable {L:TL}{ρ:aX}{k:Kd}
theorem wu {PS:qd}{f:Nat}{args a:List C}{bs:List UInt8}{e:Enc}{K:TL->aX->C->Prop}(h:fH k f a e) (hb:bs.length+e.1.length<=70368744177664)
  (j:L.sub [1000,1001]=some (WB k.tb bs)) (m:(args.map fun c=>c.ZG.ren (cD [1000,1001] 1000))=a) (n:e.2=false->PS.ps fL)
  (b:e.2=true->K (((L.ZB [1000,1001]).kills (rowsOf L [1000,1001])).puts [1000,1001] (WB k.tb (bs++e.1))) (fF (rowsOf L [1000,1001]) ρ) (.tup [])) (o:lT L [1000,1001] PS.hb=true:=by rfl):pq PZ PS f args L ρ K :=
 bW [1000,1001] (h bs hb) j rfl m rfl (fun v ⟨e,h⟩=>e▸n h) (fun v Mo ⟨l,d,p⟩ _ _=>by subst d p;exact⟨rfl,b l⟩) o
theorem y7 {PS:qd}{d:List Nat}{f:Nat}{args a:List C}{bs:List UInt8}{e:Enc}{K:TL->aX->C->Prop}(h:fH k f a e) (hb:bs.length+e.1.length<=70368744177664)
  (m:L.sub [1000,1001]=some (WB k.tb bs)) (b:w7 [1000,1001] d=true) (o:(args.map fun c=>c.ZG.ren (cD [1000,1001] 1000))=a) (p:e.2=false->PS.ps fL)
  (j:e.2=true->K (((L.ZB [1000,1001]).kills (rowsOf L [1000,1001])).puts [1000,1001] (WB k.tb (bs++e.1))) (fF (rowsOf L [1000,1001]) ρ) (.tup [])) (q:lT L [1000,1001] PS.hb=true:=by rfl):nH PZ PS d f args L ρ K :=
 cu [1000,1001] (h bs hb) m (by simp only[aaj];exact⟨⟨rfl,b⟩,rfl⟩) o rfl (fun v ⟨e,h⟩=>e▸p h) (fun v Mo ⟨n,l,r⟩ _ _=>by subst l r;exact⟨rfl,j n⟩) q
end
section
variable {k:Kd}(hk:s5 k)
include hk
theorem Sb (n:Int):fH k 110 [.ifo none k.t 1000 0,.pt [IC n] 0] (k.num n):=by
 intro bs hb;obtain⟨fn,a,b,_⟩:=hk.num;refine aq Tryz.func110 CN rfl fun d c=>?_;refine⟨fn,a,?_⟩;refine wu (b n) hb rfl rfl (fun h=>⟨rfl,h⟩) fun h=>?_;exact dz [1000,1001] rfl rfl rfl rfl ⟨h,rfl,rfl⟩
theorem VS (b:Bool):fH k 78 [.ifo none k.t 1000 0,.pt (Fe b) 0] (Rw k b):=by
 intro bs hb;have a:=(C3 hk [b]).pts (es:=Fe b) (os:=[0]) ⟨rfl,trivial⟩;refine aq Tryz.func78 EZ rfl fun d c=>?_;refine wu a hb rfl rfl (fun h=>⟨rfl,h⟩) fun h=>?_;exact dz [1000,1001] rfl rfl rfl rfl ⟨h,rfl,rfl⟩
theorem oL (p:List Int):fH k 109 [.ifo none k.t 1000 0,.pt [.sl (rK p)] 0,.fn 110 [] []] (bQ k k.num p):=R4 hk p (cs:=fun n=>[IC n]) (fun _=>rfl) fun x _=>Sb hk x
end
theorem N7:∀(m:Nat) (v:Vl),Ea v<=m->∀d:Int,-4611686018427387904+(m:Int)<=d->d<=4611686018427387904->fH kW 146 [.ifo none kW.t 1000 0,.pt (pT v) 0,.pt [IC d] 0] (rZ kW v d)
 | 0,.mk a b c n f e p l,w,d,h1,h2=>by rw[Ea] at w;omega
 | m+1,.mk a b c n f e p l,w,d,h1,h2=>by
  intro bs hb;have ih:∀x∈f,fH kW 146 [.ifo none kW.t 1000 0,.pt (pT x) 0,.pt [IC (d-1)] 0] (rZ kW x (d-1)):=fun x hx=>N7 m x (by
   have:=x7 hx;rw[Ea] at w;omega) (d-1) (by omega) (by omega)
  have hE:rZ kW (.mk a b c n f e p l) d=bn (Bj (decide (0<d)||kW.deep)) (bn (aS kW.num [a,b,c,n]) (bn (bQ kW (fun x=>rZ kW x (d-1)) f) (bn (aS (oH kW) [e]) (bn (bQ kW kW.num p) (bQ kW kW.num l))))):=by
   rw[rZ,oI];rfl
  rw[hE] at hb ⊢;have j:=dU hb;have j:bs.length+(bn (aS kW.num [a,b,c,n]) (bn (bQ kW (fun x=>rZ kW x (d-1)) f) (bn (aS (oH kW) [e]) (bn (bQ kW kW.num p) (bQ kW kW.num l))))).1.length<=70368744177664:=by simpa[Bj] using j
  have w1:=(Bq z5 [a,b,c,n]).pts (es:=pT (.mk a b c n f e p l)) (os:=[0,1,2,3]) ⟨rfl,rfl,rfl,rfl,trivial⟩;have w2:=(J7 z5 f (cs:=pT) (fun x=>by cases x;rfl) ih).at (es:=pT (.mk a b c n f e p l)) (off:=4) (j3 (fun q=>[C.sl q]) (qO f));have w3:=(C3 z5 [e]).pts (es:=pT (.mk a b c n f e p l)) (os:=[5]) ⟨rfl,trivial⟩;have w4:=(oL z5 p).at (es:=pT (.mk a b c n f e p l)) (off:=6) rfl;have w5:=(oL z5 l).at (es:=pT (.mk a b c n f e p l)) (off:=7) rfl;refine aq Tryz.func146 ud rfl fun hw ho=>?_;refine aN (fun y=>?_) (fun y=>?_)
  ·have u:(Bj (decide (0<d)||kW.deep)).2=true:=by show(decide (0<d)||false)=true;simp;exact y
   refine u4 (uo true) rfl (fun h=>by cases h) fun _=>?_;refine y7 w1 (eJ j) rfl rfl rfl (fun h=>⟨rfl,aT (d9 h)⟩) fun o1=>?_;have s:=dU j;refine Fit.ZA (by omega) (by omega) ?_;refine dW (J4 (d-1)) rfl fun _=>?_;refine y7 w2 (eJ s) rfl rfl rfl (fun h=>⟨rfl,aT (aT (d9 h))⟩) fun z=>?_;have r:=dU s;refine wu w3 (eJ r) rfl rfl (fun h=>⟨rfl,aT (aT (aT (d9 h)))⟩) fun o3=>?_;have o:=dU r;refine wu w4 (eJ o) rfl rfl (fun h=>⟨rfl,aT (aT (aT (aT (d9 h))))⟩) fun o4=>?_;refine wu w5 (dU o) rfl rfl (fun h=>⟨rfl,aT (aT (aT (aT (aT h))))⟩) fun o5=>?_;exact dz [1000,1001] rfl rfl rfl rfl ⟨fI u (fI o1 (fI z (fI o3 (fI o4 o5)))),j3 (WB kW.tb) (Qf _ _ _ _ _ _),rfl⟩
  ·refine u4 (uo false) rfl (fun _=>⟨rfl,d9 (by show(decide (0<d)||false)=false;simp;omega)⟩) fun h=>by cases h
theorem N8:∀(m:Nat) (v:Vl),Ea v<=m->∀d:Int,-4611686018427387904+(m:Int)<=d->d<=4611686018427387904->fH kL 146 [.ifo none kL.t 1000 0,.pt (pT v) 0,.pt [IC d] 0] (rZ kL v d)
 | 0,.mk a b c n f e p l,w,d,h1,h2=>by rw[Ea] at w;omega
 | m+1,.mk a b c n f e p l,w,d,h1,h2=>by
  intro bs hb;have ih:∀x∈f,fH kL 146 [.ifo none kL.t 1000 0,.pt (pT x) 0,.pt [IC (d-1)] 0] (rZ kL x (d-1)):=fun x hx=>N8 m x (by
   have:=x7 hx;rw[Ea] at w;omega) (d-1) (by omega) (by omega)
  have hE:rZ kL (.mk a b c n f e p l) d=bn (Bj (decide (0<d)||kL.deep)) (bn (aS kL.num [a,b,c,n]) (bn (bQ kL (fun x=>rZ kL x (d-1)) f) (bn (aS (oH kL) [e]) (bn (bQ kL kL.num p) (bQ kL kL.num l))))):=by
   rw[rZ,oI];rfl
  rw[hE] at hb ⊢;have j:=dU hb;have j:bs.length+(bn (aS kL.num [a,b,c,n]) (bn (bQ kL (fun x=>rZ kL x (d-1)) f) (bn (aS (oH kL) [e]) (bn (bQ kL kL.num p) (bQ kL kL.num l))))).1.length<=70368744177664:=by simpa[Bj] using j
  have w1:=(Bq z6 [a,b,c,n]).pts (es:=pT (.mk a b c n f e p l)) (os:=[0,1,2,3]) ⟨rfl,rfl,rfl,rfl,trivial⟩;have z:=(J7 z6 f (cs:=pT) (fun x=>by cases x;rfl) ih).at (es:=pT (.mk a b c n f e p l)) (off:=4) (j3 (fun q=>[C.sl q]) (qO f));have w3:=(C3 z6 [e]).pts (es:=pT (.mk a b c n f e p l)) (os:=[5]) ⟨rfl,trivial⟩;have w4:=(oL z6 p).at (es:=pT (.mk a b c n f e p l)) (off:=6) rfl;have w5:=(oL z6 l).at (es:=pT (.mk a b c n f e p l)) (off:=7) rfl;refine aq Tryz.func146 ud rfl fun hw ho=>?_;have u:(Bj (decide (0<d)||kL.deep)).2=true:=by show(decide (0<d)||true)=true;simp
  refine aN (fun h0=>?_) (fun h0=>?_)
  all_goals
   refine u4 (uo true) rfl (fun h=>by cases h) fun _=>?_;refine y7 w1 (eJ j) rfl rfl rfl (fun h=>⟨rfl,aT (d9 h)⟩) fun o1=>?_;have s:=dU j;refine Fit.ZA (by omega) (by omega) ?_;refine dW (J4 (d-1)) rfl fun _=>?_;refine y7 z (eJ s) rfl rfl rfl (fun h=>⟨rfl,aT (aT (d9 h))⟩) fun y=>?_;have r:=dU s;refine wu w3 (eJ r) rfl rfl (fun h=>⟨rfl,aT (aT (aT (d9 h)))⟩) fun o3=>?_;have o:=dU r;refine wu w4 (eJ o) rfl rfl (fun h=>⟨rfl,aT (aT (aT (aT (d9 h))))⟩) fun o4=>?_;refine wu w5 (dU o) rfl rfl (fun h=>⟨rfl,aT (aT (aT (aT (aT h))))⟩) fun o5=>?_;exact dz [1000,1001] rfl rfl rfl rfl ⟨fI u (fI o1 (fI y (fI o3 (fI o4 o5)))),j3 (WB kL.tb) (Qf _ _ _ _ _ _),rfl⟩
structure VT (k:Kd):Prop where
 toKdOk:s5 k
 val:∀v:Vl,Ea v<=4611686018427387904->fH k 146 [.ifo none k.t 1000 0,.pt (pT v) 0,.pt [IC 60] 0] (vD k v)
theorem VU:VT kW:={toKdOk:=z5,val:=fun v h=>N7 _ v h 60 (by omega) (by omega)}
theorem VW:VT kL:={toKdOk:=z6,val:=fun v h=>N8 _ v h 60 (by omega) (by omega)}
def vsB (l:List Vl):Prop:=∀v∈l,Ea v<=4611686018427387904
def SW (x:Ce):Prop:=Ea x.value<=4611686018427387904
def VX (x:Ac):Prop:=vsB x.slots
def VY (x:Tk):Prop:=∀f∈x.frames,VX f
def Fw (x:Wd):Prop:=(∀c∈x.cells,SW c)/\(∀t∈x.tasks,VY t)/\∀l∈x.channels,vsB l
section
variable {k:Kd}(hk:VT k)
include hk
theorem N9 (v:Vl) (a:Ea v<=4611686018427387904):fH k 104 [.ifo none k.t 1000 0,.pt (pT v) 0] (vD k v):=by
 intro bs hb;refine aq Tryz.func104 CG rfl fun c b=>?_;refine bA (J4 60) rfl fun _=>?_;refine wu (hk.val v a) hb rfl rfl (fun h=>⟨rfl,h⟩) fun h=>?_;exact dz [1000,1001] rfl rfl rfl rfl ⟨h,rfl,rfl⟩
theorem Sc (l:List Vl) (b:vsB l):fH k 82 [.ifo none k.t 1000 0,.pt (M0 l) 0] (P1 k l):=by
 intro bs hb;refine aq Tryz.func82 E6 rfl fun d c=>?_;refine wu (R7 hk.toKdOk l (cs:=pT) (fun x=>by cases x;rfl) fun x a=>N9 hk x (b x a)) hb rfl rfl (fun h=>⟨rfl,h⟩) fun h=>?_;exact dz [1000,1001] rfl rfl rfl rfl ⟨h,rfl,rfl⟩
theorem VZ (x:Ce) (f:SW x):fH k 76 [.ifo none k.t 1000 0,.pt (zW x) 0] (QJ k x):=by
 intro bs hb;obtain⟨b,a,v⟩:=x;have j:=(C3 hk.toKdOk [b]).pts (es:=zW ⟨b,a,v⟩) (os:=[0]) ⟨rfl,trivial⟩;have n:=(Bq hk.toKdOk [a]).pts (es:=zW ⟨b,a,v⟩) (os:=[1]) ⟨rfl,trivial⟩;have m:=(N9 hk v f).at (es:=zW ⟨b,a,v⟩) (off:=2) (by cases v;rfl);refine aq Tryz.func76 EX rfl fun p o=>?_;refine wu j (eJ hb) rfl rfl (fun h=>⟨rfl,d9 h⟩) fun e=>?_;have c:=dU hb;refine wu n (eJ c) rfl rfl (fun h=>⟨rfl,aT (d9 h)⟩) fun d=>?_;refine wu m (dU c) rfl rfl (fun h=>⟨rfl,aT (aT h)⟩) fun l=>?_;exact dz [1000,1001] rfl rfl rfl rfl ⟨fI e (fI d l),j3 (WB k.tb) (R9 _ _ _ _),rfl⟩
theorem Sd (x:Ac) (d:VX x):fH k 106 [.ifo none k.t 1000 0,.pt (D8 x) 0] (QK k x):=by
 intro bs hb;have e:=(Bq hk.toKdOk [x.number,x.routine,x.block,x.index,x.dst]).pts (es:=D8 x) (os:=[0,1,2,3,4]) ⟨rfl,rfl,rfl,rfl,rfl,trivial⟩;have l:=(Sc hk x.slots d).at (es:=D8 x) (off:=5) rfl;have j:=(oL hk.toKdOk x.since).at (es:=D8 x) (off:=6) rfl;refine aq Tryz.func106 CI rfl fun n m=>?_;refine y7 e (eJ hb) rfl rfl rfl (fun h=>⟨rfl,d9 h⟩) fun c=>?_;have a:=dU hb;refine wu l (eJ a) rfl rfl (fun h=>⟨rfl,aT (d9 h)⟩) fun b=>?_;refine wu j (dU a) rfl rfl (fun h=>⟨rfl,aT (aT h)⟩) fun f=>?_;exact dz [1000,1001] rfl rfl rfl rfl ⟨fI c (fI b f),j3 (WB k.tb) (R9 _ _ _ _),rfl⟩
theorem Se (x:Ln):fH k 108 [.ifo none k.t 1000 0,.pt (JU x) 0] (QL k x):=by
 intro bs hb;have c:=(Bq hk.toKdOk [x.frame,x.slot]).pts (es:=JU x) (os:=[0,1]) ⟨rfl,rfl,trivial⟩;have d:=(C3 hk.toKdOk [x.excl,x.re,x.over]).pts (es:=JU x) (os:=[2,3,4]) ⟨rfl,rfl,rfl,trivial⟩;refine aq Tryz.func108 CK rfl fun f e=>?_;refine y7 c (eJ hb) rfl rfl rfl (fun h=>⟨rfl,d9 h⟩) fun b=>?_;refine y7 d (dU hb) rfl rfl rfl (fun h=>⟨rfl,aT h⟩) fun a=>?_;exact dz [1000,1001] rfl rfl rfl rfl ⟨fI b a,j3 (WB k.tb) (R8 _ _ _),rfl⟩
theorem V0 (x:Tk) (p:VY x):fH k 80 [.ifo none k.t 1000 0,.pt (CT x) 0] (QM k x):=by
 intro bs hb;have q:=(Bq hk.toKdOk [x.state]).pts (es:=CT x) (os:=[0]) ⟨rfl,trivial⟩;have e:=(R5 hk.toKdOk x.frames (cs:=D8) (fun _=>rfl) fun y n=>Sd hk y (p y n)).at (es:=CT x) (off:=1) rfl;have m:=(R6 hk.toKdOk x.loans (cs:=JU) (fun _=>rfl) fun y _=>Se hk y).at (es:=CT x) (off:=2) rfl;have f:=(Bq hk.toKdOk [x.allocs,x.clock,x.next]).pts (es:=CT x) (os:=[3,4,5]) ⟨rfl,rfl,rfl,trivial⟩;have s:=(oL hk.toKdOk x.cells).at (es:=CT x) (off:=6) rfl;refine aq Tryz.func80 E4 rfl fun v u=>?_;refine wu q (eJ hb) rfl rfl (fun h=>⟨rfl,d9 h⟩) fun o=>?_;have c:=dU hb;refine wu e (eJ c) rfl rfl (fun h=>⟨rfl,aT (d9 h)⟩) fun d=>?_;have b:=dU c;refine wu m (eJ b) rfl rfl (fun h=>⟨rfl,aT (aT (d9 h))⟩) fun r=>?_;have a:=dU b;refine y7 f (eJ a) rfl rfl rfl (fun h=>⟨rfl,aT (aT (aT (d9 h)))⟩) fun l=>?_;refine wu s (dU a) rfl rfl (fun h=>⟨rfl,aT (aT (aT (aT h)))⟩) fun j=>?_;exact dz [1000,1001] rfl rfl rfl rfl ⟨fI o (fI d (fI r (fI l j))),j3 (WB k.tb) (Qf _ _ _ _ _ _),rfl⟩
theorem V1 (x:Ou):fH k 84 [.ifo none k.t 1000 0,.pt (KG x) 0] (Rv k x):=by
 intro bs hb;have b:=(Bq hk.toKdOk [x.task,x.number]).pts (es:=KG x) (os:=[0,1]) ⟨rfl,rfl,trivial⟩;refine aq Tryz.func84 E8 rfl fun d c=>?_;refine y7 b hb rfl rfl rfl (fun h=>⟨rfl,h⟩) fun a=>?_;exact dz [1000,1001] rfl rfl rfl rfl ⟨a,rfl,rfl⟩
theorem Sf (n l:List (List C)) (m:Int) (x:Wd) (j:Fw x):fH k 35 [.ifo none k.t 1000 0,.pt (.sl n::.sl l::IC m::QH x) 0] (rE k x):=by
 intro bs hb;generalize a:(.sl n::.sl l::IC m::QH x:List C)=es;have w1:=(VN hk.toKdOk x.cells (cs:=zW) (fun y=>by obtain⟨_,_,v⟩:=y;cases v;rfl) fun y d=>VZ hk y (j.1 y d)).at (es:=es) (off:=3) (by rw[<-a];rfl);have q:=(VL hk.toKdOk x.arenas (cs:=Fe) (fun _=>rfl) fun y _=>VS hk.toKdOk y).at (es:=es) (off:=4) (by rw[<-a];rfl);have z:=(VO hk.toKdOk x.tasks (cs:=CT) (fun _=>rfl) fun y d=>V0 hk y (j.2.1 y d)).at (es:=es) (off:=5) (by rw[<-a];rfl);have s:=(VP hk.toKdOk x.channels (cs:=M0) (fun _=>rfl) fun y d=>Sc hk y (j.2.2 y d)).at (es:=es) (off:=6) (by rw[<-a];rfl);have w5:=(VQ hk.toKdOk x.outputs (cs:=KG) (fun _=>rfl) fun y _=>V1 hk y).at (es:=es) (off:=7) (by rw[<-a];rfl);have p:=(Bq hk.toKdOk [x.made,x.dropped,x.closed]).pts (es:=es) (os:=[8,9,10]) (by rw[<-a];exact⟨rfl,rfl,rfl,trivial⟩);refine aq Tryz.func35 ET rfl fun hw ho=>?_;refine wu w1 (eJ hb) rfl rfl (fun h=>⟨rfl,d9 h⟩) fun o1=>?_;have f:=dU hb;refine wu q (eJ f) rfl rfl (fun h=>⟨rfl,aT (d9 h)⟩) fun o=>?_;have e:=dU f;refine wu z (eJ e) rfl rfl (fun h=>⟨rfl,aT (aT (d9 h))⟩) fun o3=>?_;have b:=dU e;refine wu s (eJ b) rfl rfl (fun h=>⟨rfl,aT (aT (aT (d9 h)))⟩) fun w=>?_;have c:=dU b;refine wu w5 (eJ c) rfl rfl (fun h=>⟨rfl,aT (aT (aT (aT (d9 h))))⟩) fun u=>?_;refine y7 p (dU c) rfl rfl rfl (fun h=>⟨rfl,aT (aT (aT (aT (aT h))))⟩) fun r=>?_;exact dz [1000,1001] rfl rfl rfl rfl ⟨fI o1 (fI o (fI o3 (fI w (fI u r)))),j3 (WB k.tb) (VR _ _ _ _ _ _ _),rfl⟩
end
end Go.Fr.Tryz
namespace Go.Fr.Tryz
open Go Go.RowKit Go.Proofs Go.Fr Go.Fr.T Go.Fr.Api Go.Fr.Dm
theorem C4:∀(l:List Int) (h:Int),(∀x∈l,0<=x)->0<=h/\h<2147483647->0<=l.foldl r9 h/\l.foldl r9 h<2147483647
 | [],h,_,hb=>hb
 | x::l,h,a,hb=>C4 l _ (fun y b=>a y (by simp[b])) (yh hb.1 (a x (by simp)))
def kH (bs:List UInt8):Int:=Sg (Br bs)
theorem lW (bs:List UInt8):0<=kH bs/\kH bs<2147483647:=C4 _ _ (fun x a=>by
 simp only[Br,aaJ] at a;obtain⟨b,_,rfl⟩:=a;omega) (by omega)
theorem Zd (b:UInt8):CallsT PZ 67 [jo b] [] (iD [] (.int .i64 b.toNat)):=by
 refine aj Tryz.func67 MD rfl fun a _=>?_;refine Fit.ZA (by omega) (by have:=b.toNat_lt;omega) ?_;exact aK rfl rfl
theorem Ze (bs:List UInt8):CallsT PZ 66 [.sl (af bs),.fn 67 [] []] [] (iD [] (IC (kH bs))):=by
 refine aj Tryz.func66 MC rfl fun j _=>?_;have q:=wh j.1;refine bF bs.length 10 [5] 7 (fun h=>[.int .i64 h]) (fun _=>[]) (fun k h=>0<=h/\h<2147483647/\(Br (bs.drop k)).foldl r9 h=kH bs) ⟨by omega,by omega,rfl⟩
  (ak rfl) ⟨ak rfl,trivial⟩ trivial (fun _=>rfl) (fun _=>rfl) ?_
 rintro k h s ⟨l,r,d⟩ f _ e;refine aN (fun a=>?_) (fun c=>?_)
 ·have a:k<bs.length:=by simpa[af] using a
  obtain⟨b,hb,m⟩:=drop_cons a;rw[m] at d;obtain⟨o,p⟩:=yh (x:=b.toNat) l (by omega);have n:=b.toNat_lt;refine Pm hb ?_;refine Fit.ZA (by omega) (by omega) ?_;refine bA (Zd b) rfl fun _=>?_;refine Fit.ZA (by omega) (by omega) ?_;refine Fit.ZA (by omega) (by omega) ?_;refine nP.mk (by omega) ?_;refine Fit.ZA (by omega) (by omega) ?_;exact⟨(k+1,r9 h b.toNat),⟨a,o,p,d⟩,⟨bL,ak rfl,trivial⟩,trivial,bM a⟩
 ·have c:¬k<bs.length:=by simpa[af] using c
  rw[gH c] at d;exact aK rfl (j3 (C.int .i64) d)
theorem QN (bs:List UInt8):CallsT PZ 23 [.sl (af bs)] [] (iD [] (IC (kH bs))):=by
 refine aj Tryz.func23 Me rfl fun a _=>?_;refine bA (Ze bs) rfl fun _=>?_;exact aK rfl rfl
theorem Zf (bs:List UInt8):CallsT PZ 47 [.sl (af bs)] [] (iD [] (IC (kH bs))):=by
 refine aj Tryz.func47 Ms rfl fun o _=>?_;have e:bs.length<=9223372036854775807:=wh o.1;refine bF bs.length 4 [3] (7:Int) (fun h=>[IC h]) (fun _=>[]) (fun k h=>(Br (bs.drop k)).foldl r9 h=kH bs/\0<=h/\h<2147483647) ⟨rfl,by omega,by omega⟩ (ak rfl) ⟨ak rfl,trivial⟩ trivial (fun _=>rfl) (fun _=>rfl) ?_;rintro k h p ⟨a,f,q⟩ _ _ _;refine aN (fun b=>?_) (fun c=>?_)
 ·have b:k<bs.length:=by simpa[af] using b
  refine fj b fun x l m j=>?_;rw[j] at a;have n:=x.toNat_lt;refine Fit.ZA (by omega) (by omega) ?_;refine Pm l ?_;refine Fit.ZA (by omega) (by omega) ?_;refine Fit.ZA (by omega) (by omega) ?_;refine Fit.ZA (by omega) (by omega) ?_;refine nP.mk (by omega) ?_;have d:=yh (x:=x.toNat) f (by omega);refine Fit.ZA (by omega) (by omega) ?_;exact⟨(k+1,r9 h x.toNat),⟨b,a,d.1,d.2⟩,⟨bL,ak rfl,trivial⟩,trivial,bM b⟩
 ·have c:¬k<bs.length:=by simpa[af] using c
  rw[gH c] at a;exact aK rfl (j3 (C.int .i64) a)
theorem nL (a b:List UInt8):rO ⟨a.toArray⟩ ⟨b.toArray⟩=decide (a=b):=by simp[rO]
theorem t31 (a b:List UInt8):CallsT PZ 31 [.sl (af a),.sl (af b)] [] (iD [] (.bool (decide (a=b)))):=by
 refine aj Tryz.func31 Mi rfl fun c _=>?_;refine kN.mk ⟨a,rfl,?_⟩;refine kN.mk ⟨b,rfl,?_⟩;exact aK rfl (j3 C.bool (nL a b))
def QO (n:Int):UInt8:=UInt8.ofNat n.toNat
def qa (bs:List UInt8):List UInt8:=[QO (kH bs / 16777216),QO (kH bs / 65536),QO (kH bs / 256),QO (kH bs)]
def gQ (b:List UInt8):List UInt8:=b++qa b
theorem lN {n m:Int}(h:0<=m) (e:n=m):IntKind.wrap .u8 n=((QO m).toNat:Int):=by
 subst e;simp only[IntKind.wrap,IntKind.bits,IntKind.signed,QO,UInt8.toNat_ofNat'];simp;omega
theorem V3:∀bs:List UInt8,bs.length<=70368744177664->CallsT PZ 73 [.sl (af bs)] [] (iD [.row 5 1 (af bs)] (.rw 1000))
 | [],hb=>by
  refine aj Tryz.func73 EV rfl fun c _=>?_;intro b _;refine ah (fun _=>?_) (fun _=>?_)
  ·exact Tc 2 5 1 rfl rfl
  ·refine rM 0 rfl (by simp) ?_;exact yO [5] rfl rfl rfl rfl
 | x::l,hb=>by
  refine aj Tryz.func73 EV rfl fun c _=>?_;intro b a;refine ah (fun h=>?_) (fun _=>?_)
  ·rw[a (by simp[af])] at h;cases h
  ·refine rM 0 rfl (by omega) ?_;exact yO [5] rfl rfl rfl rfl
theorem Si (b:List UInt8):af b++af (qa b)=af (gQ b):=by simp[af,gQ]
theorem t32 (bs:List UInt8) (hb:bs.length<=70368744177664):CallsT PZ 32 [.sl (af bs)] [] (iD [.row 5 1 (af (gQ bs))] (.rw 1000)):=by
 obtain⟨a,c⟩:=lW bs;refine aj Tryz.func32 Mj rfl fun d _=>?_;refine bA (QN bs) rfl fun _=>?_;refine callO [] [7] (V3 bs hb) rfl rfl rfl rfl rfl fun _ _=>?_;refine⟨by decide,?_⟩;refine Fit.to (lN (m:=kH bs / 16777216) (by omega) (Int.fdiv_eq_ediv_of_nonneg (b:=16777216) _ (by omega))) ?_;refine⟨by decide,?_⟩;refine Fit.to (lN (m:=kH bs / 65536) (by omega) (Int.fdiv_eq_ediv_of_nonneg (b:=65536) _ (by omega))) ?_;refine⟨by decide,?_⟩;refine Fit.to (lN (m:=kH bs / 256) (by omega) (Int.fdiv_eq_ediv_of_nonneg (b:=256) _ (by omega))) ?_;refine Fit.to (lN (m:=kH bs) (by omega) rfl) ?_;refine rM (bs:=qa bs) bs.length aM (by simp[qa];omega) ?_;exact yO [7] rfl rfl (j3 (fun q=>[TO.row 5 1 q]) (Si bs)) rfl
theorem Zg (bs:List UInt8):CallsT PZ 24 [.sl (af bs)] [] (iD [] (.sl (af (qa bs)))):=by
 obtain⟨a,c⟩:=lW bs;refine aj Tryz.func24 Mf rfl fun d _=>?_;refine bA (Zf bs) rfl fun _=>?_;refine⟨by decide,?_⟩;refine Fit.to (lN (m:=kH bs / 16777216) (by omega) (Int.fdiv_eq_ediv_of_nonneg (b:=16777216) _ (by omega))) ?_;refine⟨by decide,?_⟩;refine Fit.to (lN (m:=kH bs / 65536) (by omega) (Int.fdiv_eq_ediv_of_nonneg (b:=65536) _ (by omega))) ?_;refine⟨by decide,?_⟩;refine Fit.to (lN (m:=kH bs / 256) (by omega) (Int.fdiv_eq_ediv_of_nonneg (b:=256) _ (by omega))) ?_;refine Fit.to (lN (m:=kH bs) (by omega) rfl) ?_;exact aK rfl rfl
def dc:List UInt8:=[76,83,1]
theorem W6:CallsT PZ 30 [] [] (iD [] (.sl (af dc))):=by
 refine aj Tryz.func30 Mh rfl fun a _=>?_;exact aK rfl rfl
theorem J9 (a b:List UInt8):decide ((a.take b.length)=b)=decide (b <+: a):=by
 congr 1;exact propext ⟨fun h=>h▸List.take_prefix _ _,fun⟨t,h⟩=>by rw[<-h];simp⟩
theorem t29 (a b:List UInt8):CallsT PZ 29 [.sl (af a),.sl (af b)] [] (iD [] (.bool (decide (b <+: a)))):=by
 refine aj Tryz.func29 Mg rfl fun d _=>?_;have c:(af a).length=a.length:=aM;have hb:(af b).length=b.length:=aM;refine aN (fun h=>?_) (fun h=>?_)
 ·rw[c,hb] at h;refine Cb.mk (aaI 0) (by omega) (by rw[c,hb];exact h) gA ?_;refine bA (t31 (a.take b.length) b) (j3 (fun q=>[C.sl q,C.sl (af b)]) (?_:((af a).drop 0).take (((af b).length:Int).toNat-0)=af (a.take b.length))) fun _=>?_
  ·rw[ij,hb];simp
  ·exact aK rfl (j3 C.bool (J9 a b))
 ·rw[c,hb] at h;refine aK rfl (j3 C.bool (?_:false=_))
  symm
  exact decide_eq_false fun q=>h (by have:=q.length_le;omega)
theorem W7 (n:Nat) (a:n<=4611686018427387904):CallsT PZ 61 [IC n] [] (iD [] (IC ((n+31) / 32:Nat))):=by
 refine aj Tryz.func61 MA rfl fun b _=>?_;refine Fit.ZA (by omega) (by omega) ?_;refine nP.mk (by omega) ?_;refine Fit.to (m:=(((n+31) / 32:Nat):Int)) (by show IntKind.wrap .i64 (((n+31) / 32:Nat):Int)=_;exact bU (by omega) (by omega)) ?_;exact aK rfl rfl
def cK (b:List UInt8) (i:Nat):List UInt8:=(b.drop (32*i)).take 32
theorem Nl (b:List UInt8) (i:Nat):((af b).drop (min (32*i) b.length)).take (min (32*i+32) b.length-min (32*i) b.length)=af (cK b i):=by
 rw[ij];congr 1;unfold cK
 by_cases h:32*i<=b.length
 ·rw[Nat.min_eq_left h]
  by_cases a:32*i+32<=b.length
  ·rw[Nat.min_eq_left a];congr 1;omega
  ·rw[Nat.min_eq_right (by omega),aaZ (by simp),aaZ (by simp;omega)]
 ·have e:min (32*i) b.length=b.length:=Nat.min_eq_right (by omega);rw[e,List.drop_eq_nil_of_le (aaB b.length),List.drop_eq_nil_of_le (by omega:b.length<=32*i)];simp
theorem V4 (b:List UInt8) (i:Nat) (hi:i<=1125899906842624):CallsT PZ 62 [.sl (af b),IC i] [] (iD [] (.sl (af (cK b i)))):=by
 refine aj Tryz.func62 EU rfl fun j _=>?_;have hb:(af b).length=b.length:=aM;have k:=wh j.1;have a:(if((af b).length:Int)<32*(i:Int) then((af b).length:Int) else 32*(i:Int))=((min (32*i) b.length:Nat):Int):=by
  rw[hb];split<;>omega
 have c:(if((af b).length:Int)<32*(i:Int)+32 then((af b).length:Int) else 32*(i:Int)+32)=((min (32*i+32) b.length:Nat):Int):=by
  rw[hb];split<;>omega
 have f:0<=(if((af b).length:Int)<32*(i:Int) then((af b).length:Int) else 32*(i:Int)):=by rw[a];omega
 have e:(if((af b).length:Int)<32*(i:Int) then((af b).length:Int) else 32*(i:Int))<=(if((af b).length:Int)<32*(i:Int)+32 then((af b).length:Int) else 32*(i:Int)+32):=by rw[a,c];omega
 have d:(if((af b).length:Int)<32*(i:Int)+32 then((af b).length:Int) else 32*(i:Int)+32)<=((af b).length:Int):=by rw[c,hb];omega
 have h:((af b).drop (if((af b).length:Int)<32*(i:Int) then((af b).length:Int) else 32*(i:Int)).toNat).take ((if((af b).length:Int)<32*(i:Int)+32 then((af b).length:Int) else 32*(i:Int)+32).toNat-(if((af b).length:Int)<32*(i:Int) then((af b).length:Int) else 32*(i:Int)).toNat)=af (cK b i):=by
  rw[a,c];exact Nl b i
 have wf:∀n:Nat,n<=b.length->(Lit.int .i64 (n:Int)).wf=true:=by
  intro n l;simp[Lit.wf,IntKind.min,IntKind.max,IntKind.bits,IntKind.signed];omega
 refine Fit.ZA (by omega) (by omega) ?_;refine⟨(j3 (fun q=>(Lit.int .i64 q).wf) a).trans (wf _ (Nat.min_le_right _ _)),?_⟩;refine Fit.ZA (by omega) (by omega) ?_;refine Fit.ZA (by omega) (by omega) ?_;refine⟨(j3 (fun q=>(Lit.int .i64 q).wf) c).trans (wf _ (Nat.min_le_right _ _)),?_⟩;refine Cb.mk f e d gA ?_;exact aK rfl (j3 C.sl h)
end Go.Fr.Tryz
namespace Go.Fr.Tryz
open Go Go.RowKit Go.Proofs Go.Fr Go.Fr.T Go.Fr.Api
theorem Ob:∀{bs:List Own}{n:Nat},Dl bs [n]->∃g t cs,bs=[.box g (t+1) cs]/\cs.length=n
 | [],_,h=>h.elim
 | [o],n,h=>by
  cases o with
  | row=>exact h.1.elim
  | box g t cs =>
   cases t with
   | zero=>exact h.1.elim
   | succ t=>exact⟨g,t,cs,rfl,h.1⟩
 | _::_::_,_,h=>h.2.elim
theorem pQ.mono {P:Program}{H:Nat}{PS PS':Value->Prop}{ns:List Nat}{out:Value->List (List Value)}(h:pQ P H PS ns out) (c:∀v,PS' v->PS v):pQ P H PS' ns out :=
 ⟨h.inv,h.idle,fun F bs v a w b=>h.caught F bs v a w (c v b)⟩
def Ka (v:Value):List (List Value):=[[.bool false]]
theorem Qh (bs:List Own) (w:World) (hb:Dl bs [1]):CallsD PZ 74 (bs.map nB).toArray .returning w fun e c w'=>e=.returned (.tuple #[])/\c=.returning/\w'=w:=by
 have d:Tryz.f74.ntmps=15:=by kernel_rfl
 have f:Tryz.f74.results=#[]:=by kernel_rfl
 obtain⟨g,t,cs,rfl,_⟩:=Ob hb;refine callsD_of_wpS Tryz.func74 rfl fun a cs b=>?_;apply wpS_seq;apply wpS_region;simp[wpOpsS,go_sem,recoverD,b,d,Exit.thenS,nB];apply wpS_seq;apply wpS_region;simp[wpOpsS,go_sem,Exit.thenS];refine wpS_cond (t:=false) (by simp[Act.eval,Array.replicate]) ?_;simp only[aaq,aaO];refine wpS_of_wp (wp_skip ?_);cases a
 simp_all [bodyPostS,results]
theorem wz:pQ PZ 74 (fun v=>v=fL) [1] Ka:=by
 refine Ba Tryz.func74 ME rfl Qh ?_;rintro F bs v rfl hb;obtain⟨g,t,cs,rfl,b⟩:=Ob hb
 match cs,b with
 | [a],_ =>
  (try intro d)<;>(try intro c)<;>exact rfl
def qb (b a:List (List C)) (c:Int) (x:Wd):List C:=.sl b::.sl a::IC c::QH x
section
variable {L:TL}{ρ:aX}
theorem Bs (ks:List Nat) {f:Nat}{args a:List C}{K:TL->aX->C->Prop}{R:List TO->C->Prop}{Lin Lin':List TO}(h:CallsT PZ f a Lin' R) (j:L.sub ks=some Lin)
  (b:(T.bJ ks&&T.mq L ks ks&&aU Lin ks ks)=true) (l:(args.map fun c=>c.ZG.ren (cD ks 1000))=a) (m:Lin.map (TO.ZC (C.ren (cD ks 1000)))=Lin')
  (k:∀v Mo,R Mo v->Wf v->(∀o∈Mo,o.Wf)->ks.length=Mo.length/\K (((L.ZB ks).kills (rowsOf L ks)).puts ks (Mo.map (TO.ZC (C.ren (aZ ks))))) (fF (rowsOf L ks) ρ) (v.ren (aZ ks)).slt):qB PZ f args L ρ K:=by
 subst l m;simp only[aaj] at b;obtain⟨⟨d,e⟩,c3⟩:=b;exact .mk ⟨[],ks,ks,L,Lin,_,.inl rfl,j,d,d,e,c3,h,k⟩
end
def EB (bs:List UInt8):List TO:=[.box 102 [.own 1001 0],.box 108 [.rw 1002,IC 0,.int .i8 0],.row 5 1 (af bs)]
theorem t49 (f b:List (List C)) (d:Int) (x:Wd) (m:Fw x) (bs:List UInt8) (hb:bs.length+(rE kW x).1.length<=70368744177664) :
  CallsTX PZ 49 [.own 1000 0,.pt (qb f b d x) 0] (EB bs) (fun Mo c=>(rE kW x).2=true/\Mo=EB (bs++(rE kW x).1)/\c=.tup []) (fun v=>v=fL/\(rE kW x).2=false):=by
 have a:=Sf VU f b d x m bs hb;generalize rE kW x=e at a ⊢;obtain⟨p,o⟩:=e;unfold qb;generalize l:(.sl f::.sl b::IC d::QH x:List C)=es at a ⊢;refine aq Tryz.func49 Mu rfl fun n j=>?_;refine bW [1001,1002] a rfl rfl rfl rfl (fun v h=>h) ?_;rintro v Mo ⟨k,rfl,rfl⟩ _ _;refine⟨rfl,?_⟩;exact dz [1000,1001,1002] rfl rfl rfl rfl ⟨k,rfl,rfl⟩
end Go.Fr.Tryz
