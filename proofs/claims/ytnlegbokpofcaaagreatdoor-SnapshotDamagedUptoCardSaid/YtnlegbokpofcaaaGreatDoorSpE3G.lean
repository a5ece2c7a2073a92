/- Part of the proofs of the statements of this seat. -/
import Derived.Test.YtnlegbokpofcaaaGreatDoorSpT5G
import Derived.Test.YtnlegbokpofcaaaGreatDoorSpT8G
import Derived.Test.YtnlegbokpofcaaaGreatDoorSpW1G
import Derived.Test.YtnlegbokpofcaaaGreatDoorFW3
set_option maxRecDepth 10000
set_option linter.unusedVariables false
set_option linter.unusedSimpArgs false
namespace Go.Fr.Tryz
open Go Go.RowKit Go.Proofs Go.Fr Go.Fr.T Go.Fr.Api
structure tI (k:Kd):Prop where
 num:∃f,oI PZ k.t "leasehold/snapshot.num"=some f/\(∀n,fC k f [.own 1000 0,.pt [IC n] 0] (k.num n))/\∀n,Xt k f n
 siz:∃f,oI PZ k.t "leasehold/snapshot.size"=some f/\∀n:Nat,Vj k f [.own 1000 0,IC n] (k.siz n) (IC n)
 mkn:PE Hg k.t "leasehold/snapshot.num"=true
 mks:PE Hg k.t "leasehold/snapshot.size"=true
theorem AQ:tI kW:=⟨⟨167,by kernel_rfl,Xp,Uc⟩,⟨168,by kernel_rfl,Xq⟩,rfl,rfl⟩
theorem AR:tI kL:=⟨⟨169,by kernel_rfl,Ub,Ud⟩,⟨170,by kernel_rfl,Xr⟩,rfl,rfl⟩
theorem Fp {l:List C}(h:dJ l=true) (n:Nat):dJ (l.take n)=true:=iW.2 fun c a=>iW.1 h c (List.mem_of_mem_take a)
theorem Fq {l:List C}(h:dJ l=true) (n:Nat):dJ (l.drop n)=true:=iW.2 fun c a=>iW.1 h c (List.mem_of_mem_drop a)
theorem GH {F:aD}{L:Loc}{es es':List C}{off:Nat}{v:Value}(e:(es.drop off).take es'.length=es') (h:Rel F L (.pt es off) v):Rel F L (.pt es' 0) v:=by
 simp only[Rel] at h ⊢;obtain⟨b,o,vs,rfl,⟨c,d,t,j,hb,n,l⟩,m,f⟩:=h;refine⟨b,o,(vs.drop off).take es'.length,rfl,⟨c+off,d,t,j,hb,by omega,fun i v a=>?_⟩,?_,?_⟩
 ·rw[abm] at a;split at a
  case isFalse=>cases a
  rw[abj] at a;have:=l _ _ a
  rwa [<-Nat.add_assoc] at this
 ·rw[<-e];exact Fp (Fq m off) _
 ·have:=(f.drop off).take es'.length
  rwa [e] at this
theorem GI {P:Program}{f:Nat}{args a:List C}{Lin:List TO}{R:List TO->C->Prop}{Pp:Value->Prop}(h:CallsTX P f args Lin R Pp) (c:∀F L vs,aF F L a vs->aF F L args vs):CallsTX P f a Lin R Pp :=
 ⟨fun F Li vs b d e=>h.out F Li vs b d (c _ _ _ e)⟩
theorem D3 {F:aD}{L:Loc}{a b:List C}{c l:C}(n:∀v,Rel F L c v->Rel F L l v):∀{vs:List Value},aF F L (a++c::b) vs->aF F L (a++l::b) vs:=by
 induction a with
 | nil =>
  intro vs h;simp only[aa5,aF] at h ⊢;obtain⟨v,e,rfl,f,j⟩:=h;exact⟨v,e,rfl,n v f,j⟩
 | cons d a m =>
  intro vs h;simp only[aaT,aF] at h ⊢;obtain⟨v,e,rfl,f,j⟩:=h;exact⟨v,e,rfl,f,m j⟩
theorem fC.at {k:Kd}{f:Nat}{b:C}{ca:List C}{es es':List C}{off:Nat}{e:Enc}(h:fC k f (b::.pt es' 0::ca) e) (j:(es.drop off).take es'.length=es'):fC k f (b::.pt es off::ca) e :=
 fun bs hb=>GI (h bs hb) fun F L vs d=>D3 (a:=[b]) (fun v c=>GH j c) d
def GJ (es:List C):List Nat->List C->Prop
 | o::os,c::cs=>es[o]?=some c/\GJ es os cs
 | [],[]=>True
 | _,_=>False
theorem D4 {F:aD}{a:Option Addr}{sz:Nat}{es:List C}:∀{os:List Nat}{cs:List C}{i:Nat},GJ es os cs->gC F a sz i (os.map fun o=>[.pt es o])->gC F a sz i (cs.map fun c=>[.pt [c] 0])
 | [],[],i,_,h=>by simp only[abI,gC]
 | o::os,c::cs,i,b,h=>by
  simp only[aaS,gC] at h ⊢;obtain⟨⟨vs,m,l,p,e⟩,n⟩:=h;refine⟨⟨vs,m,l,rfl,?_⟩,D4 b.2 n⟩;simp only[aF] at e ⊢;obtain⟨v,d,rfl,j,f⟩:=e;refine⟨v,d,rfl,GH (es':=[c]) ?_ j,f⟩;exact take_one b.1
 | [],_::_,i,b,h=>b.elim
 | _::_,[],i,b,h=>b.elim
theorem AU {es:List C}:∀{os:List Nat}{cs:List C},GJ es os cs->os.length=cs.length
 | [],[],_=>rfl
 | o::os,c::cs,h=>by simp[AU h.2]
theorem fC.pts {k:Kd}{f:Nat}{d:C}{es:List C}{os:List Nat}{cs:List C}{e:Enc}(h:fC k f [d,.sl (cs.map fun c=>[.pt [c] 0])] e) (l:GJ es os cs):fC k f [d,.sl (os.map fun o=>[.pt es o])] e :=
 fun bs hb=>GI (h bs hb) fun F L vs q=>D3 (a:=[d]) (b:=[]) (fun v m=>by
  simp only[Rel] at m ⊢;obtain⟨a,c,rfl,p,r,j,sz,s⟩:=m;have n:=AU l;simp only[aa3] at p r j ⊢;refine⟨a,c,by rw[n],by omega,by omega,fun e=>?_,sz,D4 l s⟩;obtain⟨t,u⟩:=j e;have:os=[]:=by simpa using t
  subst this;have:cs=[]:=abg (by simpa using n.symm);subst this;exact⟨rfl,u⟩) q
theorem Lg {a b:Enc}(p:List UInt8) (h:a.2=true):bh (p,true) (bh a b)=bh (p++a.1,true) b:=by
 obtain⟨q,y⟩:=a;simp only at h;subst h;simp[bh]
theorem Lh {a b:Enc}(p:List UInt8) (h:a.2=false):(bh (p,true) (bh a b)).2=false:=by simp[bh,h]
theorem js {b:Type}{f:b->Enc}{l:List b}{k:Nat}{x:b}{bs s p:List UInt8}(d:l.drop k=x::l.drop (k+1)) (c:s=bs++p) (a:aS f l=bh (p,true) (aS f (l.drop k))) (hb:bs.length+(aS f l).1.length<=70368744177664) :
  s.length+(f x).1.length<=70368744177664/\((f x).2=false->(aS f l).2=false)/\((f x).2=true->aS f l=bh (p++(f x).1,true) (aS f (l.drop (k+1)))):=by
 rw[d] at a;have e:aS f (x::l.drop (k+1))=bh (f x) (aS f (l.drop (k+1))):=rfl;rw[e] at a;refine⟨?_,fun h=>by rw[a];exact Lh p h,fun h=>by rw[a,Lg p h]⟩;rw[a] at hb;rw[c];simp only[bh,yo] at hb ⊢;omega
theorem lY {b:Type}{f:b->Enc}{l:List b}{k:Nat}{bs s p:List UInt8}(d:l.drop k=[]) (c:s=bs++p) (a:aS f l=bh (p,true) (aS f (l.drop k))):(aS f l).2=true/\s=bs++(aS f l).1:=by
 rw[d] at a;rw[a,c];simp[bh,aS,Mq]
section
variable {k:Kd}(hk:tI k)
include hk
theorem Cn (ns:List Int):fC k 85 [.ifo none k.t 1000 0,.sl ((ns.map IC).map fun c=>[.pt [c] 0])] (aS k.num ns):=by
 intro bs hb;obtain⟨fn,n,l,_⟩:=hk.num;rw[abF];refine ak Tryz.func85 Gp rfl fun q ho=>?_;have u:=cJ q.2.1;have f:((ns.map ((fun c=>[C.pt [c] 0])∘IC)).length:Int)=ns.length:=by simp
 refine bw ns.length 8 [] bs (fun _=>[]) (fun s=>Ff k.tb s) (fun i s=>∃p,s=bs++p/\aS k.num ns=bh (p,true) (aS k.num (ns.drop i))) ⟨[],by simp,by simp[bh]⟩ (ah rfl) trivial
  ⟨.inl ⟨_,rfl,.inl ⟨rfl,rfl⟩⟩,.inl ⟨_,rfl,.inl ⟨rfl,rfl⟩⟩,trivial⟩ (fun _=>rfl) (fun _=>rfl) ?_
 rintro i s hi ⟨p,j,b⟩ _ _ _;refine aM (fun a=>?_) (fun d=>?_)
 ·have a:i<ns.length:=by
   have h:(i:Int)<((ns.map ((fun c=>[C.pt [c] 0])∘IC)).length:Int):=a;rw[f] at h;omega
  refine eU a fun x w ab hd=>?_;obtain⟨r,y,z⟩:=js hd j b hb;refine cD w rfl rfl ?_;refine⟨fn,n,?_⟩;refine bW [1000,1001] (l x s r) rfl rfl rfl rfl (fun v ⟨e,h⟩=>⟨e,y h⟩) ?_;rintro v Mo ⟨m,rfl,rfl⟩ _ _;refine⟨rfl,?_⟩;refine Fit.aae (by omega) (by omega) ?_;exact⟨(i+1,s++(k.num x).1),⟨by omega,p++(k.num x).1,by rw[j,aaR],z m⟩,⟨bE,trivial⟩,⟨.inl ⟨_,rfl,.inl ⟨rfl,rfl⟩⟩,.inl ⟨_,rfl,.inl ⟨rfl,rfl⟩⟩,trivial⟩,bF a⟩
 ·have d:¬i<ns.length:=by
   have h:¬(i:Int)<((ns.map ((fun c=>[C.pt [c] 0])∘IC)).length:Int):=d;rw[f] at h;omega
  obtain⟨m,o⟩:=lY (gF d) j b;exact di [1000,1001] rfl rfl rfl rfl ⟨m,j3 (WB k.tb) o,rfl⟩
theorem D5 (ns:List Bool):fC k 103 [.ifo none k.t 1000 0,.sl ((ns.map C.bool).map fun c=>[.pt [c] 0])] (aS (nM k) ns):=by
 intro bs hb;obtain⟨fn,o,_,n⟩:=hk.num;rw[abF];refine ak Tryz.func103 DG rfl fun u ho=>?_;have y:=cJ u.2.1;have f:((ns.map ((fun c=>[C.pt [c] 0])∘C.bool)).length:Int)=ns.length:=by simp
 refine bw ns.length 9 [] bs (fun _=>[]) (fun s=>Ff k.tb s) (fun i s=>∃p,s=bs++p/\aS (nM k) ns=bh (p,true) (aS (nM k) (ns.drop i))) ⟨[],by simp,by simp[bh]⟩ (ah rfl) trivial
  ⟨.inl ⟨_,rfl,.inl ⟨rfl,rfl⟩⟩,.inl ⟨_,rfl,.inl ⟨rfl,rfl⟩⟩,trivial⟩ (fun _=>rfl) (fun _=>rfl) ?_
 rintro i s hi ⟨p,l,b⟩ _ _ _;refine aM (fun a=>?_) (fun d=>?_)
 ·have a:i<ns.length:=by
   have h:(i:Int)<((ns.map ((fun c=>[C.pt [c] 0])∘C.bool)).length:Int):=a;rw[f] at h;omega
  refine eU a fun x z ac hd=>?_;obtain⟨w,g2,q⟩:=js hd l b hb;refine cD z rfl rfl ?_;refine aB (fun j=>?_) (fun j=>?_)
  all_goals
   subst j;refine⟨fn,o,?_⟩;refine bW [1000,1001,6] (n _ s w) rfl rfl rfl rfl (fun v ⟨e,h⟩=>⟨e,g2 h⟩) ?_;rintro v Mo ⟨m,rfl,rfl⟩ _ _;refine⟨rfl,?_⟩
  ·refine vM (uY true) rfl (fun h=>by cases h) fun _=>?_;refine⟨rfl,?_⟩;refine Fit.aae (by omega) (by omega) ?_;exact⟨(i+1,s++(nM k true).1),⟨by omega,p++(nM k true).1,by rw[l,aaR],q m⟩,⟨bE,trivial⟩,⟨.inl ⟨_,rfl,.inl ⟨rfl,rfl⟩⟩,.inl ⟨_,rfl,.inl ⟨rfl,rfl⟩⟩,trivial⟩,bF a⟩
  ·refine vM (uY true) rfl (fun h=>by cases h) fun _=>?_;refine⟨rfl,?_⟩;refine Fit.aae (by omega) (by omega) ?_;exact⟨(i+1,s++(nM k false).1),⟨by omega,p++(nM k false).1,by rw[l,aaR],q m⟩,⟨bE,trivial⟩,⟨.inl ⟨_,rfl,.inl ⟨rfl,rfl⟩⟩,.inl ⟨_,rfl,.inl ⟨rfl,rfl⟩⟩,trivial⟩,bF a⟩
 ·have d:¬i<ns.length:=by
   have h:¬(i:Int)<((ns.map ((fun c=>[C.pt [c] 0])∘C.bool)).length:Int):=d;rw[f] at h;omega
  obtain⟨m,r⟩:=lY (gF d) l b;exact di [1000,1001] rfl rfl rfl rfl ⟨m,j3 (WB k.tb) r,rfl⟩
end
theorem Ur {k:Kd}(hk:tI k) {r:Type}{f:Nat}{enc:r->Enc}{cs:r->List C}(l:List r) (hl:∀x,T.cR (cs x) 1=true) (hf:∀x∈l,fC k f (.ifo none k.t 1000 0::.pt (cs x) 0::[]) (enc x)) :
  fC k 109 [.ifo none k.t 1000 0,.pt [.sl (l.map cs)] 0,.fn f [] []] (bO k enc l):=by
 intro bs hb;obtain⟨fs,o,n⟩:=hk.siz;have hE:bO k enc l=bh (k.siz (l.map cs).length) (aS enc l):=by unfold bO;rw[aa3]
 rw[hE] at hb ⊢;have u:bs.length+(k.siz (l.map cs).length).1.length<=70368744177664:=by
  simp only[bh,yo] at hb;omega
 refine ak Tryz.func109 DM rfl fun hw ho=>?_;have w:(l.map cs).length<=9223372036854775807:=by have h:=hw.2.1.1.1;simp only[maxLen] at h;exact h
 refine⟨hk.mks,?_⟩;refine⟨fs,o,?_⟩;refine cu [1000,1001] (n (l.map cs).length bs u) rfl rfl rfl rfl (fun v ⟨e,h⟩=>⟨e,by show(_&&_)=false;rw[h];rfl⟩) ?_;rintro v Mo ⟨e0,rfl,rfl⟩ _ _;refine⟨rfl,?_⟩;refine aB (fun h=>?_) (fun _=>?_)
 ·simp at h
 have d:(bs++(k.siz (l.map cs).length).1).length+(aS enc l).1.length<=70368744177664:=by
  simp only[bh,yo] at hb ⊢;omega
 generalize z:bs++(k.siz (l.map cs).length).1=b1 at d;have j:((l.map cs).length:Int)=l.length:=by simp
 refine bw l.length 31 [] b1 (fun _=>[]) (fun s=>Ff k.tb s) (fun i s=>∃p,s=b1++p/\aS enc l=bh (p,true) (aS enc (l.drop i))) ⟨[],by simp,by simp[bh]⟩ (ah rfl) trivial
  ⟨.inl ⟨_,rfl,.inl ⟨rfl,rfl⟩⟩,.inl ⟨_,rfl,.inl ⟨rfl,rfl⟩⟩,trivial⟩ (fun _=>rfl) (fun _=>rfl) ?_
 rintro i s hi ⟨p,m,b⟩ _ _ _;refine aM (fun a=>?_) (fun c=>?_)
 ·have a:i<l.length:=by
   have h:(i:Int)<((l.map cs).length:Int):=a;rw[j] at h;omega
  refine eU a fun x hx y hd=>?_;obtain⟨g1,g2,g3⟩:=js hd m b d;refine cD hx rfl (hl x) ?_;refine bW [1000,1001] (hf x y s g1) rfl rfl rfl rfl (fun v ⟨e,h⟩=>⟨e,by show(_&&_)=false;rw[g2 h,abq]⟩) ?_;rintro v Mo ⟨q,rfl,rfl⟩ _ _;refine⟨rfl,?_⟩;refine Fit.aae (by omega) (by rw[aa3] at w;omega) ?_;exact⟨(i+1,s++(enc x).1),⟨by omega,p++(enc x).1,by rw[m,aaR],g3 q⟩,⟨bE,trivial⟩,⟨.inl ⟨_,rfl,.inl ⟨rfl,rfl⟩⟩,.inl ⟨_,rfl,.inl ⟨rfl,rfl⟩⟩,trivial⟩,bF a⟩
 ·have c:¬i<l.length:=by
   have h:¬(i:Int)<((l.map cs).length:Int):=c;rw[j] at h;omega
  obtain⟨q,e2⟩:=lY (gF c) m b;exact di [1000,1001] rfl rfl rfl rfl ⟨by show(_&&_)=true;rw[e0,q];rfl,j3 (WB k.tb) (by rw[e2,<-z];show _=bs++(_++_);rw[aaR]),rfl⟩
theorem XF {k:Kd}(hk:tI k) {r:Type}{f:Nat}{enc:r->Enc}{cs:r->List C}(l:List r) (hl:∀x,T.cR (cs x) 1=true) (hf:∀x∈l,fC k f (.ifo none k.t 1000 0::.pt (cs x) 0::[]) (enc x)) :
  fC k 77 [.ifo none k.t 1000 0,.pt [.sl (l.map cs)] 0,.fn f [] []] (bO k enc l):=by
 intro bs hb;obtain⟨fs,o,n⟩:=hk.siz;have hE:bO k enc l=bh (k.siz (l.map cs).length) (aS enc l):=by unfold bO;rw[aa3]
 rw[hE] at hb ⊢;have u:bs.length+(k.siz (l.map cs).length).1.length<=70368744177664:=by
  simp only[bh,yo] at hb;omega
 refine ak Tryz.func77 Gg rfl fun hw ho=>?_;have w:(l.map cs).length<=9223372036854775807:=by have h:=hw.2.1.1.1;simp only[maxLen] at h;exact h
 refine⟨hk.mks,?_⟩;refine⟨fs,o,?_⟩;refine cu [1000,1001] (n (l.map cs).length bs u) rfl rfl rfl rfl (fun v ⟨e,h⟩=>⟨e,by show(_&&_)=false;rw[h];rfl⟩) ?_;rintro v Mo ⟨e0,rfl,rfl⟩ _ _;refine⟨rfl,?_⟩;refine aB (fun h=>?_) (fun _=>?_)
 ·simp at h
 have d:(bs++(k.siz (l.map cs).length).1).length+(aS enc l).1.length<=70368744177664:=by
  simp only[bh,yo] at hb ⊢;omega
 generalize z:bs++(k.siz (l.map cs).length).1=b1 at d;have j:((l.map cs).length:Int)=l.length:=by simp
 refine bw l.length 31 [] b1 (fun _=>[]) (fun s=>Ff k.tb s) (fun i s=>∃p,s=b1++p/\aS enc l=bh (p,true) (aS enc (l.drop i))) ⟨[],by simp,by simp[bh]⟩ (ah rfl) trivial
  ⟨.inl ⟨_,rfl,.inl ⟨rfl,rfl⟩⟩,.inl ⟨_,rfl,.inl ⟨rfl,rfl⟩⟩,trivial⟩ (fun _=>rfl) (fun _=>rfl) ?_
 rintro i s hi ⟨p,m,b⟩ _ _ _;refine aM (fun a=>?_) (fun c=>?_)
 ·have a:i<l.length:=by
   have h:(i:Int)<((l.map cs).length:Int):=a;rw[j] at h;omega
  refine eU a fun x hx y hd=>?_;obtain⟨g1,g2,g3⟩:=js hd m b d;refine cD hx rfl (hl x) ?_;refine bW [1000,1001] (hf x y s g1) rfl rfl rfl rfl (fun v ⟨e,h⟩=>⟨e,by show(_&&_)=false;rw[g2 h,abq]⟩) ?_;rintro v Mo ⟨q,rfl,rfl⟩ _ _;refine⟨rfl,?_⟩;refine Fit.aae (by omega) (by rw[aa3] at w;omega) ?_;exact⟨(i+1,s++(enc x).1),⟨by omega,p++(enc x).1,by rw[m,aaR],g3 q⟩,⟨bE,trivial⟩,⟨.inl ⟨_,rfl,.inl ⟨rfl,rfl⟩⟩,.inl ⟨_,rfl,.inl ⟨rfl,rfl⟩⟩,trivial⟩,bF a⟩
 ·have c:¬i<l.length:=by
   have h:¬(i:Int)<((l.map cs).length:Int):=c;rw[j] at h;omega
  obtain⟨q,e2⟩:=lY (gF c) m b;exact di [1000,1001] rfl rfl rfl rfl ⟨by show(_&&_)=true;rw[e0,q];rfl,j3 (WB k.tb) (by rw[e2,<-z];show _=bs++(_++_);rw[aaR]),rfl⟩
theorem XG {k:Kd}(hk:tI k) {r:Type}{f:Nat}{enc:r->Enc}{cs:r->List C}(l:List r) (hl:∀x,T.cR (cs x) 10=true) (hf:∀x∈l,fC k f (.ifo none k.t 1000 0::.pt (cs x) 0::[]) (enc x)) :
  fC k 75 [.ifo none k.t 1000 0,.pt [.sl (l.map cs)] 0,.fn f [] []] (bO k enc l):=by
 intro bs hb;obtain⟨fs,o,n⟩:=hk.siz;have hE:bO k enc l=bh (k.siz (l.map cs).length) (aS enc l):=by unfold bO;rw[aa3]
 rw[hE] at hb ⊢;have u:bs.length+(k.siz (l.map cs).length).1.length<=70368744177664:=by
  simp only[bh,yo] at hb;omega
 refine ak Tryz.func75 Ge rfl fun hw ho=>?_;have w:(l.map cs).length<=9223372036854775807:=by have h:=hw.2.1.1.1;simp only[maxLen] at h;exact h
 refine⟨hk.mks,?_⟩;refine⟨fs,o,?_⟩;refine cu [1000,1001] (n (l.map cs).length bs u) rfl rfl rfl rfl (fun v ⟨e,h⟩=>⟨e,by show(_&&_)=false;rw[h];rfl⟩) ?_;rintro v Mo ⟨e0,rfl,rfl⟩ _ _;refine⟨rfl,?_⟩;refine aB (fun h=>?_) (fun _=>?_)
 ·simp at h
 have d:(bs++(k.siz (l.map cs).length).1).length+(aS enc l).1.length<=70368744177664:=by
  simp only[bh,yo] at hb ⊢;omega
 generalize z:bs++(k.siz (l.map cs).length).1=b1 at d;have j:((l.map cs).length:Int)=l.length:=by simp
 refine bw l.length 31 [] b1 (fun _=>[]) (fun s=>Ff k.tb s) (fun i s=>∃p,s=b1++p/\aS enc l=bh (p,true) (aS enc (l.drop i))) ⟨[],by simp,by simp[bh]⟩ (ah rfl) trivial
  ⟨.inl ⟨_,rfl,.inl ⟨rfl,rfl⟩⟩,.inl ⟨_,rfl,.inl ⟨rfl,rfl⟩⟩,trivial⟩ (fun _=>rfl) (fun _=>rfl) ?_
 rintro i s hi ⟨p,m,b⟩ _ _ _;refine aM (fun a=>?_) (fun c=>?_)
 ·have a:i<l.length:=by
   have h:(i:Int)<((l.map cs).length:Int):=a;rw[j] at h;omega
  refine eU a fun x hx y hd=>?_;obtain⟨g1,g2,g3⟩:=js hd m b d;refine cD hx rfl (hl x) ?_;refine bW [1000,1001] (hf x y s g1) rfl rfl rfl rfl (fun v ⟨e,h⟩=>⟨e,by show(_&&_)=false;rw[g2 h,abq]⟩) ?_;rintro v Mo ⟨q,rfl,rfl⟩ _ _;refine⟨rfl,?_⟩;refine Fit.aae (by omega) (by rw[aa3] at w;omega) ?_;exact⟨(i+1,s++(enc x).1),⟨by omega,p++(enc x).1,by rw[m,aaR],g3 q⟩,⟨bE,trivial⟩,⟨.inl ⟨_,rfl,.inl ⟨rfl,rfl⟩⟩,.inl ⟨_,rfl,.inl ⟨rfl,rfl⟩⟩,trivial⟩,bF a⟩
 ·have c:¬i<l.length:=by
   have h:¬(i:Int)<((l.map cs).length:Int):=c;rw[j] at h;omega
  obtain⟨q,e2⟩:=lY (gF c) m b;exact di [1000,1001] rfl rfl rfl rfl ⟨by show(_&&_)=true;rw[e0,q];rfl,j3 (WB k.tb) (by rw[e2,<-z];show _=bs++(_++_);rw[aaR]),rfl⟩
theorem XH {k:Kd}(hk:tI k) {r:Type}{f:Nat}{enc:r->Enc}{cs:r->List C}(l:List r) (hl:∀x,T.cR (cs x) 7=true) (hf:∀x∈l,fC k f (.ifo none k.t 1000 0::.pt (cs x) 0::[]) (enc x)) :
  fC k 79 [.ifo none k.t 1000 0,.pt [.sl (l.map cs)] 0,.fn f [] []] (bO k enc l):=by
 intro bs hb;obtain⟨fs,o,n⟩:=hk.siz;have hE:bO k enc l=bh (k.siz (l.map cs).length) (aS enc l):=by unfold bO;rw[aa3]
 rw[hE] at hb ⊢;have u:bs.length+(k.siz (l.map cs).length).1.length<=70368744177664:=by
  simp only[bh,yo] at hb;omega
 refine ak Tryz.func79 Gi rfl fun hw ho=>?_;have w:(l.map cs).length<=9223372036854775807:=by have h:=hw.2.1.1.1;simp only[maxLen] at h;exact h
 refine⟨hk.mks,?_⟩;refine⟨fs,o,?_⟩;refine cu [1000,1001] (n (l.map cs).length bs u) rfl rfl rfl rfl (fun v ⟨e,h⟩=>⟨e,by show(_&&_)=false;rw[h];rfl⟩) ?_;rintro v Mo ⟨e0,rfl,rfl⟩ _ _;refine⟨rfl,?_⟩;refine aB (fun h=>?_) (fun _=>?_)
 ·simp at h
 have d:(bs++(k.siz (l.map cs).length).1).length+(aS enc l).1.length<=70368744177664:=by
  simp only[bh,yo] at hb ⊢;omega
 generalize z:bs++(k.siz (l.map cs).length).1=b1 at d;have j:((l.map cs).length:Int)=l.length:=by simp
 refine bw l.length 31 [] b1 (fun _=>[]) (fun s=>Ff k.tb s) (fun i s=>∃p,s=b1++p/\aS enc l=bh (p,true) (aS enc (l.drop i))) ⟨[],by simp,by simp[bh]⟩ (ah rfl) trivial
  ⟨.inl ⟨_,rfl,.inl ⟨rfl,rfl⟩⟩,.inl ⟨_,rfl,.inl ⟨rfl,rfl⟩⟩,trivial⟩ (fun _=>rfl) (fun _=>rfl) ?_
 rintro i s hi ⟨p,m,b⟩ _ _ _;refine aM (fun a=>?_) (fun c=>?_)
 ·have a:i<l.length:=by
   have h:(i:Int)<((l.map cs).length:Int):=a;rw[j] at h;omega
  refine eU a fun x hx y hd=>?_;obtain⟨g1,g2,g3⟩:=js hd m b d;refine cD hx rfl (hl x) ?_;refine bW [1000,1001] (hf x y s g1) rfl rfl rfl rfl (fun v ⟨e,h⟩=>⟨e,by show(_&&_)=false;rw[g2 h,abq]⟩) ?_;rintro v Mo ⟨q,rfl,rfl⟩ _ _;refine⟨rfl,?_⟩;refine Fit.aae (by omega) (by rw[aa3] at w;omega) ?_;exact⟨(i+1,s++(enc x).1),⟨by omega,p++(enc x).1,by rw[m,aaR],g3 q⟩,⟨bE,trivial⟩,⟨.inl ⟨_,rfl,.inl ⟨rfl,rfl⟩⟩,.inl ⟨_,rfl,.inl ⟨rfl,rfl⟩⟩,trivial⟩,bF a⟩
 ·have c:¬i<l.length:=by
   have h:¬(i:Int)<((l.map cs).length:Int):=c;rw[j] at h;omega
  obtain⟨q,e2⟩:=lY (gF c) m b;exact di [1000,1001] rfl rfl rfl rfl ⟨by show(_&&_)=true;rw[e0,q];rfl,j3 (WB k.tb) (by rw[e2,<-z];show _=bs++(_++_);rw[aaR]),rfl⟩
theorem XI {k:Kd}(hk:tI k) {r:Type}{f:Nat}{enc:r->Enc}{cs:r->List C}(l:List r) (hl:∀x,T.cR (cs x) 1=true) (hf:∀x∈l,fC k f (.ifo none k.t 1000 0::.pt (cs x) 0::[]) (enc x)) :
  fC k 81 [.ifo none k.t 1000 0,.pt [.sl (l.map cs)] 0,.fn f [] []] (bO k enc l):=by
 intro bs hb;obtain⟨fs,o,n⟩:=hk.siz;have hE:bO k enc l=bh (k.siz (l.map cs).length) (aS enc l):=by unfold bO;rw[aa3]
 rw[hE] at hb ⊢;have u:bs.length+(k.siz (l.map cs).length).1.length<=70368744177664:=by
  simp only[bh,yo] at hb;omega
 refine ak Tryz.func81 Gk rfl fun hw ho=>?_;have w:(l.map cs).length<=9223372036854775807:=by have h:=hw.2.1.1.1;simp only[maxLen] at h;exact h
 refine⟨hk.mks,?_⟩;refine⟨fs,o,?_⟩;refine cu [1000,1001] (n (l.map cs).length bs u) rfl rfl rfl rfl (fun v ⟨e,h⟩=>⟨e,by show(_&&_)=false;rw[h];rfl⟩) ?_;rintro v Mo ⟨e0,rfl,rfl⟩ _ _;refine⟨rfl,?_⟩;refine aB (fun h=>?_) (fun _=>?_)
 ·simp at h
 have d:(bs++(k.siz (l.map cs).length).1).length+(aS enc l).1.length<=70368744177664:=by
  simp only[bh,yo] at hb ⊢;omega
 generalize z:bs++(k.siz (l.map cs).length).1=b1 at d;have j:((l.map cs).length:Int)=l.length:=by simp
 refine bw l.length 31 [] b1 (fun _=>[]) (fun s=>Ff k.tb s) (fun i s=>∃p,s=b1++p/\aS enc l=bh (p,true) (aS enc (l.drop i))) ⟨[],by simp,by simp[bh]⟩ (ah rfl) trivial
  ⟨.inl ⟨_,rfl,.inl ⟨rfl,rfl⟩⟩,.inl ⟨_,rfl,.inl ⟨rfl,rfl⟩⟩,trivial⟩ (fun _=>rfl) (fun _=>rfl) ?_
 rintro i s hi ⟨p,m,b⟩ _ _ _;refine aM (fun a=>?_) (fun c=>?_)
 ·have a:i<l.length:=by
   have h:(i:Int)<((l.map cs).length:Int):=a;rw[j] at h;omega
  refine eU a fun x hx y hd=>?_;obtain⟨g1,g2,g3⟩:=js hd m b d;refine cD hx rfl (hl x) ?_;refine bW [1000,1001] (hf x y s g1) rfl rfl rfl rfl (fun v ⟨e,h⟩=>⟨e,by show(_&&_)=false;rw[g2 h,abq]⟩) ?_;rintro v Mo ⟨q,rfl,rfl⟩ _ _;refine⟨rfl,?_⟩;refine Fit.aae (by omega) (by rw[aa3] at w;omega) ?_;exact⟨(i+1,s++(enc x).1),⟨by omega,p++(enc x).1,by rw[m,aaR],g3 q⟩,⟨bE,trivial⟩,⟨.inl ⟨_,rfl,.inl ⟨rfl,rfl⟩⟩,.inl ⟨_,rfl,.inl ⟨rfl,rfl⟩⟩,trivial⟩,bF a⟩
 ·have c:¬i<l.length:=by
   have h:¬(i:Int)<((l.map cs).length:Int):=c;rw[j] at h;omega
  obtain⟨q,e2⟩:=lY (gF c) m b;exact di [1000,1001] rfl rfl rfl rfl ⟨by show(_&&_)=true;rw[e0,q];rfl,j3 (WB k.tb) (by rw[e2,<-z];show _=bs++(_++_);rw[aaR]),rfl⟩
theorem XJ {k:Kd}(hk:tI k) {r:Type}{f:Nat}{enc:r->Enc}{cs:r->List C}(l:List r) (hl:∀x,T.cR (cs x) 2=true) (hf:∀x∈l,fC k f (.ifo none k.t 1000 0::.pt (cs x) 0::[]) (enc x)) :
  fC k 83 [.ifo none k.t 1000 0,.pt [.sl (l.map cs)] 0,.fn f [] []] (bO k enc l):=by
 intro bs hb;obtain⟨fs,o,n⟩:=hk.siz;have hE:bO k enc l=bh (k.siz (l.map cs).length) (aS enc l):=by unfold bO;rw[aa3]
 rw[hE] at hb ⊢;have u:bs.length+(k.siz (l.map cs).length).1.length<=70368744177664:=by
  simp only[bh,yo] at hb;omega
 refine ak Tryz.func83 Gm rfl fun hw ho=>?_;have w:(l.map cs).length<=9223372036854775807:=by have h:=hw.2.1.1.1;simp only[maxLen] at h;exact h
 refine⟨hk.mks,?_⟩;refine⟨fs,o,?_⟩;refine cu [1000,1001] (n (l.map cs).length bs u) rfl rfl rfl rfl (fun v ⟨e,h⟩=>⟨e,by show(_&&_)=false;rw[h];rfl⟩) ?_;rintro v Mo ⟨e0,rfl,rfl⟩ _ _;refine⟨rfl,?_⟩;refine aB (fun h=>?_) (fun _=>?_)
 ·simp at h
 have d:(bs++(k.siz (l.map cs).length).1).length+(aS enc l).1.length<=70368744177664:=by
  simp only[bh,yo] at hb ⊢;omega
 generalize z:bs++(k.siz (l.map cs).length).1=b1 at d;have j:((l.map cs).length:Int)=l.length:=by simp
 refine bw l.length 31 [] b1 (fun _=>[]) (fun s=>Ff k.tb s) (fun i s=>∃p,s=b1++p/\aS enc l=bh (p,true) (aS enc (l.drop i))) ⟨[],by simp,by simp[bh]⟩ (ah rfl) trivial
  ⟨.inl ⟨_,rfl,.inl ⟨rfl,rfl⟩⟩,.inl ⟨_,rfl,.inl ⟨rfl,rfl⟩⟩,trivial⟩ (fun _=>rfl) (fun _=>rfl) ?_
 rintro i s hi ⟨p,m,b⟩ _ _ _;refine aM (fun a=>?_) (fun c=>?_)
 ·have a:i<l.length:=by
   have h:(i:Int)<((l.map cs).length:Int):=a;rw[j] at h;omega
  refine eU a fun x hx y hd=>?_;obtain⟨g1,g2,g3⟩:=js hd m b d;refine cD hx rfl (hl x) ?_;refine bW [1000,1001] (hf x y s g1) rfl rfl rfl rfl (fun v ⟨e,h⟩=>⟨e,by show(_&&_)=false;rw[g2 h,abq]⟩) ?_;rintro v Mo ⟨q,rfl,rfl⟩ _ _;refine⟨rfl,?_⟩;refine Fit.aae (by omega) (by rw[aa3] at w;omega) ?_;exact⟨(i+1,s++(enc x).1),⟨by omega,p++(enc x).1,by rw[m,aaR],g3 q⟩,⟨bE,trivial⟩,⟨.inl ⟨_,rfl,.inl ⟨rfl,rfl⟩⟩,.inl ⟨_,rfl,.inl ⟨rfl,rfl⟩⟩,trivial⟩,bF a⟩
 ·have c:¬i<l.length:=by
   have h:¬(i:Int)<((l.map cs).length:Int):=c;rw[j] at h;omega
  obtain⟨q,e2⟩:=lY (gF c) m b;exact di [1000,1001] rfl rfl rfl rfl ⟨by show(_&&_)=true;rw[e0,q];rfl,j3 (WB k.tb) (by rw[e2,<-z];show _=bs++(_++_);rw[aaR]),rfl⟩
theorem Us {k:Kd}(hk:tI k) {r:Type}{f:Nat}{enc:r->Enc}{cs:r->List C}(l:List r) (hl:∀x,T.cR (cs x) 7=true) (hf:∀x∈l,fC k f (.ifo none k.t 1000 0::.pt (cs x) 0::[]) (enc x)) :
  fC k 105 [.ifo none k.t 1000 0,.pt [.sl (l.map cs)] 0,.fn f [] []] (bO k enc l):=by
 intro bs hb;obtain⟨fs,o,n⟩:=hk.siz;have hE:bO k enc l=bh (k.siz (l.map cs).length) (aS enc l):=by unfold bO;rw[aa3]
 rw[hE] at hb ⊢;have u:bs.length+(k.siz (l.map cs).length).1.length<=70368744177664:=by
  simp only[bh,yo] at hb;omega
 refine ak Tryz.func105 DI rfl fun hw ho=>?_;have w:(l.map cs).length<=9223372036854775807:=by have h:=hw.2.1.1.1;simp only[maxLen] at h;exact h
 refine⟨hk.mks,?_⟩;refine⟨fs,o,?_⟩;refine cu [1000,1001] (n (l.map cs).length bs u) rfl rfl rfl rfl (fun v ⟨e,h⟩=>⟨e,by show(_&&_)=false;rw[h];rfl⟩) ?_;rintro v Mo ⟨e0,rfl,rfl⟩ _ _;refine⟨rfl,?_⟩;refine aB (fun h=>?_) (fun _=>?_)
 ·simp at h
 have d:(bs++(k.siz (l.map cs).length).1).length+(aS enc l).1.length<=70368744177664:=by
  simp only[bh,yo] at hb ⊢;omega
 generalize z:bs++(k.siz (l.map cs).length).1=b1 at d;have j:((l.map cs).length:Int)=l.length:=by simp
 refine bw l.length 31 [] b1 (fun _=>[]) (fun s=>Ff k.tb s) (fun i s=>∃p,s=b1++p/\aS enc l=bh (p,true) (aS enc (l.drop i))) ⟨[],by simp,by simp[bh]⟩ (ah rfl) trivial
  ⟨.inl ⟨_,rfl,.inl ⟨rfl,rfl⟩⟩,.inl ⟨_,rfl,.inl ⟨rfl,rfl⟩⟩,trivial⟩ (fun _=>rfl) (fun _=>rfl) ?_
 rintro i s hi ⟨p,m,b⟩ _ _ _;refine aM (fun a=>?_) (fun c=>?_)
 ·have a:i<l.length:=by
   have h:(i:Int)<((l.map cs).length:Int):=a;rw[j] at h;omega
  refine eU a fun x hx y hd=>?_;obtain⟨g1,g2,g3⟩:=js hd m b d;refine cD hx rfl (hl x) ?_;refine bW [1000,1001] (hf x y s g1) rfl rfl rfl rfl (fun v ⟨e,h⟩=>⟨e,by show(_&&_)=false;rw[g2 h,abq]⟩) ?_;rintro v Mo ⟨q,rfl,rfl⟩ _ _;refine⟨rfl,?_⟩;refine Fit.aae (by omega) (by rw[aa3] at w;omega) ?_;exact⟨(i+1,s++(enc x).1),⟨by omega,p++(enc x).1,by rw[m,aaR],g3 q⟩,⟨bE,trivial⟩,⟨.inl ⟨_,rfl,.inl ⟨rfl,rfl⟩⟩,.inl ⟨_,rfl,.inl ⟨rfl,rfl⟩⟩,trivial⟩,bF a⟩
 ·have c:¬i<l.length:=by
   have h:¬(i:Int)<((l.map cs).length:Int):=c;rw[j] at h;omega
  obtain⟨q,e2⟩:=lY (gF c) m b;exact di [1000,1001] rfl rfl rfl rfl ⟨by show(_&&_)=true;rw[e0,q];rfl,j3 (WB k.tb) (by rw[e2,<-z];show _=bs++(_++_);rw[aaR]),rfl⟩
theorem Ut {k:Kd}(hk:tI k) {r:Type}{f:Nat}{enc:r->Enc}{cs:r->List C}(l:List r) (hl:∀x,T.cR (cs x) 5=true) (hf:∀x∈l,fC k f (.ifo none k.t 1000 0::.pt (cs x) 0::[]) (enc x)) :
  fC k 107 [.ifo none k.t 1000 0,.pt [.sl (l.map cs)] 0,.fn f [] []] (bO k enc l):=by
 intro bs hb;obtain⟨fs,o,n⟩:=hk.siz;have hE:bO k enc l=bh (k.siz (l.map cs).length) (aS enc l):=by unfold bO;rw[aa3]
 rw[hE] at hb ⊢;have u:bs.length+(k.siz (l.map cs).length).1.length<=70368744177664:=by
  simp only[bh,yo] at hb;omega
 refine ak Tryz.func107 DK rfl fun hw ho=>?_;have w:(l.map cs).length<=9223372036854775807:=by have h:=hw.2.1.1.1;simp only[maxLen] at h;exact h
 refine⟨hk.mks,?_⟩;refine⟨fs,o,?_⟩;refine cu [1000,1001] (n (l.map cs).length bs u) rfl rfl rfl rfl (fun v ⟨e,h⟩=>⟨e,by show(_&&_)=false;rw[h];rfl⟩) ?_;rintro v Mo ⟨e0,rfl,rfl⟩ _ _;refine⟨rfl,?_⟩;refine aB (fun h=>?_) (fun _=>?_)
 ·simp at h
 have d:(bs++(k.siz (l.map cs).length).1).length+(aS enc l).1.length<=70368744177664:=by
  simp only[bh,yo] at hb ⊢;omega
 generalize z:bs++(k.siz (l.map cs).length).1=b1 at d;have j:((l.map cs).length:Int)=l.length:=by simp
 refine bw l.length 31 [] b1 (fun _=>[]) (fun s=>Ff k.tb s) (fun i s=>∃p,s=b1++p/\aS enc l=bh (p,true) (aS enc (l.drop i))) ⟨[],by simp,by simp[bh]⟩ (ah rfl) trivial
  ⟨.inl ⟨_,rfl,.inl ⟨rfl,rfl⟩⟩,.inl ⟨_,rfl,.inl ⟨rfl,rfl⟩⟩,trivial⟩ (fun _=>rfl) (fun _=>rfl) ?_
 rintro i s hi ⟨p,m,b⟩ _ _ _;refine aM (fun a=>?_) (fun c=>?_)
 ·have a:i<l.length:=by
   have h:(i:Int)<((l.map cs).length:Int):=a;rw[j] at h;omega
  refine eU a fun x hx y hd=>?_;obtain⟨g1,g2,g3⟩:=js hd m b d;refine cD hx rfl (hl x) ?_;refine bW [1000,1001] (hf x y s g1) rfl rfl rfl rfl (fun v ⟨e,h⟩=>⟨e,by show(_&&_)=false;rw[g2 h,abq]⟩) ?_;rintro v Mo ⟨q,rfl,rfl⟩ _ _;refine⟨rfl,?_⟩;refine Fit.aae (by omega) (by rw[aa3] at w;omega) ?_;exact⟨(i+1,s++(enc x).1),⟨by omega,p++(enc x).1,by rw[m,aaR],g3 q⟩,⟨bE,trivial⟩,⟨.inl ⟨_,rfl,.inl ⟨rfl,rfl⟩⟩,.inl ⟨_,rfl,.inl ⟨rfl,rfl⟩⟩,trivial⟩,bF a⟩
 ·have c:¬i<l.length:=by
   have h:¬(i:Int)<((l.map cs).length:Int):=c;rw[j] at h;omega
  obtain⟨q,e2⟩:=lY (gF c) m b;exact di [1000,1001] rfl rfl rfl rfl ⟨by show(_&&_)=true;rw[e0,q];rfl,j3 (WB k.tb) (by rw[e2,<-z];show _=bs++(_++_);rw[aaR]),rfl⟩
theorem Uu {k:Kd}(hk:tI k) {r:Type}{f:Nat}{enc:r->Enc}{cs:r->List C}(l:List r) (hl:∀x,T.cR (cs x) 8=true) (hf:∀x∈l,fC k f (.ifo none k.t 1000 0::.pt (cs x) 0::[]) (enc x)) :
  fC k 111 [.ifo none k.t 1000 0,.pt [.sl (l.map cs)] 0,.fn f [] []] (bO k enc l):=by
 intro bs hb;obtain⟨fs,o,n⟩:=hk.siz;have hE:bO k enc l=bh (k.siz (l.map cs).length) (aS enc l):=by unfold bO;rw[aa3]
 rw[hE] at hb ⊢;have u:bs.length+(k.siz (l.map cs).length).1.length<=70368744177664:=by
  simp only[bh,yo] at hb;omega
 refine ak Tryz.func111 uI rfl fun hw ho=>?_;have w:(l.map cs).length<=9223372036854775807:=by have h:=hw.2.1.1.1;simp only[maxLen] at h;exact h
 refine⟨hk.mks,?_⟩;refine⟨fs,o,?_⟩;refine cu [1000,1001] (n (l.map cs).length bs u) rfl rfl rfl rfl (fun v ⟨e,h⟩=>⟨e,by show(_&&_)=false;rw[h];rfl⟩) ?_;rintro v Mo ⟨e0,rfl,rfl⟩ _ _;refine⟨rfl,?_⟩;refine aB (fun h=>?_) (fun _=>?_)
 ·simp at h
 have d:(bs++(k.siz (l.map cs).length).1).length+(aS enc l).1.length<=70368744177664:=by
  simp only[bh,yo] at hb ⊢;omega
 generalize z:bs++(k.siz (l.map cs).length).1=b1 at d;have j:((l.map cs).length:Int)=l.length:=by simp
 refine bw l.length 31 [] b1 (fun _=>[]) (fun s=>Ff k.tb s) (fun i s=>∃p,s=b1++p/\aS enc l=bh (p,true) (aS enc (l.drop i))) ⟨[],by simp,by simp[bh]⟩ (ah rfl) trivial
  ⟨.inl ⟨_,rfl,.inl ⟨rfl,rfl⟩⟩,.inl ⟨_,rfl,.inl ⟨rfl,rfl⟩⟩,trivial⟩ (fun _=>rfl) (fun _=>rfl) ?_
 rintro i s hi ⟨p,m,b⟩ _ _ _;refine aM (fun a=>?_) (fun c=>?_)
 ·have a:i<l.length:=by
   have h:(i:Int)<((l.map cs).length:Int):=a;rw[j] at h;omega
  refine eU a fun x hx y hd=>?_;obtain⟨g1,g2,g3⟩:=js hd m b d;refine cD hx rfl (hl x) ?_;refine bW [1000,1001] (hf x y s g1) rfl rfl rfl rfl (fun v ⟨e,h⟩=>⟨e,by show(_&&_)=false;rw[g2 h,abq]⟩) ?_;rintro v Mo ⟨q,rfl,rfl⟩ _ _;refine⟨rfl,?_⟩;refine Fit.aae (by omega) (by rw[aa3] at w;omega) ?_;exact⟨(i+1,s++(enc x).1),⟨by omega,p++(enc x).1,by rw[m,aaR],g3 q⟩,⟨bE,trivial⟩,⟨.inl ⟨_,rfl,.inl ⟨rfl,rfl⟩⟩,.inl ⟨_,rfl,.inl ⟨rfl,rfl⟩⟩,trivial⟩,bF a⟩
 ·have c:¬i<l.length:=by
   have h:¬(i:Int)<((l.map cs).length:Int):=c;rw[j] at h;omega
  obtain⟨q,e2⟩:=lY (gF c) m b;exact di [1000,1001] rfl rfl rfl rfl ⟨by show(_&&_)=true;rw[e0,q];rfl,j3 (WB k.tb) (by rw[e2,<-z];show _=bs++(_++_);rw[aaR]),rfl⟩
theorem Lj {k:Kd}(hk:tI k) {u:Type}{f:Nat}{d:Int}{enc:u->Enc}{cs:u->List C}(l:List u) (hl:∀x,T.cR (cs x) 8=true) (hf:∀x∈l,fC k f (.ifo none k.t 1000 0::.pt (cs x) 0::[.pt [IC d] 0]) (enc x)) :
  fC k 111 [.ifo none k.t 1000 0,.pt [.sl (l.map cs)] 0,.fn f [] [.pt [IC d] 0]] (bO k enc l):=by
 intro bs hb;obtain⟨fs,q,o⟩:=hk.siz;have hE:bO k enc l=bh (k.siz (l.map cs).length) (aS enc l):=by unfold bO;rw[aa3]
 rw[hE] at hb ⊢;have w:bs.length+(k.siz (l.map cs).length).1.length<=70368744177664:=by
  simp only[bh,yo] at hb;omega
 refine ak Tryz.func111 uI rfl fun hw ho=>?_;have y:(l.map cs).length<=9223372036854775807:=by have h:=hw.2.1.1.1;simp only[maxLen] at h;exact h
 refine⟨hk.mks,?_⟩;refine⟨fs,q,?_⟩;refine cu [1000,1001] (o (l.map cs).length bs w) rfl rfl rfl rfl (fun v ⟨e,h⟩=>⟨e,by show(_&&_)=false;rw[h];rfl⟩) ?_;rintro v Mo ⟨e0,rfl,rfl⟩ _ _;refine⟨rfl,?_⟩;refine aB (fun h=>?_) (fun _=>?_)
 ·simp at h
 have j:(bs++(k.siz (l.map cs).length).1).length+(aS enc l).1.length<=70368744177664:=by
  simp only[bh,yo] at hb ⊢;omega
 generalize aa:bs++(k.siz (l.map cs).length).1=b1 at j;have m:((l.map cs).length:Int)=l.length:=by simp
 refine bw l.length 31 [] b1 (fun _=>[]) (fun s=>Ff k.tb s) (fun i s=>∃p,s=b1++p/\aS enc l=bh (p,true) (aS enc (l.drop i))) ⟨[],by simp,by simp[bh]⟩ (ah rfl) trivial
  ⟨.inl ⟨_,rfl,.inl ⟨rfl,rfl⟩⟩,.inl ⟨_,rfl,.inl ⟨rfl,rfl⟩⟩,trivial⟩ (fun _=>rfl) (fun _=>rfl) ?_
 rintro i s hi ⟨p,n,b⟩ _ _ _;refine aM (fun a=>?_) (fun c=>?_)
 ·have a:i<l.length:=by
   have h:(i:Int)<((l.map cs).length:Int):=a;rw[m] at h;omega
  refine eU a fun x hx z hd=>?_;obtain⟨g1,g2,g3⟩:=js hd n b j;refine cD hx rfl (hl x) ?_;refine bW [1000,1001] (hf x z s g1) rfl rfl rfl rfl (fun v ⟨e,h⟩=>⟨e,by show(_&&_)=false;rw[g2 h,abq]⟩) ?_;rintro v Mo ⟨r,rfl,rfl⟩ _ _;refine⟨rfl,?_⟩;refine Fit.aae (by omega) (by rw[aa3] at y;omega) ?_;exact⟨(i+1,s++(enc x).1),⟨by omega,p++(enc x).1,by rw[n,aaR],g3 r⟩,⟨bE,trivial⟩,⟨.inl ⟨_,rfl,.inl ⟨rfl,rfl⟩⟩,.inl ⟨_,rfl,.inl ⟨rfl,rfl⟩⟩,trivial⟩,bF a⟩
 ·have c:¬i<l.length:=by
   have h:¬(i:Int)<((l.map cs).length:Int):=c;rw[m] at h;omega
  obtain⟨r,e2⟩:=lY (gF c) n b;exact di [1000,1001] rfl rfl rfl rfl ⟨by show(_&&_)=true;rw[e0,r];rfl,j3 (WB k.tb) (by rw[e2,<-aa];show _=bs++(_++_);rw[aaR]),rfl⟩
theorem dV {a b:Enc}(h:a.2=false):(bh a b).2=false:=by show(_&&_)=false;rw[h];rfl
theorem aU {a b:Enc}(h:b.2=false):(bh a b).2=false:=by show(_&&_)=false;rw[h,abq]
theorem fD {a b:Enc}(h:a.2=true) (c:b.2=true):(bh a b).2=true:=by show(_&&_)=true;rw[h,c];rfl
theorem eD {bs:List UInt8}{a b:Enc}{B:Nat}(h:bs.length+(bh a b).1.length<=B):bs.length+a.1.length<=B:=by
 simp only[bh,yo] at h;omega
theorem dO {bs:List UInt8}{a b:Enc}{B:Nat}(h:bs.length+(bh a b).1.length<=B):(bs++a.1).length+b.1.length<=B:=by
 simp only[bh,yo] at h ⊢;omega
theorem Uv (bs a b:List UInt8):(bs++a)++b=bs++(a++b):=by simp
theorem Uw (bs a b c:List UInt8):((bs++a)++b)++c=bs++(a++(b++c)):=by simp
theorem Sr (bs a b c d e:List UInt8):((((bs++a)++b)++c)++d)++e=bs++(a++(b++(c++(d++e)))):=by simp
theorem XK (bs a b c d e f:List UInt8):(((((bs++a)++b)++c)++d)++e)++f=bs++(a++(b++(c++(d++(e++f))))):=by simp
section
variable {L:TL}{ρ:aV}{k:Kd}
theorem wX {PS:qw}{f:Nat}{args a:List C}{bs:List UInt8}{e:Enc}{K:TL->aV->C->Prop}(h:fC k f a e) (hb:bs.length+e.1.length<=70368744177664)
  (b:L.sub [1000,1001]=some (WB k.tb bs)) (o:(args.map fun c=>c.aaj.ren (bZ [1000,1001] 1000))=a) (m:e.2=false->PS.ps fG)
  (j:e.2=true->K (((L.aaf [1000,1001]).kills (rowsOf L [1000,1001])).puts [1000,1001] (WB k.tb (bs++e.1))) (fw (rowsOf L [1000,1001]) ρ) (.tup [])) (l:lW L [1000,1001] PS.hb=true:=by rfl):pR PZ PS f args L ρ K :=
 bW [1000,1001] (h bs hb) b rfl o rfl (fun v ⟨e,h⟩=>e▸m h) (fun v Mo ⟨n,d,p⟩ _ _=>by subst d p;exact⟨rfl,j n⟩) l
theorem zQ {PS:qw}{d:List Nat}{f:Nat}{args a:List C}{bs:List UInt8}{e:Enc}{K:TL->aV->C->Prop}(h:fC k f a e) (hb:bs.length+e.1.length<=70368744177664)
  (j:L.sub [1000,1001]=some (WB k.tb bs)) (b:x6 [1000,1001] d=true) (q:(args.map fun c=>c.aaj.ren (bZ [1000,1001] 1000))=a) (o:e.2=false->PS.ps fG)
  (m:e.2=true->K (((L.aaf [1000,1001]).kills (rowsOf L [1000,1001])).puts [1000,1001] (WB k.tb (bs++e.1))) (fw (rowsOf L [1000,1001]) ρ) (.tup [])) (n:lW L [1000,1001] PS.hb=true:=by rfl):nT PZ PS d f args L ρ K :=
 cu [1000,1001] (h bs hb) j (by simp only[xo];exact⟨⟨rfl,b⟩,rfl⟩) q rfl (fun v ⟨e,h⟩=>e▸o h) (fun v Mo ⟨p,l,r⟩ _ _=>by subst l r;exact⟨rfl,m p⟩) n
end
section
variable {k:Kd}(hk:tI k)
include hk
theorem Ux (n:Int):fC k 110 [.ifo none k.t 1000 0,.pt [IC n] 0] (k.num n):=by
 intro bs hb;obtain⟨fn,a,b,_⟩:=hk.num;refine ak Tryz.func110 DN rfl fun d c=>?_;refine⟨fn,a,?_⟩;refine wX (b n) hb rfl rfl (fun h=>⟨rfl,h⟩) fun h=>?_;exact di [1000,1001] rfl rfl rfl rfl ⟨h,rfl,rfl⟩
theorem XL (b:Bool):fC k 78 [.ifo none k.t 1000 0,.pt (Ip b) 0] (Tc k b):=by
 intro bs hb;have a:=(D5 hk [b]).pts (es:=Ip b) (os:=[0]) ⟨rfl,trivial⟩;refine ak Tryz.func78 Gh rfl fun d c=>?_;refine wX a hb rfl rfl (fun h=>⟨rfl,h⟩) fun h=>?_;exact di [1000,1001] rfl rfl rfl rfl ⟨h,rfl,rfl⟩
theorem pz (p:List Int):fC k 109 [.ifo none k.t 1000 0,.pt [.sl (tM p)] 0,.fn 110 [] []] (bO k k.num p):=Ur hk p (cs:=fun n=>[IC n]) (fun _=>rfl) fun x _=>Ux hk x
end
theorem Qk:∀(m:Nat) (v:Vl),Fe v<=m->∀d:Int,-4611686018427387904+(m:Int)<=d->d<=4611686018427387904->fC kW 146 [.ifo none kW.t 1000 0,.pt (oH v) 0,.pt [IC d] 0] (sL kW v d)
 | 0,.mk a b c n f e p l,u,d,h1,h2=>by rw[Fe] at u;omega
 | m+1,.mk a b c n f e p l,u,d,h1,h2=>by
  intro bs hb;have ih:∀x∈f,fC kW 146 [.ifo none kW.t 1000 0,.pt (oH x) 0,.pt [IC (d-1)] 0] (sL kW x (d-1)):=fun x hx=>Qk m x (by
   have:=yP hx;rw[Fe] at u;omega) (d-1) (by omega) (by omega)
  have hE:sL kW (.mk a b c n f e p l) d=bh (zK (decide (0<d)||kW.deep)) (bh (aS kW.num [a,b,c,n]) (bh (bO kW (fun x=>sL kW x (d-1)) f) (bh (aS (nM kW) [e]) (bh (bO kW kW.num p) (bO kW kW.num l))))):=by
   rw[sL,pq];rfl
  rw[hE] at hb ⊢;have j:=dO hb;have j:bs.length+(bh (aS kW.num [a,b,c,n]) (bh (bO kW (fun x=>sL kW x (d-1)) f) (bh (aS (nM kW) [e]) (bh (bO kW kW.num p) (bO kW kW.num l))))).1.length<=70368744177664:=by simpa[zK] using j
  have w1:=(Cn AQ [a,b,c,n]).pts (es:=oH (.mk a b c n f e p l)) (os:=[0,1,2,3]) ⟨rfl,rfl,rfl,rfl,trivial⟩;have w2:=(Lj AQ f (cs:=oH) (fun x=>by cases x;rfl) ih).at (es:=oH (.mk a b c n f e p l)) (off:=4) (j3 (fun q=>[C.sl q]) (rp f));have w3:=(D5 AQ [e]).pts (es:=oH (.mk a b c n f e p l)) (os:=[5]) ⟨rfl,trivial⟩;have w4:=(pz AQ p).at (es:=oH (.mk a b c n f e p l)) (off:=6) rfl;have w5:=(pz AQ l).at (es:=oH (.mk a b c n f e p l)) (off:=7) rfl;refine ak Tryz.func146 uJ rfl fun hw ho=>?_;refine aM (fun y=>?_) (fun y=>?_)
  ·have w:(zK (decide (0<d)||kW.deep)).2=true:=by show(decide (0<d)||false)=true;simp;exact y
   refine vM (uY true) rfl (fun h=>by cases h) fun _=>?_;refine zQ w1 (eD j) rfl rfl rfl (fun h=>⟨rfl,aU (dV h)⟩) fun o1=>?_;have s:=dO j;refine Fit.aae (by omega) (by omega) ?_;refine jy (Le (d-1)) rfl fun _=>?_;refine zQ w2 (eD s) rfl rfl rfl (fun h=>⟨rfl,aU (aU (dV h))⟩) fun o2=>?_;have o:=dO s;refine wX w3 (eD o) rfl rfl (fun h=>⟨rfl,aU (aU (aU (dV h)))⟩) fun o3=>?_;have r:=dO o;refine wX w4 (eD r) rfl rfl (fun h=>⟨rfl,aU (aU (aU (aU (dV h))))⟩) fun z=>?_;refine wX w5 (dO r) rfl rfl (fun h=>⟨rfl,aU (aU (aU (aU (aU h))))⟩) fun o5=>?_;exact di [1000,1001] rfl rfl rfl rfl ⟨fD w (fD o1 (fD o2 (fD o3 (fD z o5)))),j3 (WB kW.tb) (Sr _ _ _ _ _ _),rfl⟩
  ·refine vM (uY false) rfl (fun _=>⟨rfl,dV (by show(decide (0<d)||false)=false;simp;omega)⟩) fun h=>by cases h
theorem Ql:∀(m:Nat) (v:Vl),Fe v<=m->∀d:Int,-4611686018427387904+(m:Int)<=d->d<=4611686018427387904->fC kL 146 [.ifo none kL.t 1000 0,.pt (oH v) 0,.pt [IC d] 0] (sL kL v d)
 | 0,.mk a b c n f e p l,u,d,h1,h2=>by rw[Fe] at u;omega
 | m+1,.mk a b c n f e p l,u,d,h1,h2=>by
  intro bs hb;have ih:∀x∈f,fC kL 146 [.ifo none kL.t 1000 0,.pt (oH x) 0,.pt [IC (d-1)] 0] (sL kL x (d-1)):=fun x hx=>Ql m x (by
   have:=yP hx;rw[Fe] at u;omega) (d-1) (by omega) (by omega)
  have hE:sL kL (.mk a b c n f e p l) d=bh (zK (decide (0<d)||kL.deep)) (bh (aS kL.num [a,b,c,n]) (bh (bO kL (fun x=>sL kL x (d-1)) f) (bh (aS (nM kL) [e]) (bh (bO kL kL.num p) (bO kL kL.num l))))):=by
   rw[sL,pq];rfl
  rw[hE] at hb ⊢;have j:=dO hb;have j:bs.length+(bh (aS kL.num [a,b,c,n]) (bh (bO kL (fun x=>sL kL x (d-1)) f) (bh (aS (nM kL) [e]) (bh (bO kL kL.num p) (bO kL kL.num l))))).1.length<=70368744177664:=by simpa[zK] using j
  have w1:=(Cn AR [a,b,c,n]).pts (es:=oH (.mk a b c n f e p l)) (os:=[0,1,2,3]) ⟨rfl,rfl,rfl,rfl,trivial⟩;have z:=(Lj AR f (cs:=oH) (fun x=>by cases x;rfl) ih).at (es:=oH (.mk a b c n f e p l)) (off:=4) (j3 (fun q=>[C.sl q]) (rp f));have w3:=(D5 AR [e]).pts (es:=oH (.mk a b c n f e p l)) (os:=[5]) ⟨rfl,trivial⟩;have w4:=(pz AR p).at (es:=oH (.mk a b c n f e p l)) (off:=6) rfl;have w5:=(pz AR l).at (es:=oH (.mk a b c n f e p l)) (off:=7) rfl;refine ak Tryz.func146 uJ rfl fun hw ho=>?_;have w:(zK (decide (0<d)||kL.deep)).2=true:=by show(decide (0<d)||true)=true;simp
  refine aM (fun h0=>?_) (fun h0=>?_)
  all_goals
   refine vM (uY true) rfl (fun h=>by cases h) fun _=>?_;refine zQ w1 (eD j) rfl rfl rfl (fun h=>⟨rfl,aU (dV h)⟩) fun o1=>?_;have s:=dO j;refine Fit.aae (by omega) (by omega) ?_;refine jy (Le (d-1)) rfl fun _=>?_;refine zQ z (eD s) rfl rfl rfl (fun h=>⟨rfl,aU (aU (dV h))⟩) fun o2=>?_;have o:=dO s;refine wX w3 (eD o) rfl rfl (fun h=>⟨rfl,aU (aU (aU (dV h)))⟩) fun o3=>?_;have r:=dO o;refine wX w4 (eD r) rfl rfl (fun h=>⟨rfl,aU (aU (aU (aU (dV h))))⟩) fun y=>?_;refine wX w5 (dO r) rfl rfl (fun h=>⟨rfl,aU (aU (aU (aU (aU h))))⟩) fun o5=>?_;exact di [1000,1001] rfl rfl rfl rfl ⟨fD w (fD o1 (fD o2 (fD o3 (fD y o5)))),j3 (WB kL.tb) (Sr _ _ _ _ _ _),rfl⟩
structure XM (k:Kd):Prop where
 toKdOk:tI k
 val:∀v:Vl,Fe v<=4611686018427387904->fC k 146 [.ifo none k.t 1000 0,.pt (oH v) 0,.pt [IC 60] 0] (uO k v)
theorem XO:XM kW:={toKdOk:=AQ,val:=fun v h=>Qk _ v h 60 (by omega) (by omega)}
theorem XP:XM kL:={toKdOk:=AR,val:=fun v h=>Ql _ v h 60 (by omega) (by omega)}
def vsB (l:List Vl):Prop:=∀v∈l,Fe v<=4611686018427387904
def Vk (x:Ce):Prop:=Fe x.value<=4611686018427387904
def XQ (x:Ac):Prop:=vsB x.slots
def XR (x:Tk):Prop:=∀f∈x.frames,XQ f
def Fs (x:Wd):Prop:=(∀c∈x.cells,Vk c)/\(∀t∈x.tasks,XR t)/\∀l∈x.channels,vsB l
section
variable {k:Kd}(hk:XM k)
include hk
theorem Qm (v:Vl) (a:Fe v<=4611686018427387904):fC k 104 [.ifo none k.t 1000 0,.pt (oH v) 0] (uO k v):=by
 intro bs hb;refine ak Tryz.func104 DH rfl fun c b=>?_;refine bY (Le 60) rfl fun _=>?_;refine wX (hk.val v a) hb rfl rfl (fun h=>⟨rfl,h⟩) fun h=>?_;exact di [1000,1001] rfl rfl rfl rfl ⟨h,rfl,rfl⟩
theorem Uy (l:List Vl) (a:vsB l):fC k 82 [.ifo none k.t 1000 0,.pt (IV l) 0] (Qb k l):=by
 intro bs hb;refine ak Tryz.func82 Gl rfl fun d c=>?_;refine wX (Uu hk.toKdOk l (cs:=oH) (fun x=>by cases x;rfl) fun x b=>Qm hk x (a x b)) hb rfl rfl (fun h=>⟨rfl,h⟩) fun h=>?_;exact di [1000,1001] rfl rfl rfl rfl ⟨h,rfl,rfl⟩
theorem XS (x:Ce) (l:Vk x):fC k 76 [.ifo none k.t 1000 0,.pt (zk x) 0] (OP k x):=by
 intro bs hb;obtain⟨b,a,v⟩:=x;have f:=(D5 hk.toKdOk [b]).pts (es:=zk ⟨b,a,v⟩) (os:=[0]) ⟨rfl,trivial⟩;have j:=(Cn hk.toKdOk [a]).pts (es:=zk ⟨b,a,v⟩) (os:=[1]) ⟨rfl,trivial⟩;have d:=(Qm hk v l).at (es:=zk ⟨b,a,v⟩) (off:=2) (by cases v;rfl);refine ak Tryz.func76 Gf rfl fun p o=>?_;refine wX f (eD hb) rfl rfl (fun h=>⟨rfl,dV h⟩) fun e=>?_;have c:=dO hb;refine wX j (eD c) rfl rfl (fun h=>⟨rfl,aU (dV h)⟩) fun m=>?_;refine wX d (dO c) rfl rfl (fun h=>⟨rfl,aU (aU h)⟩) fun n=>?_;exact di [1000,1001] rfl rfl rfl rfl ⟨fD e (fD m n),j3 (WB k.tb) (Uw _ _ _ _),rfl⟩
theorem Uz (x:Ac) (f:XQ x):fC k 106 [.ifo none k.t 1000 0,.pt (Ep x) 0] (OQ k x):=by
 intro bs hb;have d:=(Cn hk.toKdOk [x.number,x.routine,x.block,x.index,x.dst]).pts (es:=Ep x) (os:=[0,1,2,3,4]) ⟨rfl,rfl,rfl,rfl,rfl,trivial⟩;have e:=(Uy hk x.slots f).at (es:=Ep x) (off:=5) rfl;have b:=(pz hk.toKdOk x.since).at (es:=Ep x) (off:=6) rfl;refine ak Tryz.func106 DJ rfl fun n m=>?_;refine zQ d (eD hb) rfl rfl rfl (fun h=>⟨rfl,dV h⟩) fun c=>?_;have a:=dO hb;refine wX e (eD a) rfl rfl (fun h=>⟨rfl,aU (dV h)⟩) fun j=>?_;refine wX b (dO a) rfl rfl (fun h=>⟨rfl,aU (aU h)⟩) fun l=>?_;exact di [1000,1001] rfl rfl rfl rfl ⟨fD c (fD j l),j3 (WB k.tb) (Uw _ _ _ _),rfl⟩
theorem UA (x:Ln):fC k 108 [.ifo none k.t 1000 0,.pt (K3 x) 0] (OT k x):=by
 intro bs hb;have b:=(Cn hk.toKdOk [x.frame,x.slot]).pts (es:=K3 x) (os:=[0,1]) ⟨rfl,rfl,trivial⟩;have c:=(D5 hk.toKdOk [x.excl,x.re,x.over]).pts (es:=K3 x) (os:=[2,3,4]) ⟨rfl,rfl,rfl,trivial⟩;refine ak Tryz.func108 DL rfl fun f e=>?_;refine zQ b (eD hb) rfl rfl rfl (fun h=>⟨rfl,dV h⟩) fun a=>?_;refine zQ c (dO hb) rfl rfl rfl (fun h=>⟨rfl,aU h⟩) fun d=>?_;exact di [1000,1001] rfl rfl rfl rfl ⟨fD a d,j3 (WB k.tb) (Uv _ _ _),rfl⟩
theorem XT (x:Tk) (p:XR x):fC k 80 [.ifo none k.t 1000 0,.pt (CC x) 0] (OU k x):=by
 intro bs hb;have o:=(Cn hk.toKdOk [x.state]).pts (es:=CC x) (os:=[0]) ⟨rfl,trivial⟩;have e:=(Us hk.toKdOk x.frames (cs:=Ep) (fun _=>rfl) fun y n=>Uz hk y (p y n)).at (es:=CC x) (off:=1) rfl;have q:=(Ut hk.toKdOk x.loans (cs:=K3) (fun _=>rfl) fun y _=>UA hk y).at (es:=CC x) (off:=2) rfl;have l:=(Cn hk.toKdOk [x.allocs,x.clock,x.next]).pts (es:=CC x) (os:=[3,4,5]) ⟨rfl,rfl,rfl,trivial⟩;have j:=(pz hk.toKdOk x.cells).at (es:=CC x) (off:=6) rfl;refine ak Tryz.func80 Gj rfl fun u v=>?_;refine wX o (eD hb) rfl rfl (fun h=>⟨rfl,dV h⟩) fun r=>?_;have c:=dO hb;refine wX e (eD c) rfl rfl (fun h=>⟨rfl,aU (dV h)⟩) fun f=>?_;have a:=dO c;refine wX q (eD a) rfl rfl (fun h=>⟨rfl,aU (aU (dV h))⟩) fun m=>?_;have b:=dO a;refine zQ l (eD b) rfl rfl rfl (fun h=>⟨rfl,aU (aU (aU (dV h)))⟩) fun d=>?_;refine wX j (dO b) rfl rfl (fun h=>⟨rfl,aU (aU (aU (aU h)))⟩) fun s=>?_;exact di [1000,1001] rfl rfl rfl rfl ⟨fD r (fD f (fD m (fD d s))),j3 (WB k.tb) (Sr _ _ _ _ _ _),rfl⟩
theorem XU (x:Ou):fC k 84 [.ifo none k.t 1000 0,.pt (OO x) 0] (Qc k x):=by
 intro bs hb;have b:=(Cn hk.toKdOk [x.task,x.number]).pts (es:=OO x) (os:=[0,1]) ⟨rfl,rfl,trivial⟩;refine ak Tryz.func84 Gn rfl fun d c=>?_;refine zQ b hb rfl rfl rfl (fun h=>⟨rfl,h⟩) fun a=>?_;exact di [1000,1001] rfl rfl rfl rfl ⟨a,rfl,rfl⟩
theorem UB (l n:List (List C)) (m:Int) (x:Wd) (j:Fs x):fC k 35 [.ifo none k.t 1000 0,.pt (.sl l::.sl n::IC m::R7 x) 0] (kI k x):=by
 intro bs hb;generalize a:(.sl l::.sl n::IC m::R7 x:List C)=es;have z:=(XG hk.toKdOk x.cells (cs:=zk) (fun y=>by obtain⟨_,_,v⟩:=y;cases v;rfl) fun y e=>XS hk y (j.1 y e)).at (es:=es) (off:=3) (by rw[<-a];rfl);have p:=(XF hk.toKdOk x.arenas (cs:=Ip) (fun _=>rfl) fun y _=>XL hk.toKdOk y).at (es:=es) (off:=4) (by rw[<-a];rfl);have w3:=(XH hk.toKdOk x.tasks (cs:=CC) (fun _=>rfl) fun y e=>XT hk y (j.2.1 y e)).at (es:=es) (off:=5) (by rw[<-a];rfl);have u:=(XI hk.toKdOk x.channels (cs:=IV) (fun _=>rfl) fun y e=>Uy hk y (j.2.2 y e)).at (es:=es) (off:=6) (by rw[<-a];rfl);have s:=(XJ hk.toKdOk x.outputs (cs:=OO) (fun _=>rfl) fun y _=>XU hk y).at (es:=es) (off:=7) (by rw[<-a];rfl);have w6:=(Cn hk.toKdOk [x.made,x.dropped,x.closed]).pts (es:=es) (os:=[8,9,10]) (by rw[<-a];exact⟨rfl,rfl,rfl,trivial⟩);refine ak Tryz.func35 Gb rfl fun hw ho=>?_;refine wX z (eD hb) rfl rfl (fun h=>⟨rfl,dV h⟩) fun o1=>?_;have f:=dO hb;refine wX p (eD f) rfl rfl (fun h=>⟨rfl,aU (dV h)⟩) fun r=>?_;have b:=dO f;refine wX w3 (eD b) rfl rfl (fun h=>⟨rfl,aU (aU (dV h))⟩) fun w=>?_;have c:=dO b;refine wX u (eD c) rfl rfl (fun h=>⟨rfl,aU (aU (aU (dV h)))⟩) fun o=>?_;have d:=dO c;refine wX s (eD d) rfl rfl (fun h=>⟨rfl,aU (aU (aU (aU (dV h))))⟩) fun o5=>?_;refine zQ w6 (dO d) rfl rfl rfl (fun h=>⟨rfl,aU (aU (aU (aU (aU h))))⟩) fun q=>?_;exact di [1000,1001] rfl rfl rfl rfl ⟨fD o1 (fD r (fD w (fD o (fD o5 q)))),j3 (WB k.tb) (XK _ _ _ _ _ _ _),rfl⟩
end
end Go.Fr.Tryz
namespace Go.Fr.Tryz
open Go Go.RowKit Go.Proofs Go.Fr Go.Fr.T Go.Fr.Api Go.Fr.Dm
theorem D6:∀(l:List Int) (h:Int),(∀x∈l,0<=x)->0<=h/\h<2147483647->0<=l.foldl pA h/\l.foldl pA h<2147483647
 | [],h,_,hb=>hb
 | x::l,h,a,hb=>D6 l _ (fun y b=>a y (by simp[b])) (yV hb.1 (a x (by simp)))
def jf (bs:List UInt8):Int:=Qn (ru bs)
theorem kg (bs:List UInt8):0<=jf bs/\jf bs<2147483647:=D6 _ _ (fun x a=>by
 simp only[ru,abh] at a;obtain⟨b,_,rfl⟩:=a;omega) (by omega)
theorem t67 (b:UInt8):CallsT PZ 67 [gR b] [] (iQ [] (.int .i64 b.toNat)):=by
 refine au Tryz.func67 Ol rfl fun a _=>?_;refine Fit.aae (by omega) (by have:=b.toNat_lt;omega) ?_;exact bK rfl rfl
theorem t66 (bs:List UInt8):CallsT PZ 66 [.sl (af bs),.fn 67 [] []] [] (iQ [] (IC (jf bs))):=by
 refine au Tryz.func66 Oj rfl fun f _=>?_;have q:=wR f.1;refine bw bs.length 10 [5] 7 (fun h=>[.int .i64 h]) (fun _=>[]) (fun k h=>0<=h/\h<2147483647/\(ru (bs.drop k)).foldl pA h=jf bs) ⟨by omega,by omega,rfl⟩
  (ah rfl) ⟨ah rfl,trivial⟩ trivial (fun _=>rfl) (fun _=>rfl) ?_
 rintro k h r ⟨l,s,d⟩ o _ e;refine aM (fun a=>?_) (fun c=>?_)
 ·have a:k<bs.length:=by simpa[af] using a
  obtain⟨b,hb,p⟩:=drop_cons a;rw[p] at d;obtain⟨j,n⟩:=yV (x:=b.toNat) l (by omega);have m:=b.toNat_lt;refine Rz hb ?_;refine Fit.aae (by omega) (by omega) ?_;refine bY (t67 b) rfl fun _=>?_;refine Fit.aae (by omega) (by omega) ?_;refine Fit.aae (by omega) (by omega) ?_;refine mr.mk (by omega) ?_;refine Fit.aae (by omega) (by omega) ?_;exact⟨(k+1,pA h b.toNat),⟨a,j,n,d⟩,⟨bE,ah rfl,trivial⟩,trivial,bF a⟩
 ·have c:¬k<bs.length:=by simpa[af] using c
  rw[gF c] at d;exact bK rfl (j3 (C.int .i64) d)
theorem Td (bs:List UInt8):CallsT PZ 23 [.sl (af bs)] [] (iQ [] (IC (jf bs))):=by
 refine au Tryz.func23 NN rfl fun a _=>?_;refine bY (t66 bs) rfl fun _=>?_;exact bK rfl rfl
theorem t47 (bs:List UInt8):CallsT PZ 47 [.sl (af bs)] [] (iQ [] (IC (jf bs))):=by
 refine au Tryz.func47 Oa rfl fun n _=>?_;have e:bs.length<=9223372036854775807:=wR n.1;refine bw bs.length 4 [3] (7:Int) (fun h=>[IC h]) (fun _=>[]) (fun k h=>(ru (bs.drop k)).foldl pA h=jf bs/\0<=h/\h<2147483647) ⟨rfl,by omega,by omega⟩ (ah rfl) ⟨ah rfl,trivial⟩ trivial (fun _=>rfl) (fun _=>rfl) ?_;rintro k h q ⟨a,f,p⟩ _ _ _;refine aM (fun b=>?_) (fun c=>?_)
 ·have b:k<bs.length:=by simpa[af] using b
  refine eU b fun x l o m=>?_;rw[m] at a;have j:=x.toNat_lt;refine Fit.aae (by omega) (by omega) ?_;refine Rz l ?_;refine Fit.aae (by omega) (by omega) ?_;refine Fit.aae (by omega) (by omega) ?_;refine Fit.aae (by omega) (by omega) ?_;refine mr.mk (by omega) ?_;have d:=yV (x:=x.toNat) f (by omega);refine Fit.aae (by omega) (by omega) ?_;exact⟨(k+1,pA h x.toNat),⟨b,a,d.1,d.2⟩,⟨bE,ah rfl,trivial⟩,trivial,bF b⟩
 ·have c:¬k<bs.length:=by simpa[af] using c
  rw[gF c] at a;exact bK rfl (j3 (C.int .i64) a)
theorem rz (a b:List UInt8):tP ⟨a.toArray⟩ ⟨b.toArray⟩=decide (a=b):=by simp[tP]
theorem t31 (a b:List UInt8):CallsT PZ 31 [.sl (af a),.sl (af b)] [] (iQ [] (.bool (decide (a=b)))):=by
 refine au Tryz.func31 NW rfl fun c _=>?_;refine m6.mk ⟨a,rfl,?_⟩;refine m6.mk ⟨b,rfl,?_⟩;exact bK rfl (j3 C.bool (rz a b))
def Qp (n:Int):UInt8:=UInt8.ofNat n.toNat
def lZ (bs:List UInt8):List UInt8:=[Qp (jf bs / 16777216),Qp (jf bs / 65536),Qp (jf bs / 256),Qp (jf bs)]
def fR (b:List UInt8):List UInt8:=b++lZ b
theorem lQ {n m:Int}(h:0<=m) (e:n=m):IntKind.wrap .u8 n=((Qp m).toNat:Int):=by
 subst e;simp only[IntKind.wrap,IntKind.bits,IntKind.signed,Qp,UInt8.toNat_ofNat'];simp;omega
theorem XW:∀bs:List UInt8,bs.length<=70368744177664->CallsT PZ 73 [.sl (af bs)] [] (iQ [.row 5 1 (af bs)] (.rw 1000))
 | [],hb=>by
  refine au Tryz.func73 Gd rfl fun c _=>?_;intro b _;refine aB (fun _=>?_) (fun _=>?_)
  ·exact VB 2 5 1 rfl rfl
  ·refine sn 0 rfl (by simp) ?_;exact zA [5] rfl rfl rfl rfl
 | x::l,hb=>by
  refine au Tryz.func73 Gd rfl fun c _=>?_;intro b a;refine aB (fun h=>?_) (fun _=>?_)
  ·rw[a (by simp[af])] at h;cases h
  ·refine sn 0 rfl (by omega) ?_;exact zA [5] rfl rfl rfl rfl
theorem UD (b:List UInt8):af b++af (lZ b)=af (fR b):=by simp[af,fR]
theorem t32 (bs:List UInt8) (hb:bs.length<=70368744177664):CallsT PZ 32 [.sl (af bs)] [] (iQ [.row 5 1 (af (fR bs))] (.rw 1000)):=by
 obtain⟨a,c⟩:=kg bs;refine au Tryz.func32 NX rfl fun d _=>?_;refine bY (Td bs) rfl fun _=>?_;refine callO [] [7] (XW bs hb) rfl rfl rfl rfl rfl fun _ _=>?_;refine⟨by decide,?_⟩;refine Fit.to (lQ (m:=jf bs / 16777216) (by omega) (Int.fdiv_eq_ediv_of_nonneg (b:=16777216) _ (by omega))) ?_;refine⟨by decide,?_⟩;refine Fit.to (lQ (m:=jf bs / 65536) (by omega) (Int.fdiv_eq_ediv_of_nonneg (b:=65536) _ (by omega))) ?_;refine⟨by decide,?_⟩;refine Fit.to (lQ (m:=jf bs / 256) (by omega) (Int.fdiv_eq_ediv_of_nonneg (b:=256) _ (by omega))) ?_;refine Fit.to (lQ (m:=jf bs) (by omega) rfl) ?_;refine sn (bs:=lZ bs) bs.length aO (by simp[lZ];omega) ?_;exact zA [7] rfl rfl (j3 (fun q=>[TO.row 5 1 q]) (UD bs)) rfl
theorem t24 (bs:List UInt8):CallsT PZ 24 [.sl (af bs)] [] (iQ [] (.sl (af (lZ bs)))):=by
 obtain⟨a,c⟩:=kg bs;refine au Tryz.func24 NP rfl fun d _=>?_;refine bY (t47 bs) rfl fun _=>?_;refine⟨by decide,?_⟩;refine Fit.to (lQ (m:=jf bs / 16777216) (by omega) (Int.fdiv_eq_ediv_of_nonneg (b:=16777216) _ (by omega))) ?_;refine⟨by decide,?_⟩;refine Fit.to (lQ (m:=jf bs / 65536) (by omega) (Int.fdiv_eq_ediv_of_nonneg (b:=65536) _ (by omega))) ?_;refine⟨by decide,?_⟩;refine Fit.to (lQ (m:=jf bs / 256) (by omega) (Int.fdiv_eq_ediv_of_nonneg (b:=256) _ (by omega))) ?_;refine Fit.to (lQ (m:=jf bs) (by omega) rfl) ?_;exact bK rfl rfl
def bM:List UInt8:=[76,83,1]
theorem YT:CallsT PZ 30 [] [] (iQ [] (.sl (af bM))):=by
 refine au Tryz.func30 NV rfl fun a _=>?_;exact bK rfl rfl
theorem Lm (a b:List UInt8):decide ((a.take b.length)=b)=decide (b <+: a):=by
 congr 1;exact propext ⟨fun h=>h▸List.take_prefix _ _,fun⟨t,h⟩=>by rw[<-h];simp⟩
theorem t29 (a b:List UInt8):CallsT PZ 29 [.sl (af a),.sl (af b)] [] (iQ [] (.bool (decide (b <+: a)))):=by
 refine au Tryz.func29 NU rfl fun d _=>?_;have c:(af a).length=a.length:=aO;have hb:(af b).length=b.length:=aO;refine aM (fun h=>?_) (fun h=>?_)
 ·rw[c,hb] at h;refine Bw.mk (abe 0) (by omega) (by rw[c,hb];exact h) eJ ?_;refine bY (t31 (a.take b.length) b) (j3 (fun q=>[C.sl q,C.sl (af b)]) (?_:((af a).drop 0).take (((af b).length:Int).toNat-0)=af (a.take b.length))) fun _=>?_
  ·rw[gG,hb];simp
  ·exact bK rfl (j3 C.bool (Lm a b))
 ·rw[c,hb] at h;refine bK rfl (j3 C.bool (?_:false=_))
  symm
  exact decide_eq_false fun q=>h (by have:=q.length_le;omega)
theorem YU (n:Nat) (b:n<=4611686018427387904):CallsT PZ 61 [IC n] [] (iQ [] (IC ((n+31) / 32:Nat))):=by
 refine au Tryz.func61 Oh rfl fun a _=>?_;refine Fit.aae (by omega) (by omega) ?_;refine mr.mk (by omega) ?_;refine Fit.to (m:=(((n+31) / 32:Nat):Int)) (by show IntKind.wrap .i64 (((n+31) / 32:Nat):Int)=_;exact bT (by omega) (by omega)) ?_;exact bK rfl rfl
def cH (b:List UInt8) (i:Nat):List UInt8:=(b.drop (32*i)).take 32
theorem Pb (b:List UInt8) (i:Nat):((af b).drop (min (32*i) b.length)).take (min (32*i+32) b.length-min (32*i) b.length)=af (cH b i):=by
 rw[gG];congr 1;unfold cH
 by_cases h:32*i<=b.length
 ·rw[Nat.min_eq_left h]
  by_cases a:32*i+32<=b.length
  ·rw[Nat.min_eq_left a];congr 1;omega
  ·rw[Nat.min_eq_right (by omega),abv (by simp),abv (by simp;omega)]
 ·have e:min (32*i) b.length=b.length:=Nat.min_eq_right (by omega);rw[e,List.drop_eq_nil_of_le (aa7 b.length),List.drop_eq_nil_of_le (by omega:b.length<=32*i)];simp
theorem XY (b:List UInt8) (i:Nat) (hi:i<=1125899906842624):CallsT PZ 62 [.sl (af b),IC i] [] (iQ [] (.sl (af (cH b i)))):=by
 refine au Tryz.func62 Gc rfl fun h _=>?_;have hb:(af b).length=b.length:=aO;have k:=wR h.1;have c:(if((af b).length:Int)<32*(i:Int) then((af b).length:Int) else 32*(i:Int))=((min (32*i) b.length:Nat):Int):=by
  rw[hb];split<;>omega
 have a:(if((af b).length:Int)<32*(i:Int)+32 then((af b).length:Int) else 32*(i:Int)+32)=((min (32*i+32) b.length:Nat):Int):=by
  rw[hb];split<;>omega
 have f:0<=(if((af b).length:Int)<32*(i:Int) then((af b).length:Int) else 32*(i:Int)):=by rw[c];omega
 have d:(if((af b).length:Int)<32*(i:Int) then((af b).length:Int) else 32*(i:Int))<=(if((af b).length:Int)<32*(i:Int)+32 then((af b).length:Int) else 32*(i:Int)+32):=by rw[c,a];omega
 have e:(if((af b).length:Int)<32*(i:Int)+32 then((af b).length:Int) else 32*(i:Int)+32)<=((af b).length:Int):=by rw[a,hb];omega
 have j:((af b).drop (if((af b).length:Int)<32*(i:Int) then((af b).length:Int) else 32*(i:Int)).toNat).take ((if((af b).length:Int)<32*(i:Int)+32 then((af b).length:Int) else 32*(i:Int)+32).toNat-(if((af b).length:Int)<32*(i:Int) then((af b).length:Int) else 32*(i:Int)).toNat)=af (cH b i):=by
  rw[c,a];exact Pb b i
 have wf:∀n:Nat,n<=b.length->(Lit.int .i64 (n:Int)).wf=true:=by
  intro n l;simp[Lit.wf,IntKind.min,IntKind.max,IntKind.bits,IntKind.signed];omega
 refine Fit.aae (by omega) (by omega) ?_;refine⟨(j3 (fun q=>(Lit.int .i64 q).wf) c).trans (wf _ (Nat.min_le_right _ _)),?_⟩;refine Fit.aae (by omega) (by omega) ?_;refine Fit.aae (by omega) (by omega) ?_;refine⟨(j3 (fun q=>(Lit.int .i64 q).wf) a).trans (wf _ (Nat.min_le_right _ _)),?_⟩;refine Bw.mk f d e eJ ?_;exact bK rfl (j3 C.sl j)
end Go.Fr.Tryz
namespace Go.Fr.Tryz
open Go Go.RowKit Go.Proofs Go.Fr Go.Fr.T Go.Fr.Api
theorem Qq:∀{bs:List Own}{n:Nat},Eo bs [n]->∃g t cs,bs=[.box g (t+1) cs]/\cs.length=n
 | [],_,h=>h.elim
 | [o],n,h=>by
  cases o with
  | row=>exact h.1.elim
  | box g t cs =>
   cases t with
   | zero=>exact h.1.elim
   | succ t=>exact⟨g,t,cs,rfl,h.1⟩
 | _::_::_,_,h=>h.2.elim
theorem qo.mono {P:Program}{H:Nat}{PS PS':Value->Prop}{ns:List Nat}{out:Value->List (List Value)}(h:qo P H PS ns out) (c:∀v,PS' v->PS v):qo P H PS' ns out :=
 ⟨h.inv,h.idle,fun F bs v a w b=>h.caught F bs v a w (c v b)⟩
def Lp (v:Value):List (List Value):=[[.bool false]]
theorem Sv (bs:List Own) (w:World) (hb:Eo bs [1]):CallsD PZ 74 (bs.map nL).toArray .returning w fun e b w'=>e=.returned (.tuple #[])/\b=.returning/\w'=w:=by
 have c:Tryz.f74.ntmps=15:=by kernel_rfl
 have f:Tryz.f74.results=#[]:=by kernel_rfl
 obtain⟨g,t,cs,rfl,_⟩:=Qq hb;refine callsD_of_wpS Tryz.func74 rfl fun a cs d=>?_;apply wpS_seq;apply wpS_region;simp[wpOpsS,go_sem,recoverD,d,c,Exit.thenS,nL];apply wpS_seq;apply wpS_region;simp[wpOpsS,go_sem,Exit.thenS];refine wpS_cond (t:=false) (by simp[Act.eval,Array.replicate]) ?_;simp only[aaX,abn];refine wpS_of_wp (wp_skip ?_);cases a
 simp_all [bodyPostS,results]
theorem wY:qo PZ 74 (fun v=>v=fG) [1] Lp:=by
 refine BV Tryz.func74 Ow rfl Sv ?_;rintro F bs v rfl hb;obtain⟨g,t,cs,rfl,b⟩:=Qq hb
 match cs,b with
 | [a],_ =>
  (try intro c)<;>(try intro d)<;>exact rfl
def uQ (c a:List (List C)) (b:Int) (x:Wd):List C:=.sl c::.sl a::IC b::R7 x
section
variable {L:TL}{ρ:aV}
theorem Co (ks:List Nat) {f:Nat}{args a:List C}{K:TL->aV->C->Prop}{R:List TO->C->Prop}{Lin Lin':List TO}(h:CallsT PZ f a Lin' R) (e:L.sub ks=some Lin)
  (d:(T.bJ ks&&T.mE L ks ks&&aT Lin ks ks)=true) (l:(args.map fun c=>c.aaj.ren (bZ ks 1000))=a) (m:Lin.map (TO.aag (C.ren (bZ ks 1000)))=Lin')
  (k:∀v Mo,R Mo v->Wf v->(∀o∈Mo,o.Wf)->ks.length=Mo.length/\K (((L.aaf ks).kills (rowsOf L ks)).puts ks (Mo.map (TO.aag (C.ren (aZ ks))))) (fw (rowsOf L ks) ρ) (v.ren (aZ ks)).slt):oZ PZ f args L ρ K:=by
 subst l m;simp only[xo] at d;obtain⟨⟨b,j⟩,c3⟩:=d;exact .mk ⟨[],ks,ks,L,Lin,_,.inl rfl,e,b,b,j,c3,h,k⟩
end
def EB (bs:List UInt8):List TO:=[.box 102 [.own 1001 0],.box 108 [.rw 1002,IC 0,.int .i8 0],.row 5 1 (af bs)]
theorem t49 (b f:List (List C)) (d:Int) (x:Wd) (k:Fs x) (bs:List UInt8) (hb:bs.length+(kI kW x).1.length<=70368744177664) :
  CallsTX PZ 49 [.own 1000 0,.pt (uQ b f d x) 0] (EB bs) (fun Mo c=>(kI kW x).2=true/\Mo=EB (bs++(kI kW x).1)/\c=.tup []) (fun v=>v=fG/\(kI kW x).2=false):=by
 have a:=UB XO b f d x k bs hb;generalize kI kW x=e at a ⊢;obtain⟨p,n⟩:=e;unfold uQ;generalize m:(.sl b::.sl f::IC d::R7 x:List C)=es at a ⊢;refine ak Tryz.func49 Oc rfl fun o l=>?_;refine bW [1001,1002] a rfl rfl rfl rfl (fun v h=>h) ?_;rintro v Mo ⟨j,rfl,rfl⟩ _ _;refine⟨rfl,?_⟩;exact di [1000,1001,1002] rfl rfl rfl rfl ⟨j,rfl,rfl⟩
end Go.Fr.Tryz
