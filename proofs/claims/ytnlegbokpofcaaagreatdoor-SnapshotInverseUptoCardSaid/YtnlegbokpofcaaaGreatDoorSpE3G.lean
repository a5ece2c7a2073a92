/- Part of the proofs of the statements of this seat. -/
import Derived.Test.YtnlegbokpofcaaaGreatDoorSpT5G
import Derived.Test.YtnlegbokpofcaaaGreatDoorSpT8G
import Derived.Test.YtnlegbokpofcaaaGreatDoorSpW1G
import Derived.Test.YtnlegbokpofcaaaGreatDoorFW3
set_option maxRecDepth 10000
set_option linter.unusedVariables false
set_option linter.unusedSimpArgs false
namespace Go.Fr.Tryz
open Go Go.RowKit Go.Proofs Go.Fr Go.Fr.T Go.Fr.Api
structure tY (k:Kd):Prop where
 num:∃f,oV PZ k.t "leasehold/snapshot.num"=some f/\(∀n,fR k f [.own 1000 0,.pt [IC n] 0] (k.num n))/\∀n,XY k f n
 siz:∃f,oV PZ k.t "leasehold/snapshot.size"=some f/\∀n:Nat,Vw k f [.own 1000 0,IC n] (k.siz n) (IC n)
 mkn:PW Hq k.t "leasehold/snapshot.num"=true
 mks:PW Hq k.t "leasehold/snapshot.size"=true
theorem Bn:tY kW:=⟨⟨167,by kernel_rfl,XU,Uk⟩,⟨168,by kernel_rfl,XV⟩,rfl,rfl⟩
theorem Bo:tY kL:=⟨⟨169,by kernel_rfl,Uj,Ul⟩,⟨170,by kernel_rfl,XW⟩,rfl,rfl⟩
theorem FB {l:List C}(h:dZ l=true) (n:Nat):dZ (l.take n)=true:=jo.2 fun c a=>jo.1 h c (List.mem_of_mem_take a)
theorem FC {l:List C}(h:dZ l=true) (n:Nat):dZ (l.drop n)=true:=jo.2 fun c a=>jo.1 h c (List.mem_of_mem_drop a)
theorem GR {F:aF}{L:Loc}{es es':List C}{off:Nat}{v:Value}(e:(es.drop off).take es'.length=es') (h:Rel F L (.pt es off) v):Rel F L (.pt es' 0) v:=by
 simp only[Rel] at h ⊢;obtain⟨b,o,vs,rfl,⟨c,d,t,l,hb,n,m⟩,j,f⟩:=h;refine⟨b,o,(vs.drop off).take es'.length,rfl,⟨c+off,d,t,l,hb,by omega,fun i v a=>?_⟩,?_,?_⟩
 ·rw[abo] at a;split at a
  case isFalse=>cases a
  rw[abm] at a;have:=m _ _ a
  rwa [<-Nat.add_assoc] at this
 ·rw[<-e];exact FB (FC j off) _
 ·have:=(f.drop off).take es'.length
  rwa [e] at this
theorem GS {P:Program}{f:Nat}{args a:List C}{Lin:List TO}{R:List TO->C->Prop}{Pp:Value->Prop}(h:CallsTX P f args Lin R Pp) (d:∀F L vs,aG F L a vs->aG F L args vs):CallsTX P f a Lin R Pp :=
 ⟨fun F Li vs e c b=>h.out F Li vs e c (d _ _ _ b)⟩
theorem Eh {F:aF}{L:Loc}{a b:List C}{c l:C}(m:∀v,Rel F L c v->Rel F L l v):∀{vs:List Value},aG F L (a++c::b) vs->aG F L (a++l::b) vs:=by
 induction a with
 | nil =>
  intro vs h;simp only[aa5,aG] at h ⊢;obtain⟨v,e,rfl,j,f⟩:=h;exact⟨v,e,rfl,m v j,f⟩
 | cons d a n =>
  intro vs h;simp only[aaV,aG] at h ⊢;obtain⟨v,e,rfl,j,f⟩:=h;exact⟨v,e,rfl,j,n f⟩
theorem fR.at {k:Kd}{f:Nat}{b:C}{ca:List C}{es es':List C}{off:Nat}{e:Enc}(h:fR k f (b::.pt es' 0::ca) e) (j:(es.drop off).take es'.length=es'):fR k f (b::.pt es off::ca) e :=
 fun bs hb=>GS (h bs hb) fun F L vs c=>Eh (a:=[b]) (fun v d=>GR j d) c
def GU (es:List C):List Nat->List C->Prop
 | o::os,c::cs=>es[o]?=some c/\GU es os cs
 | [],[]=>True
 | _,_=>False
theorem Ei {F:aF}{a:Option Addr}{sz:Nat}{es:List C}:∀{os:List Nat}{cs:List C}{i:Nat},GU es os cs->gS F a sz i (os.map fun o=>[.pt es o])->gS F a sz i (cs.map fun c=>[.pt [c] 0])
 | [],[],i,_,h=>by simp only[abL,gS]
 | o::os,c::cs,i,b,h=>by
  simp only[aaU,gS] at h ⊢;obtain⟨⟨vs,m,f,p,e⟩,n⟩:=h;refine⟨⟨vs,m,f,rfl,?_⟩,Ei b.2 n⟩;simp only[aG] at e ⊢;obtain⟨v,d,rfl,j,l⟩:=e;refine⟨v,d,rfl,GR (es':=[c]) ?_ j,l⟩;exact take_one b.1
 | [],_::_,i,b,h=>b.elim
 | _::_,[],i,b,h=>b.elim
theorem Bp {es:List C}:∀{os:List Nat}{cs:List C},GU es os cs->os.length=cs.length
 | [],[],_=>rfl
 | o::os,c::cs,h=>by simp[Bp h.2]
theorem fR.pts {k:Kd}{f:Nat}{d:C}{es:List C}{os:List Nat}{cs:List C}{e:Enc}(h:fR k f [d,.sl (cs.map fun c=>[.pt [c] 0])] e) (l:GU es os cs):fR k f [d,.sl (os.map fun o=>[.pt es o])] e :=
 fun bs hb=>GS (h bs hb) fun F L vs q=>Eh (a:=[d]) (b:=[]) (fun v n=>by
  simp only[Rel] at n ⊢;obtain⟨a,c,rfl,p,s,m,sz,u⟩:=n;have j:=Bp l;simp only[aa6] at p s m ⊢;refine⟨a,c,by rw[j],by omega,by omega,fun e=>?_,sz,Ei l u⟩;obtain⟨t,r⟩:=m e;have:os=[]:=by simpa using t
  subst this;have:cs=[]:=abh (by simpa using j.symm);subst this;exact⟨rfl,r⟩) q
theorem Ly {a b:Enc}(p:List UInt8) (h:a.2=true):bD (p,true) (bD a b)=bD (p++a.1,true) b:=by
 obtain⟨q,y⟩:=a;simp only at h;subst h;simp[bD]
theorem LC {a b:Enc}(p:List UInt8) (h:a.2=false):(bD (p,true) (bD a b)).2=false:=by simp[bD,h]
theorem jJ {b:Type}{f:b->Enc}{l:List b}{k:Nat}{x:b}{bs s p:List UInt8}(c:l.drop k=x::l.drop (k+1)) (e:s=bs++p) (a:aV f l=bD (p,true) (aV f (l.drop k))) (hb:bs.length+(aV f l).1.length<=70368744177664) :
  s.length+(f x).1.length<=70368744177664/\((f x).2=false->(aV f l).2=false)/\((f x).2=true->aV f l=bD (p++(f x).1,true) (aV f (l.drop (k+1)))):=by
 rw[c] at a;have d:aV f (x::l.drop (k+1))=bD (f x) (aV f (l.drop (k+1))):=rfl;rw[d] at a;refine⟨?_,fun h=>by rw[a];exact LC p h,fun h=>by rw[a,Ly p h]⟩;rw[a] at hb;rw[e];simp only[bD,aaR] at hb ⊢;omega
theorem mG {b:Type}{f:b->Enc}{l:List b}{k:Nat}{bs s p:List UInt8}(c:l.drop k=[]) (d:s=bs++p) (a:aV f l=bD (p,true) (aV f (l.drop k))):(aV f l).2=true/\s=bs++(aV f l).1:=by
 rw[c] at a;rw[a,d];simp[bD,aV,Mz]
section
variable {k:Kd}(hk:tY k)
include hk
theorem CD (ns:List Int):fR k 85 [.ifo none k.t 1000 0,.sl ((ns.map IC).map fun c=>[.pt [c] 0])] (aV k.num ns):=by
 intro bs hb;obtain⟨fn,n,m,_⟩:=hk.num;rw[abG];refine au Tryz.func85 Gx rfl fun u ho=>?_;have w:=bA u.2.1;have f:((ns.map ((fun c=>[C.pt [c] 0])∘IC)).length:Int)=ns.length:=by simp
 refine aZ ns.length 8 [] bs (fun _=>[]) (fun s=>Fv k.tb s) (fun i s=>∃p,s=bs++p/\aV k.num ns=bD (p,true) (aV k.num (ns.drop i))) ⟨[],by simp,by simp[bD]⟩ (aj rfl) trivial
  ⟨.inl ⟨_,rfl,.inl ⟨rfl,rfl⟩⟩,.inl ⟨_,rfl,.inl ⟨rfl,rfl⟩⟩,trivial⟩ (fun _=>rfl) (fun _=>rfl) ?_
 rintro i s hi ⟨p,j,b⟩ _ _ _;refine aK (fun a=>?_) (fun d=>?_)
 ·have a:i<ns.length:=by
   have h:(i:Int)<((ns.map ((fun c=>[C.pt [c] 0])∘IC)).length:Int):=a;rw[f] at h;omega
  refine fC a fun x q r hd=>?_;obtain⟨z,g2,o⟩:=jJ hd j b hb;refine bw q rfl rfl ?_;refine⟨fn,n,?_⟩;refine ck [1000,1001] (m x s z) rfl rfl rfl rfl (fun v ⟨e,h⟩=>⟨e,g2 h⟩) ?_;rintro v Mo ⟨l,rfl,rfl⟩ _ _;refine⟨rfl,?_⟩;refine Fit.aad (by omega) (by omega) ?_;exact⟨(i+1,s++(k.num x).1),⟨by omega,p++(k.num x).1,by rw[j,aaT],o l⟩,⟨bn,trivial⟩,⟨.inl ⟨_,rfl,.inl ⟨rfl,rfl⟩⟩,.inl ⟨_,rfl,.inl ⟨rfl,rfl⟩⟩,trivial⟩,bq a⟩
 ·have d:¬i<ns.length:=by
   have h:¬(i:Int)<((ns.map ((fun c=>[C.pt [c] 0])∘IC)).length:Int):=d;rw[f] at h;omega
  obtain⟨l,y⟩:=mG (gU d) j b;exact dK [1000,1001] rfl rfl rfl rfl ⟨l,j3 (WB k.tb) y,rfl⟩
theorem Ej (ns:List Bool):fR k 103 [.ifo none k.t 1000 0,.sl ((ns.map C.bool).map fun c=>[.pt [c] 0])] (aV (oe k) ns):=by
 intro bs hb;obtain⟨fn,o,_,n⟩:=hk.num;rw[abG];refine au Tryz.func103 DT rfl fun w ho=>?_;have y:=bA w.2.1;have f:((ns.map ((fun c=>[C.pt [c] 0])∘C.bool)).length:Int)=ns.length:=by simp
 refine aZ ns.length 9 [] bs (fun _=>[]) (fun s=>Fv k.tb s) (fun i s=>∃p,s=bs++p/\aV (oe k) ns=bD (p,true) (aV (oe k) (ns.drop i))) ⟨[],by simp,by simp[bD]⟩ (aj rfl) trivial
  ⟨.inl ⟨_,rfl,.inl ⟨rfl,rfl⟩⟩,.inl ⟨_,rfl,.inl ⟨rfl,rfl⟩⟩,trivial⟩ (fun _=>rfl) (fun _=>rfl) ?_
 rintro i s hi ⟨p,l,b⟩ _ _ _;refine aK (fun a=>?_) (fun d=>?_)
 ·have a:i<ns.length:=by
   have h:(i:Int)<((ns.map ((fun c=>[C.pt [c] 0])∘C.bool)).length:Int):=a;rw[f] at h;omega
  refine fC a fun x r u hd=>?_;obtain⟨g1,g2,q⟩:=jJ hd l b hb;refine bw r rfl rfl ?_;refine af (fun j=>?_) (fun j=>?_)
  all_goals
   subst j;refine⟨fn,o,?_⟩;refine ck [1000,1001,6] (n _ s g1) rfl rfl rfl rfl (fun v ⟨e,h⟩=>⟨e,g2 h⟩) ?_;rintro v Mo ⟨m,rfl,rfl⟩ _ _;refine⟨rfl,?_⟩
  ·refine vV (u9 true) rfl (fun h=>by cases h) fun _=>?_;refine⟨rfl,?_⟩;refine Fit.aad (by omega) (by omega) ?_;exact⟨(i+1,s++(oe k true).1),⟨by omega,p++(oe k true).1,by rw[l,aaT],q m⟩,⟨bn,trivial⟩,⟨.inl ⟨_,rfl,.inl ⟨rfl,rfl⟩⟩,.inl ⟨_,rfl,.inl ⟨rfl,rfl⟩⟩,trivial⟩,bq a⟩
  ·refine vV (u9 true) rfl (fun h=>by cases h) fun _=>?_;refine⟨rfl,?_⟩;refine Fit.aad (by omega) (by omega) ?_;exact⟨(i+1,s++(oe k false).1),⟨by omega,p++(oe k false).1,by rw[l,aaT],q m⟩,⟨bn,trivial⟩,⟨.inl ⟨_,rfl,.inl ⟨rfl,rfl⟩⟩,.inl ⟨_,rfl,.inl ⟨rfl,rfl⟩⟩,trivial⟩,bq a⟩
 ·have d:¬i<ns.length:=by
   have h:¬(i:Int)<((ns.map ((fun c=>[C.pt [c] 0])∘C.bool)).length:Int):=d;rw[f] at h;omega
  obtain⟨m,z⟩:=mG (gU d) l b;exact dK [1000,1001] rfl rfl rfl rfl ⟨m,j3 (WB k.tb) z,rfl⟩
end
theorem Uz {k:Kd}(hk:tY k) {z:Type}{f:Nat}{enc:z->Enc}{cs:z->List C}(l:List z) (hl:∀x,T.dM (cs x) 1=true) (hf:∀x∈l,fR k f (.ifo none k.t 1000 0::.pt (cs x) 0::[]) (enc x)) :
  fR k 109 [.ifo none k.t 1000 0,.pt [.sl (l.map cs)] 0,.fn f [] []] (bT k enc l):=by
 intro bs hb;obtain⟨fs,w,m⟩:=hk.siz;have hE:bT k enc l=bD (k.siz (l.map cs).length) (aV enc l):=by unfold bT;rw[aa6]
 rw[hE] at hb ⊢;have n:bs.length+(k.siz (l.map cs).length).1.length<=70368744177664:=by
  simp only[bD,aaR] at hb;omega
 refine au Tryz.func109 DZ rfl fun hw ho=>?_;have y:(l.map cs).length<=9223372036854775807:=by have h:=hw.2.1.1.1;simp only[maxLen] at h;exact h
 refine⟨hk.mks,?_⟩;refine⟨fs,w,?_⟩;refine cH [1000,1001] (m (l.map cs).length bs n) rfl rfl rfl rfl (fun v ⟨e,h⟩=>⟨e,by show(_&&_)=false;rw[h];rfl⟩) ?_;rintro v Mo ⟨e0,rfl,rfl⟩ _ _;refine⟨rfl,?_⟩;refine af (fun h=>?_) (fun _=>?_)
 ·simp at h
 have j:(bs++(k.siz (l.map cs).length).1).length+(aV enc l).1.length<=70368744177664:=by
  simp only[bD,aaR] at hb ⊢;omega
 generalize u:bs++(k.siz (l.map cs).length).1=b1 at j;have d:((l.map cs).length:Int)=l.length:=by simp
 refine aZ l.length 31 [] b1 (fun _=>[]) (fun s=>Fv k.tb s) (fun i s=>∃p,s=b1++p/\aV enc l=bD (p,true) (aV enc (l.drop i))) ⟨[],by simp,by simp[bD]⟩ (aj rfl) trivial
  ⟨.inl ⟨_,rfl,.inl ⟨rfl,rfl⟩⟩,.inl ⟨_,rfl,.inl ⟨rfl,rfl⟩⟩,trivial⟩ (fun _=>rfl) (fun _=>rfl) ?_
 rintro i s hi ⟨p,o,b⟩ _ _ _;refine aK (fun a=>?_) (fun c=>?_)
 ·have a:i<l.length:=by
   have h:(i:Int)<((l.map cs).length:Int):=a;rw[d] at h;omega
  refine fC a fun x hx q hd=>?_;obtain⟨g1,g2,g3⟩:=jJ hd o b j;refine bw hx rfl (hl x) ?_;refine ck [1000,1001] (hf x q s g1) rfl rfl rfl rfl (fun v ⟨e,h⟩=>⟨e,by show(_&&_)=false;rw[g2 h,abr]⟩) ?_;rintro v Mo ⟨r,rfl,rfl⟩ _ _;refine⟨rfl,?_⟩;refine Fit.aad (by omega) (by rw[aa6] at y;omega) ?_;exact⟨(i+1,s++(enc x).1),⟨by omega,p++(enc x).1,by rw[o,aaT],g3 r⟩,⟨bn,trivial⟩,⟨.inl ⟨_,rfl,.inl ⟨rfl,rfl⟩⟩,.inl ⟨_,rfl,.inl ⟨rfl,rfl⟩⟩,trivial⟩,bq a⟩
 ·have c:¬i<l.length:=by
   have h:¬(i:Int)<((l.map cs).length:Int):=c;rw[d] at h;omega
  obtain⟨r,e2⟩:=mG (gU c) o b;exact dK [1000,1001] rfl rfl rfl rfl ⟨by show(_&&_)=true;rw[e0,r];rfl,j3 (WB k.tb) (by rw[e2,<-u];show _=bs++(_++_);rw[aaT]),rfl⟩
theorem Ya {k:Kd}(hk:tY k) {z:Type}{f:Nat}{enc:z->Enc}{cs:z->List C}(l:List z) (hl:∀x,T.dM (cs x) 1=true) (hf:∀x∈l,fR k f (.ifo none k.t 1000 0::.pt (cs x) 0::[]) (enc x)) :
  fR k 77 [.ifo none k.t 1000 0,.pt [.sl (l.map cs)] 0,.fn f [] []] (bT k enc l):=by
 intro bs hb;obtain⟨fs,w,m⟩:=hk.siz;have hE:bT k enc l=bD (k.siz (l.map cs).length) (aV enc l):=by unfold bT;rw[aa6]
 rw[hE] at hb ⊢;have n:bs.length+(k.siz (l.map cs).length).1.length<=70368744177664:=by
  simp only[bD,aaR] at hb;omega
 refine au Tryz.func77 Gp rfl fun hw ho=>?_;have y:(l.map cs).length<=9223372036854775807:=by have h:=hw.2.1.1.1;simp only[maxLen] at h;exact h
 refine⟨hk.mks,?_⟩;refine⟨fs,w,?_⟩;refine cH [1000,1001] (m (l.map cs).length bs n) rfl rfl rfl rfl (fun v ⟨e,h⟩=>⟨e,by show(_&&_)=false;rw[h];rfl⟩) ?_;rintro v Mo ⟨e0,rfl,rfl⟩ _ _;refine⟨rfl,?_⟩;refine af (fun h=>?_) (fun _=>?_)
 ·simp at h
 have j:(bs++(k.siz (l.map cs).length).1).length+(aV enc l).1.length<=70368744177664:=by
  simp only[bD,aaR] at hb ⊢;omega
 generalize u:bs++(k.siz (l.map cs).length).1=b1 at j;have d:((l.map cs).length:Int)=l.length:=by simp
 refine aZ l.length 31 [] b1 (fun _=>[]) (fun s=>Fv k.tb s) (fun i s=>∃p,s=b1++p/\aV enc l=bD (p,true) (aV enc (l.drop i))) ⟨[],by simp,by simp[bD]⟩ (aj rfl) trivial
  ⟨.inl ⟨_,rfl,.inl ⟨rfl,rfl⟩⟩,.inl ⟨_,rfl,.inl ⟨rfl,rfl⟩⟩,trivial⟩ (fun _=>rfl) (fun _=>rfl) ?_
 rintro i s hi ⟨p,o,b⟩ _ _ _;refine aK (fun a=>?_) (fun c=>?_)
 ·have a:i<l.length:=by
   have h:(i:Int)<((l.map cs).length:Int):=a;rw[d] at h;omega
  refine fC a fun x hx q hd=>?_;obtain⟨g1,g2,g3⟩:=jJ hd o b j;refine bw hx rfl (hl x) ?_;refine ck [1000,1001] (hf x q s g1) rfl rfl rfl rfl (fun v ⟨e,h⟩=>⟨e,by show(_&&_)=false;rw[g2 h,abr]⟩) ?_;rintro v Mo ⟨r,rfl,rfl⟩ _ _;refine⟨rfl,?_⟩;refine Fit.aad (by omega) (by rw[aa6] at y;omega) ?_;exact⟨(i+1,s++(enc x).1),⟨by omega,p++(enc x).1,by rw[o,aaT],g3 r⟩,⟨bn,trivial⟩,⟨.inl ⟨_,rfl,.inl ⟨rfl,rfl⟩⟩,.inl ⟨_,rfl,.inl ⟨rfl,rfl⟩⟩,trivial⟩,bq a⟩
 ·have c:¬i<l.length:=by
   have h:¬(i:Int)<((l.map cs).length:Int):=c;rw[d] at h;omega
  obtain⟨r,e2⟩:=mG (gU c) o b;exact dK [1000,1001] rfl rfl rfl rfl ⟨by show(_&&_)=true;rw[e0,r];rfl,j3 (WB k.tb) (by rw[e2,<-u];show _=bs++(_++_);rw[aaT]),rfl⟩
theorem Yb {k:Kd}(hk:tY k) {z:Type}{f:Nat}{enc:z->Enc}{cs:z->List C}(l:List z) (hl:∀x,T.dM (cs x) 10=true) (hf:∀x∈l,fR k f (.ifo none k.t 1000 0::.pt (cs x) 0::[]) (enc x)) :
  fR k 75 [.ifo none k.t 1000 0,.pt [.sl (l.map cs)] 0,.fn f [] []] (bT k enc l):=by
 intro bs hb;obtain⟨fs,w,m⟩:=hk.siz;have hE:bT k enc l=bD (k.siz (l.map cs).length) (aV enc l):=by unfold bT;rw[aa6]
 rw[hE] at hb ⊢;have n:bs.length+(k.siz (l.map cs).length).1.length<=70368744177664:=by
  simp only[bD,aaR] at hb;omega
 refine au Tryz.func75 Gm rfl fun hw ho=>?_;have y:(l.map cs).length<=9223372036854775807:=by have h:=hw.2.1.1.1;simp only[maxLen] at h;exact h
 refine⟨hk.mks,?_⟩;refine⟨fs,w,?_⟩;refine cH [1000,1001] (m (l.map cs).length bs n) rfl rfl rfl rfl (fun v ⟨e,h⟩=>⟨e,by show(_&&_)=false;rw[h];rfl⟩) ?_;rintro v Mo ⟨e0,rfl,rfl⟩ _ _;refine⟨rfl,?_⟩;refine af (fun h=>?_) (fun _=>?_)
 ·simp at h
 have j:(bs++(k.siz (l.map cs).length).1).length+(aV enc l).1.length<=70368744177664:=by
  simp only[bD,aaR] at hb ⊢;omega
 generalize u:bs++(k.siz (l.map cs).length).1=b1 at j;have d:((l.map cs).length:Int)=l.length:=by simp
 refine aZ l.length 31 [] b1 (fun _=>[]) (fun s=>Fv k.tb s) (fun i s=>∃p,s=b1++p/\aV enc l=bD (p,true) (aV enc (l.drop i))) ⟨[],by simp,by simp[bD]⟩ (aj rfl) trivial
  ⟨.inl ⟨_,rfl,.inl ⟨rfl,rfl⟩⟩,.inl ⟨_,rfl,.inl ⟨rfl,rfl⟩⟩,trivial⟩ (fun _=>rfl) (fun _=>rfl) ?_
 rintro i s hi ⟨p,o,b⟩ _ _ _;refine aK (fun a=>?_) (fun c=>?_)
 ·have a:i<l.length:=by
   have h:(i:Int)<((l.map cs).length:Int):=a;rw[d] at h;omega
  refine fC a fun x hx q hd=>?_;obtain⟨g1,g2,g3⟩:=jJ hd o b j;refine bw hx rfl (hl x) ?_;refine ck [1000,1001] (hf x q s g1) rfl rfl rfl rfl (fun v ⟨e,h⟩=>⟨e,by show(_&&_)=false;rw[g2 h,abr]⟩) ?_;rintro v Mo ⟨r,rfl,rfl⟩ _ _;refine⟨rfl,?_⟩;refine Fit.aad (by omega) (by rw[aa6] at y;omega) ?_;exact⟨(i+1,s++(enc x).1),⟨by omega,p++(enc x).1,by rw[o,aaT],g3 r⟩,⟨bn,trivial⟩,⟨.inl ⟨_,rfl,.inl ⟨rfl,rfl⟩⟩,.inl ⟨_,rfl,.inl ⟨rfl,rfl⟩⟩,trivial⟩,bq a⟩
 ·have c:¬i<l.length:=by
   have h:¬(i:Int)<((l.map cs).length:Int):=c;rw[d] at h;omega
  obtain⟨r,e2⟩:=mG (gU c) o b;exact dK [1000,1001] rfl rfl rfl rfl ⟨by show(_&&_)=true;rw[e0,r];rfl,j3 (WB k.tb) (by rw[e2,<-u];show _=bs++(_++_);rw[aaT]),rfl⟩
theorem Yc {k:Kd}(hk:tY k) {z:Type}{f:Nat}{enc:z->Enc}{cs:z->List C}(l:List z) (hl:∀x,T.dM (cs x) 7=true) (hf:∀x∈l,fR k f (.ifo none k.t 1000 0::.pt (cs x) 0::[]) (enc x)) :
  fR k 79 [.ifo none k.t 1000 0,.pt [.sl (l.map cs)] 0,.fn f [] []] (bT k enc l):=by
 intro bs hb;obtain⟨fs,w,m⟩:=hk.siz;have hE:bT k enc l=bD (k.siz (l.map cs).length) (aV enc l):=by unfold bT;rw[aa6]
 rw[hE] at hb ⊢;have n:bs.length+(k.siz (l.map cs).length).1.length<=70368744177664:=by
  simp only[bD,aaR] at hb;omega
 refine au Tryz.func79 Gr rfl fun hw ho=>?_;have y:(l.map cs).length<=9223372036854775807:=by have h:=hw.2.1.1.1;simp only[maxLen] at h;exact h
 refine⟨hk.mks,?_⟩;refine⟨fs,w,?_⟩;refine cH [1000,1001] (m (l.map cs).length bs n) rfl rfl rfl rfl (fun v ⟨e,h⟩=>⟨e,by show(_&&_)=false;rw[h];rfl⟩) ?_;rintro v Mo ⟨e0,rfl,rfl⟩ _ _;refine⟨rfl,?_⟩;refine af (fun h=>?_) (fun _=>?_)
 ·simp at h
 have j:(bs++(k.siz (l.map cs).length).1).length+(aV enc l).1.length<=70368744177664:=by
  simp only[bD,aaR] at hb ⊢;omega
 generalize u:bs++(k.siz (l.map cs).length).1=b1 at j;have d:((l.map cs).length:Int)=l.length:=by simp
 refine aZ l.length 31 [] b1 (fun _=>[]) (fun s=>Fv k.tb s) (fun i s=>∃p,s=b1++p/\aV enc l=bD (p,true) (aV enc (l.drop i))) ⟨[],by simp,by simp[bD]⟩ (aj rfl) trivial
  ⟨.inl ⟨_,rfl,.inl ⟨rfl,rfl⟩⟩,.inl ⟨_,rfl,.inl ⟨rfl,rfl⟩⟩,trivial⟩ (fun _=>rfl) (fun _=>rfl) ?_
 rintro i s hi ⟨p,o,b⟩ _ _ _;refine aK (fun a=>?_) (fun c=>?_)
 ·have a:i<l.length:=by
   have h:(i:Int)<((l.map cs).length:Int):=a;rw[d] at h;omega
  refine fC a fun x hx q hd=>?_;obtain⟨g1,g2,g3⟩:=jJ hd o b j;refine bw hx rfl (hl x) ?_;refine ck [1000,1001] (hf x q s g1) rfl rfl rfl rfl (fun v ⟨e,h⟩=>⟨e,by show(_&&_)=false;rw[g2 h,abr]⟩) ?_;rintro v Mo ⟨r,rfl,rfl⟩ _ _;refine⟨rfl,?_⟩;refine Fit.aad (by omega) (by rw[aa6] at y;omega) ?_;exact⟨(i+1,s++(enc x).1),⟨by omega,p++(enc x).1,by rw[o,aaT],g3 r⟩,⟨bn,trivial⟩,⟨.inl ⟨_,rfl,.inl ⟨rfl,rfl⟩⟩,.inl ⟨_,rfl,.inl ⟨rfl,rfl⟩⟩,trivial⟩,bq a⟩
 ·have c:¬i<l.length:=by
   have h:¬(i:Int)<((l.map cs).length:Int):=c;rw[d] at h;omega
  obtain⟨r,e2⟩:=mG (gU c) o b;exact dK [1000,1001] rfl rfl rfl rfl ⟨by show(_&&_)=true;rw[e0,r];rfl,j3 (WB k.tb) (by rw[e2,<-u];show _=bs++(_++_);rw[aaT]),rfl⟩
theorem Yd {k:Kd}(hk:tY k) {z:Type}{f:Nat}{enc:z->Enc}{cs:z->List C}(l:List z) (hl:∀x,T.dM (cs x) 1=true) (hf:∀x∈l,fR k f (.ifo none k.t 1000 0::.pt (cs x) 0::[]) (enc x)) :
  fR k 81 [.ifo none k.t 1000 0,.pt [.sl (l.map cs)] 0,.fn f [] []] (bT k enc l):=by
 intro bs hb;obtain⟨fs,w,m⟩:=hk.siz;have hE:bT k enc l=bD (k.siz (l.map cs).length) (aV enc l):=by unfold bT;rw[aa6]
 rw[hE] at hb ⊢;have n:bs.length+(k.siz (l.map cs).length).1.length<=70368744177664:=by
  simp only[bD,aaR] at hb;omega
 refine au Tryz.func81 Gt rfl fun hw ho=>?_;have y:(l.map cs).length<=9223372036854775807:=by have h:=hw.2.1.1.1;simp only[maxLen] at h;exact h
 refine⟨hk.mks,?_⟩;refine⟨fs,w,?_⟩;refine cH [1000,1001] (m (l.map cs).length bs n) rfl rfl rfl rfl (fun v ⟨e,h⟩=>⟨e,by show(_&&_)=false;rw[h];rfl⟩) ?_;rintro v Mo ⟨e0,rfl,rfl⟩ _ _;refine⟨rfl,?_⟩;refine af (fun h=>?_) (fun _=>?_)
 ·simp at h
 have j:(bs++(k.siz (l.map cs).length).1).length+(aV enc l).1.length<=70368744177664:=by
  simp only[bD,aaR] at hb ⊢;omega
 generalize u:bs++(k.siz (l.map cs).length).1=b1 at j;have d:((l.map cs).length:Int)=l.length:=by simp
 refine aZ l.length 31 [] b1 (fun _=>[]) (fun s=>Fv k.tb s) (fun i s=>∃p,s=b1++p/\aV enc l=bD (p,true) (aV enc (l.drop i))) ⟨[],by simp,by simp[bD]⟩ (aj rfl) trivial
  ⟨.inl ⟨_,rfl,.inl ⟨rfl,rfl⟩⟩,.inl ⟨_,rfl,.inl ⟨rfl,rfl⟩⟩,trivial⟩ (fun _=>rfl) (fun _=>rfl) ?_
 rintro i s hi ⟨p,o,b⟩ _ _ _;refine aK (fun a=>?_) (fun c=>?_)
 ·have a:i<l.length:=by
   have h:(i:Int)<((l.map cs).length:Int):=a;rw[d] at h;omega
  refine fC a fun x hx q hd=>?_;obtain⟨g1,g2,g3⟩:=jJ hd o b j;refine bw hx rfl (hl x) ?_;refine ck [1000,1001] (hf x q s g1) rfl rfl rfl rfl (fun v ⟨e,h⟩=>⟨e,by show(_&&_)=false;rw[g2 h,abr]⟩) ?_;rintro v Mo ⟨r,rfl,rfl⟩ _ _;refine⟨rfl,?_⟩;refine Fit.aad (by omega) (by rw[aa6] at y;omega) ?_;exact⟨(i+1,s++(enc x).1),⟨by omega,p++(enc x).1,by rw[o,aaT],g3 r⟩,⟨bn,trivial⟩,⟨.inl ⟨_,rfl,.inl ⟨rfl,rfl⟩⟩,.inl ⟨_,rfl,.inl ⟨rfl,rfl⟩⟩,trivial⟩,bq a⟩
 ·have c:¬i<l.length:=by
   have h:¬(i:Int)<((l.map cs).length:Int):=c;rw[d] at h;omega
  obtain⟨r,e2⟩:=mG (gU c) o b;exact dK [1000,1001] rfl rfl rfl rfl ⟨by show(_&&_)=true;rw[e0,r];rfl,j3 (WB k.tb) (by rw[e2,<-u];show _=bs++(_++_);rw[aaT]),rfl⟩
theorem Ye {k:Kd}(hk:tY k) {z:Type}{f:Nat}{enc:z->Enc}{cs:z->List C}(l:List z) (hl:∀x,T.dM (cs x) 2=true) (hf:∀x∈l,fR k f (.ifo none k.t 1000 0::.pt (cs x) 0::[]) (enc x)) :
  fR k 83 [.ifo none k.t 1000 0,.pt [.sl (l.map cs)] 0,.fn f [] []] (bT k enc l):=by
 intro bs hb;obtain⟨fs,w,m⟩:=hk.siz;have hE:bT k enc l=bD (k.siz (l.map cs).length) (aV enc l):=by unfold bT;rw[aa6]
 rw[hE] at hb ⊢;have n:bs.length+(k.siz (l.map cs).length).1.length<=70368744177664:=by
  simp only[bD,aaR] at hb;omega
 refine au Tryz.func83 Gv rfl fun hw ho=>?_;have y:(l.map cs).length<=9223372036854775807:=by have h:=hw.2.1.1.1;simp only[maxLen] at h;exact h
 refine⟨hk.mks,?_⟩;refine⟨fs,w,?_⟩;refine cH [1000,1001] (m (l.map cs).length bs n) rfl rfl rfl rfl (fun v ⟨e,h⟩=>⟨e,by show(_&&_)=false;rw[h];rfl⟩) ?_;rintro v Mo ⟨e0,rfl,rfl⟩ _ _;refine⟨rfl,?_⟩;refine af (fun h=>?_) (fun _=>?_)
 ·simp at h
 have j:(bs++(k.siz (l.map cs).length).1).length+(aV enc l).1.length<=70368744177664:=by
  simp only[bD,aaR] at hb ⊢;omega
 generalize u:bs++(k.siz (l.map cs).length).1=b1 at j;have d:((l.map cs).length:Int)=l.length:=by simp
 refine aZ l.length 31 [] b1 (fun _=>[]) (fun s=>Fv k.tb s) (fun i s=>∃p,s=b1++p/\aV enc l=bD (p,true) (aV enc (l.drop i))) ⟨[],by simp,by simp[bD]⟩ (aj rfl) trivial
  ⟨.inl ⟨_,rfl,.inl ⟨rfl,rfl⟩⟩,.inl ⟨_,rfl,.inl ⟨rfl,rfl⟩⟩,trivial⟩ (fun _=>rfl) (fun _=>rfl) ?_
 rintro i s hi ⟨p,o,b⟩ _ _ _;refine aK (fun a=>?_) (fun c=>?_)
 ·have a:i<l.length:=by
   have h:(i:Int)<((l.map cs).length:Int):=a;rw[d] at h;omega
  refine fC a fun x hx q hd=>?_;obtain⟨g1,g2,g3⟩:=jJ hd o b j;refine bw hx rfl (hl x) ?_;refine ck [1000,1001] (hf x q s g1) rfl rfl rfl rfl (fun v ⟨e,h⟩=>⟨e,by show(_&&_)=false;rw[g2 h,abr]⟩) ?_;rintro v Mo ⟨r,rfl,rfl⟩ _ _;refine⟨rfl,?_⟩;refine Fit.aad (by omega) (by rw[aa6] at y;omega) ?_;exact⟨(i+1,s++(enc x).1),⟨by omega,p++(enc x).1,by rw[o,aaT],g3 r⟩,⟨bn,trivial⟩,⟨.inl ⟨_,rfl,.inl ⟨rfl,rfl⟩⟩,.inl ⟨_,rfl,.inl ⟨rfl,rfl⟩⟩,trivial⟩,bq a⟩
 ·have c:¬i<l.length:=by
   have h:¬(i:Int)<((l.map cs).length:Int):=c;rw[d] at h;omega
  obtain⟨r,e2⟩:=mG (gU c) o b;exact dK [1000,1001] rfl rfl rfl rfl ⟨by show(_&&_)=true;rw[e0,r];rfl,j3 (WB k.tb) (by rw[e2,<-u];show _=bs++(_++_);rw[aaT]),rfl⟩
theorem UA {k:Kd}(hk:tY k) {z:Type}{f:Nat}{enc:z->Enc}{cs:z->List C}(l:List z) (hl:∀x,T.dM (cs x) 7=true) (hf:∀x∈l,fR k f (.ifo none k.t 1000 0::.pt (cs x) 0::[]) (enc x)) :
  fR k 105 [.ifo none k.t 1000 0,.pt [.sl (l.map cs)] 0,.fn f [] []] (bT k enc l):=by
 intro bs hb;obtain⟨fs,w,m⟩:=hk.siz;have hE:bT k enc l=bD (k.siz (l.map cs).length) (aV enc l):=by unfold bT;rw[aa6]
 rw[hE] at hb ⊢;have n:bs.length+(k.siz (l.map cs).length).1.length<=70368744177664:=by
  simp only[bD,aaR] at hb;omega
 refine au Tryz.func105 DV rfl fun hw ho=>?_;have y:(l.map cs).length<=9223372036854775807:=by have h:=hw.2.1.1.1;simp only[maxLen] at h;exact h
 refine⟨hk.mks,?_⟩;refine⟨fs,w,?_⟩;refine cH [1000,1001] (m (l.map cs).length bs n) rfl rfl rfl rfl (fun v ⟨e,h⟩=>⟨e,by show(_&&_)=false;rw[h];rfl⟩) ?_;rintro v Mo ⟨e0,rfl,rfl⟩ _ _;refine⟨rfl,?_⟩;refine af (fun h=>?_) (fun _=>?_)
 ·simp at h
 have j:(bs++(k.siz (l.map cs).length).1).length+(aV enc l).1.length<=70368744177664:=by
  simp only[bD,aaR] at hb ⊢;omega
 generalize u:bs++(k.siz (l.map cs).length).1=b1 at j;have d:((l.map cs).length:Int)=l.length:=by simp
 refine aZ l.length 31 [] b1 (fun _=>[]) (fun s=>Fv k.tb s) (fun i s=>∃p,s=b1++p/\aV enc l=bD (p,true) (aV enc (l.drop i))) ⟨[],by simp,by simp[bD]⟩ (aj rfl) trivial
  ⟨.inl ⟨_,rfl,.inl ⟨rfl,rfl⟩⟩,.inl ⟨_,rfl,.inl ⟨rfl,rfl⟩⟩,trivial⟩ (fun _=>rfl) (fun _=>rfl) ?_
 rintro i s hi ⟨p,o,b⟩ _ _ _;refine aK (fun a=>?_) (fun c=>?_)
 ·have a:i<l.length:=by
   have h:(i:Int)<((l.map cs).length:Int):=a;rw[d] at h;omega
  refine fC a fun x hx q hd=>?_;obtain⟨g1,g2,g3⟩:=jJ hd o b j;refine bw hx rfl (hl x) ?_;refine ck [1000,1001] (hf x q s g1) rfl rfl rfl rfl (fun v ⟨e,h⟩=>⟨e,by show(_&&_)=false;rw[g2 h,abr]⟩) ?_;rintro v Mo ⟨r,rfl,rfl⟩ _ _;refine⟨rfl,?_⟩;refine Fit.aad (by omega) (by rw[aa6] at y;omega) ?_;exact⟨(i+1,s++(enc x).1),⟨by omega,p++(enc x).1,by rw[o,aaT],g3 r⟩,⟨bn,trivial⟩,⟨.inl ⟨_,rfl,.inl ⟨rfl,rfl⟩⟩,.inl ⟨_,rfl,.inl ⟨rfl,rfl⟩⟩,trivial⟩,bq a⟩
 ·have c:¬i<l.length:=by
   have h:¬(i:Int)<((l.map cs).length:Int):=c;rw[d] at h;omega
  obtain⟨r,e2⟩:=mG (gU c) o b;exact dK [1000,1001] rfl rfl rfl rfl ⟨by show(_&&_)=true;rw[e0,r];rfl,j3 (WB k.tb) (by rw[e2,<-u];show _=bs++(_++_);rw[aaT]),rfl⟩
theorem UB {k:Kd}(hk:tY k) {z:Type}{f:Nat}{enc:z->Enc}{cs:z->List C}(l:List z) (hl:∀x,T.dM (cs x) 5=true) (hf:∀x∈l,fR k f (.ifo none k.t 1000 0::.pt (cs x) 0::[]) (enc x)) :
  fR k 107 [.ifo none k.t 1000 0,.pt [.sl (l.map cs)] 0,.fn f [] []] (bT k enc l):=by
 intro bs hb;obtain⟨fs,w,m⟩:=hk.siz;have hE:bT k enc l=bD (k.siz (l.map cs).length) (aV enc l):=by unfold bT;rw[aa6]
 rw[hE] at hb ⊢;have n:bs.length+(k.siz (l.map cs).length).1.length<=70368744177664:=by
  simp only[bD,aaR] at hb;omega
 refine au Tryz.func107 DX rfl fun hw ho=>?_;have y:(l.map cs).length<=9223372036854775807:=by have h:=hw.2.1.1.1;simp only[maxLen] at h;exact h
 refine⟨hk.mks,?_⟩;refine⟨fs,w,?_⟩;refine cH [1000,1001] (m (l.map cs).length bs n) rfl rfl rfl rfl (fun v ⟨e,h⟩=>⟨e,by show(_&&_)=false;rw[h];rfl⟩) ?_;rintro v Mo ⟨e0,rfl,rfl⟩ _ _;refine⟨rfl,?_⟩;refine af (fun h=>?_) (fun _=>?_)
 ·simp at h
 have j:(bs++(k.siz (l.map cs).length).1).length+(aV enc l).1.length<=70368744177664:=by
  simp only[bD,aaR] at hb ⊢;omega
 generalize u:bs++(k.siz (l.map cs).length).1=b1 at j;have d:((l.map cs).length:Int)=l.length:=by simp
 refine aZ l.length 31 [] b1 (fun _=>[]) (fun s=>Fv k.tb s) (fun i s=>∃p,s=b1++p/\aV enc l=bD (p,true) (aV enc (l.drop i))) ⟨[],by simp,by simp[bD]⟩ (aj rfl) trivial
  ⟨.inl ⟨_,rfl,.inl ⟨rfl,rfl⟩⟩,.inl ⟨_,rfl,.inl ⟨rfl,rfl⟩⟩,trivial⟩ (fun _=>rfl) (fun _=>rfl) ?_
 rintro i s hi ⟨p,o,b⟩ _ _ _;refine aK (fun a=>?_) (fun c=>?_)
 ·have a:i<l.length:=by
   have h:(i:Int)<((l.map cs).length:Int):=a;rw[d] at h;omega
  refine fC a fun x hx q hd=>?_;obtain⟨g1,g2,g3⟩:=jJ hd o b j;refine bw hx rfl (hl x) ?_;refine ck [1000,1001] (hf x q s g1) rfl rfl rfl rfl (fun v ⟨e,h⟩=>⟨e,by show(_&&_)=false;rw[g2 h,abr]⟩) ?_;rintro v Mo ⟨r,rfl,rfl⟩ _ _;refine⟨rfl,?_⟩;refine Fit.aad (by omega) (by rw[aa6] at y;omega) ?_;exact⟨(i+1,s++(enc x).1),⟨by omega,p++(enc x).1,by rw[o,aaT],g3 r⟩,⟨bn,trivial⟩,⟨.inl ⟨_,rfl,.inl ⟨rfl,rfl⟩⟩,.inl ⟨_,rfl,.inl ⟨rfl,rfl⟩⟩,trivial⟩,bq a⟩
 ·have c:¬i<l.length:=by
   have h:¬(i:Int)<((l.map cs).length:Int):=c;rw[d] at h;omega
  obtain⟨r,e2⟩:=mG (gU c) o b;exact dK [1000,1001] rfl rfl rfl rfl ⟨by show(_&&_)=true;rw[e0,r];rfl,j3 (WB k.tb) (by rw[e2,<-u];show _=bs++(_++_);rw[aaT]),rfl⟩
theorem UC {k:Kd}(hk:tY k) {z:Type}{f:Nat}{enc:z->Enc}{cs:z->List C}(l:List z) (hl:∀x,T.dM (cs x) 8=true) (hf:∀x∈l,fR k f (.ifo none k.t 1000 0::.pt (cs x) 0::[]) (enc x)) :
  fR k 111 [.ifo none k.t 1000 0,.pt [.sl (l.map cs)] 0,.fn f [] []] (bT k enc l):=by
 intro bs hb;obtain⟨fs,w,m⟩:=hk.siz;have hE:bT k enc l=bD (k.siz (l.map cs).length) (aV enc l):=by unfold bT;rw[aa6]
 rw[hE] at hb ⊢;have n:bs.length+(k.siz (l.map cs).length).1.length<=70368744177664:=by
  simp only[bD,aaR] at hb;omega
 refine au Tryz.func111 uR rfl fun hw ho=>?_;have y:(l.map cs).length<=9223372036854775807:=by have h:=hw.2.1.1.1;simp only[maxLen] at h;exact h
 refine⟨hk.mks,?_⟩;refine⟨fs,w,?_⟩;refine cH [1000,1001] (m (l.map cs).length bs n) rfl rfl rfl rfl (fun v ⟨e,h⟩=>⟨e,by show(_&&_)=false;rw[h];rfl⟩) ?_;rintro v Mo ⟨e0,rfl,rfl⟩ _ _;refine⟨rfl,?_⟩;refine af (fun h=>?_) (fun _=>?_)
 ·simp at h
 have j:(bs++(k.siz (l.map cs).length).1).length+(aV enc l).1.length<=70368744177664:=by
  simp only[bD,aaR] at hb ⊢;omega
 generalize u:bs++(k.siz (l.map cs).length).1=b1 at j;have d:((l.map cs).length:Int)=l.length:=by simp
 refine aZ l.length 31 [] b1 (fun _=>[]) (fun s=>Fv k.tb s) (fun i s=>∃p,s=b1++p/\aV enc l=bD (p,true) (aV enc (l.drop i))) ⟨[],by simp,by simp[bD]⟩ (aj rfl) trivial
  ⟨.inl ⟨_,rfl,.inl ⟨rfl,rfl⟩⟩,.inl ⟨_,rfl,.inl ⟨rfl,rfl⟩⟩,trivial⟩ (fun _=>rfl) (fun _=>rfl) ?_
 rintro i s hi ⟨p,o,b⟩ _ _ _;refine aK (fun a=>?_) (fun c=>?_)
 ·have a:i<l.length:=by
   have h:(i:Int)<((l.map cs).length:Int):=a;rw[d] at h;omega
  refine fC a fun x hx q hd=>?_;obtain⟨g1,g2,g3⟩:=jJ hd o b j;refine bw hx rfl (hl x) ?_;refine ck [1000,1001] (hf x q s g1) rfl rfl rfl rfl (fun v ⟨e,h⟩=>⟨e,by show(_&&_)=false;rw[g2 h,abr]⟩) ?_;rintro v Mo ⟨r,rfl,rfl⟩ _ _;refine⟨rfl,?_⟩;refine Fit.aad (by omega) (by rw[aa6] at y;omega) ?_;exact⟨(i+1,s++(enc x).1),⟨by omega,p++(enc x).1,by rw[o,aaT],g3 r⟩,⟨bn,trivial⟩,⟨.inl ⟨_,rfl,.inl ⟨rfl,rfl⟩⟩,.inl ⟨_,rfl,.inl ⟨rfl,rfl⟩⟩,trivial⟩,bq a⟩
 ·have c:¬i<l.length:=by
   have h:¬(i:Int)<((l.map cs).length:Int):=c;rw[d] at h;omega
  obtain⟨r,e2⟩:=mG (gU c) o b;exact dK [1000,1001] rfl rfl rfl rfl ⟨by show(_&&_)=true;rw[e0,r];rfl,j3 (WB k.tb) (by rw[e2,<-u];show _=bs++(_++_);rw[aaT]),rfl⟩
theorem LD {k:Kd}(hk:tY k) {α:Type}{f:Nat}{d:Int}{enc:α->Enc}{cs:α->List C}(l:List α) (hl:∀x,T.dM (cs x) 8=true) (hf:∀x∈l,fR k f (.ifo none k.t 1000 0::.pt (cs x) 0::[.pt [IC d] 0]) (enc x)) :
  fR k 111 [.ifo none k.t 1000 0,.pt [.sl (l.map cs)] 0,.fn f [] [.pt [IC d] 0]] (bT k enc l):=by
 intro bs hb;obtain⟨fs,y,n⟩:=hk.siz;have hE:bT k enc l=bD (k.siz (l.map cs).length) (aV enc l):=by unfold bT;rw[aa6]
 rw[hE] at hb ⊢;have o:bs.length+(k.siz (l.map cs).length).1.length<=70368744177664:=by
  simp only[bD,aaR] at hb;omega
 refine au Tryz.func111 uR rfl fun hw ho=>?_;have z:(l.map cs).length<=9223372036854775807:=by have h:=hw.2.1.1.1;simp only[maxLen] at h;exact h
 refine⟨hk.mks,?_⟩;refine⟨fs,y,?_⟩;refine cH [1000,1001] (n (l.map cs).length bs o) rfl rfl rfl rfl (fun v ⟨e,h⟩=>⟨e,by show(_&&_)=false;rw[h];rfl⟩) ?_;rintro v Mo ⟨e0,rfl,rfl⟩ _ _;refine⟨rfl,?_⟩;refine af (fun h=>?_) (fun _=>?_)
 ·simp at h
 have m:(bs++(k.siz (l.map cs).length).1).length+(aV enc l).1.length<=70368744177664:=by
  simp only[bD,aaR] at hb ⊢;omega
 generalize w:bs++(k.siz (l.map cs).length).1=b1 at m;have j:((l.map cs).length:Int)=l.length:=by simp
 refine aZ l.length 31 [] b1 (fun _=>[]) (fun s=>Fv k.tb s) (fun i s=>∃p,s=b1++p/\aV enc l=bD (p,true) (aV enc (l.drop i))) ⟨[],by simp,by simp[bD]⟩ (aj rfl) trivial
  ⟨.inl ⟨_,rfl,.inl ⟨rfl,rfl⟩⟩,.inl ⟨_,rfl,.inl ⟨rfl,rfl⟩⟩,trivial⟩ (fun _=>rfl) (fun _=>rfl) ?_
 rintro i s hi ⟨p,q,b⟩ _ _ _;refine aK (fun a=>?_) (fun c=>?_)
 ·have a:i<l.length:=by
   have h:(i:Int)<((l.map cs).length:Int):=a;rw[j] at h;omega
  refine fC a fun x hx r hd=>?_;obtain⟨g1,g2,g3⟩:=jJ hd q b m;refine bw hx rfl (hl x) ?_;refine ck [1000,1001] (hf x r s g1) rfl rfl rfl rfl (fun v ⟨e,h⟩=>⟨e,by show(_&&_)=false;rw[g2 h,abr]⟩) ?_;rintro v Mo ⟨u,rfl,rfl⟩ _ _;refine⟨rfl,?_⟩;refine Fit.aad (by omega) (by rw[aa6] at z;omega) ?_;exact⟨(i+1,s++(enc x).1),⟨by omega,p++(enc x).1,by rw[q,aaT],g3 u⟩,⟨bn,trivial⟩,⟨.inl ⟨_,rfl,.inl ⟨rfl,rfl⟩⟩,.inl ⟨_,rfl,.inl ⟨rfl,rfl⟩⟩,trivial⟩,bq a⟩
 ·have c:¬i<l.length:=by
   have h:¬(i:Int)<((l.map cs).length:Int):=c;rw[j] at h;omega
  obtain⟨u,e2⟩:=mG (gU c) q b;exact dK [1000,1001] rfl rfl rfl rfl ⟨by show(_&&_)=true;rw[e0,u];rfl,j3 (WB k.tb) (by rw[e2,<-w];show _=bs++(_++_);rw[aaT]),rfl⟩
theorem eL {a b:Enc}(h:a.2=false):(bD a b).2=false:=by show(_&&_)=false;rw[h];rfl
theorem aX {a b:Enc}(h:b.2=false):(bD a b).2=false:=by show(_&&_)=false;rw[h,abr]
theorem fS {a b:Enc}(h:a.2=true) (c:b.2=true):(bD a b).2=true:=by show(_&&_)=true;rw[h,c];rfl
theorem eW {bs:List UInt8}{a b:Enc}{B:Nat}(h:bs.length+(bD a b).1.length<=B):bs.length+a.1.length<=B:=by
 simp only[bD,aaR] at h;omega
theorem eG {bs:List UInt8}{a b:Enc}{B:Nat}(h:bs.length+(bD a b).1.length<=B):(bs++a.1).length+b.1.length<=B:=by
 simp only[bD,aaR] at h ⊢;omega
theorem UD (bs a b:List UInt8):(bs++a)++b=bs++(a++b):=by simp
theorem UE (bs a b c:List UInt8):((bs++a)++b)++c=bs++(a++(b++c)):=by simp
theorem SF (bs a b c d e:List UInt8):((((bs++a)++b)++c)++d)++e=bs++(a++(b++(c++(d++e)))):=by simp
theorem Yf (bs a b c d e f:List UInt8):(((((bs++a)++b)++c)++d)++e)++f=bs++(a++(b++(c++(d++(e++f))))):=by simp
section
variable {L:TL}{ρ:aY}{k:Kd}
theorem xM {PS:qJ}{f:Nat}{args a:List C}{bs:List UInt8}{e:Enc}{K:TL->aY->C->Prop}(h:fR k f a e) (hb:bs.length+e.1.length<=70368744177664)
  (d:L.sub [1000,1001]=some (WB k.tb bs)) (p:(args.map fun c=>c.aaj.ren (cn [1000,1001] 1000))=a) (n:e.2=false->PS.ps fW)
  (b:e.2=true->K (((L.aaf [1000,1001]).kills (rowsOf L [1000,1001])).puts [1000,1001] (WB k.tb (bs++e.1))) (fP (rowsOf L [1000,1001]) ρ) (.tup [])) (l:mF L [1000,1001] PS.hb=true:=by rfl):qf PZ PS f args L ρ K :=
 ck [1000,1001] (h bs hb) d rfl p rfl (fun v ⟨e,h⟩=>e▸n h) (fun v Mo ⟨j,m,o⟩ _ _=>by subst m o;exact⟨rfl,b j⟩) l
theorem Ah {PS:qJ}{d:List Nat}{f:Nat}{args a:List C}{bs:List UInt8}{e:Enc}{K:TL->aY->C->Prop}(h:fR k f a e) (hb:bs.length+e.1.length<=70368744177664)
  (l:L.sub [1000,1001]=some (WB k.tb bs)) (b:yD [1000,1001] d=true) (r:(args.map fun c=>c.aaj.ren (cn [1000,1001] 1000))=a) (p:e.2=false->PS.ps fW)
  (j:e.2=true->K (((L.aaf [1000,1001]).kills (rowsOf L [1000,1001])).puts [1000,1001] (WB k.tb (bs++e.1))) (fP (rowsOf L [1000,1001]) ρ) (.tup [])) (n:mF L [1000,1001] PS.hb=true:=by rfl):ou PZ PS d f args L ρ K :=
 cH [1000,1001] (h bs hb) l (by simp only[yo];exact⟨⟨rfl,b⟩,rfl⟩) r rfl (fun v ⟨e,h⟩=>e▸p h) (fun v Mo ⟨m,o,q⟩ _ _=>by subst o q;exact⟨rfl,j m⟩) n
end
section
variable {k:Kd}(hk:tY k)
include hk
theorem UF (n:Int):fR k 110 [.ifo none k.t 1000 0,.pt [IC n] 0] (k.num n):=by
 intro bs hb;obtain⟨fn,b,a,_⟩:=hk.num;refine au Tryz.func110 D3 rfl fun c d=>?_;refine⟨fn,b,?_⟩;refine xM (a n) hb rfl rfl (fun h=>⟨rfl,h⟩) fun h=>?_;exact dK [1000,1001] rfl rfl rfl rfl ⟨h,rfl,rfl⟩
theorem Yg (b:Bool):fR k 78 [.ifo none k.t 1000 0,.pt (EH b) 0] (Tn k b):=by
 intro bs hb;have a:=(Ej hk [b]).pts (es:=EH b) (os:=[0]) ⟨rfl,trivial⟩;refine au Tryz.func78 Gq rfl fun c d=>?_;refine xM a hb rfl rfl (fun h=>⟨rfl,h⟩) fun h=>?_;exact dK [1000,1001] rfl rfl rfl rfl ⟨h,rfl,rfl⟩
theorem pM (p:List Int):fR k 109 [.ifo none k.t 1000 0,.pt [.sl (qK p)] 0,.fn 110 [] []] (bT k k.num p):=Uz hk p (cs:=fun n=>[IC n]) (fun _=>rfl) fun x _=>UF hk x
end
theorem Qx:∀(m:Nat) (v:Vl),Fu v<=m->∀d:Int,-4611686018427387904+(m:Int)<=d->d<=4611686018427387904->fR kW 146 [.ifo none kW.t 1000 0,.pt (n9 v) 0,.pt [IC d] 0] (s8 kW v d)
 | 0,.mk a b c n f e p l,u,d,h1,h2=>by rw[Fu] at u;omega
 | m+1,.mk a b c n f e p l,u,d,h1,h2=>by
  intro bs hb;have ih:∀x∈f,fR kW 146 [.ifo none kW.t 1000 0,.pt (n9 x) 0,.pt [IC (d-1)] 0] (s8 kW x (d-1)):=fun x hx=>Qx m x (by
   have:=zi hx;rw[Fu] at u;omega) (d-1) (by omega) (by omega)
  have hE:s8 kW (.mk a b c n f e p l) d=bD (Aa (decide (0<d)||kW.deep)) (bD (aV kW.num [a,b,c,n]) (bD (bT kW (fun x=>s8 kW x (d-1)) f) (bD (aV (oe kW) [e]) (bD (bT kW kW.num p) (bT kW kW.num l))))):=by
   rw[s8,pJ];rfl
  rw[hE] at hb ⊢;have j:=eG hb;have j:bs.length+(bD (aV kW.num [a,b,c,n]) (bD (bT kW (fun x=>s8 kW x (d-1)) f) (bD (aV (oe kW) [e]) (bD (bT kW kW.num p) (bT kW kW.num l))))).1.length<=70368744177664:=by simpa[Aa] using j
  have z:=(CD Bn [a,b,c,n]).pts (es:=n9 (.mk a b c n f e p l)) (os:=[0,1,2,3]) ⟨rfl,rfl,rfl,rfl,trivial⟩;have w2:=(LD Bn f (cs:=n9) (fun x=>by cases x;rfl) ih).at (es:=n9 (.mk a b c n f e p l)) (off:=4) (j3 (fun q=>[C.sl q]) (rJ f));have w3:=(Ej Bn [e]).pts (es:=n9 (.mk a b c n f e p l)) (os:=[5]) ⟨rfl,trivial⟩;have w4:=(pM Bn p).at (es:=n9 (.mk a b c n f e p l)) (off:=6) rfl;have w5:=(pM Bn l).at (es:=n9 (.mk a b c n f e p l)) (off:=7) rfl;refine au Tryz.func146 uS rfl fun hw ho=>?_;refine aK (fun y=>?_) (fun y=>?_)
  ·have w:(Aa (decide (0<d)||kW.deep)).2=true:=by show(decide (0<d)||false)=true;simp;exact y
   refine vV (u9 true) rfl (fun h=>by cases h) fun _=>?_;refine Ah z (eW j) rfl rfl rfl (fun h=>⟨rfl,aX (eL h)⟩) fun o1=>?_;have o:=eG j;refine Fit.aad (by omega) (by omega) ?_;refine eK (Lx (d-1)) rfl fun _=>?_;refine Ah w2 (eW o) rfl rfl rfl (fun h=>⟨rfl,aX (aX (eL h))⟩) fun o2=>?_;have r:=eG o;refine xM w3 (eW r) rfl rfl (fun h=>⟨rfl,aX (aX (aX (eL h)))⟩) fun o3=>?_;have s:=eG r;refine xM w4 (eW s) rfl rfl (fun h=>⟨rfl,aX (aX (aX (aX (eL h))))⟩) fun o4=>?_;refine xM w5 (eG s) rfl rfl (fun h=>⟨rfl,aX (aX (aX (aX (aX h))))⟩) fun o5=>?_;exact dK [1000,1001] rfl rfl rfl rfl ⟨fS w (fS o1 (fS o2 (fS o3 (fS o4 o5)))),j3 (WB kW.tb) (SF _ _ _ _ _ _),rfl⟩
  ·refine vV (u9 false) rfl (fun _=>⟨rfl,eL (by show(decide (0<d)||false)=false;simp;omega)⟩) fun h=>by cases h
theorem Qy:∀(m:Nat) (v:Vl),Fu v<=m->∀d:Int,-4611686018427387904+(m:Int)<=d->d<=4611686018427387904->fR kL 146 [.ifo none kL.t 1000 0,.pt (n9 v) 0,.pt [IC d] 0] (s8 kL v d)
 | 0,.mk a b c n f e p l,u,d,h1,h2=>by rw[Fu] at u;omega
 | m+1,.mk a b c n f e p l,u,d,h1,h2=>by
  intro bs hb;have ih:∀x∈f,fR kL 146 [.ifo none kL.t 1000 0,.pt (n9 x) 0,.pt [IC (d-1)] 0] (s8 kL x (d-1)):=fun x hx=>Qy m x (by
   have:=zi hx;rw[Fu] at u;omega) (d-1) (by omega) (by omega)
  have hE:s8 kL (.mk a b c n f e p l) d=bD (Aa (decide (0<d)||kL.deep)) (bD (aV kL.num [a,b,c,n]) (bD (bT kL (fun x=>s8 kL x (d-1)) f) (bD (aV (oe kL) [e]) (bD (bT kL kL.num p) (bT kL kL.num l))))):=by
   rw[s8,pJ];rfl
  rw[hE] at hb ⊢;have j:=eG hb;have j:bs.length+(bD (aV kL.num [a,b,c,n]) (bD (bT kL (fun x=>s8 kL x (d-1)) f) (bD (aV (oe kL) [e]) (bD (bT kL kL.num p) (bT kL kL.num l))))).1.length<=70368744177664:=by simpa[Aa] using j
  have z:=(CD Bo [a,b,c,n]).pts (es:=n9 (.mk a b c n f e p l)) (os:=[0,1,2,3]) ⟨rfl,rfl,rfl,rfl,trivial⟩;have w2:=(LD Bo f (cs:=n9) (fun x=>by cases x;rfl) ih).at (es:=n9 (.mk a b c n f e p l)) (off:=4) (j3 (fun q=>[C.sl q]) (rJ f));have w3:=(Ej Bo [e]).pts (es:=n9 (.mk a b c n f e p l)) (os:=[5]) ⟨rfl,trivial⟩;have w4:=(pM Bo p).at (es:=n9 (.mk a b c n f e p l)) (off:=6) rfl;have w5:=(pM Bo l).at (es:=n9 (.mk a b c n f e p l)) (off:=7) rfl;refine au Tryz.func146 uS rfl fun hw ho=>?_;have w:(Aa (decide (0<d)||kL.deep)).2=true:=by show(decide (0<d)||true)=true;simp
  refine aK (fun y=>?_) (fun y=>?_)
  all_goals
   refine vV (u9 true) rfl (fun h=>by cases h) fun _=>?_;refine Ah z (eW j) rfl rfl rfl (fun h=>⟨rfl,aX (eL h)⟩) fun o1=>?_;have o:=eG j;refine Fit.aad (by omega) (by omega) ?_;refine eK (Lx (d-1)) rfl fun _=>?_;refine Ah w2 (eW o) rfl rfl rfl (fun h=>⟨rfl,aX (aX (eL h))⟩) fun o2=>?_;have r:=eG o;refine xM w3 (eW r) rfl rfl (fun h=>⟨rfl,aX (aX (aX (eL h)))⟩) fun o3=>?_;have s:=eG r;refine xM w4 (eW s) rfl rfl (fun h=>⟨rfl,aX (aX (aX (aX (eL h))))⟩) fun o4=>?_;refine xM w5 (eG s) rfl rfl (fun h=>⟨rfl,aX (aX (aX (aX (aX h))))⟩) fun o5=>?_;exact dK [1000,1001] rfl rfl rfl rfl ⟨fS w (fS o1 (fS o2 (fS o3 (fS o4 o5)))),j3 (WB kL.tb) (SF _ _ _ _ _ _),rfl⟩
structure Yh (k:Kd):Prop where
 toKdOk:tY k
 val:∀v:Vl,Fu v<=4611686018427387904->fR k 146 [.ifo none k.t 1000 0,.pt (n9 v) 0,.pt [IC 60] 0] (uV k v)
theorem Yi:Yh kW:={toKdOk:=Bn,val:=fun v h=>Qx _ v h 60 (by omega) (by omega)}
theorem Yj:Yh kL:={toKdOk:=Bo,val:=fun v h=>Qy _ v h 60 (by omega) (by omega)}
def vsB (l:List Vl):Prop:=∀v∈l,Fu v<=4611686018427387904
def Vx (x:Ce):Prop:=Fu x.value<=4611686018427387904
def Yk (x:Ac):Prop:=vsB x.slots
def Yl (x:Tk):Prop:=∀f∈x.frames,Yk f
def FD (x:Wd):Prop:=(∀c∈x.cells,Vx c)/\(∀t∈x.tasks,Yl t)/\∀l∈x.channels,vsB l
section
variable {k:Kd}(hk:Yh k)
include hk
theorem Qz (v:Vl) (a:Fu v<=4611686018427387904):fR k 104 [.ifo none k.t 1000 0,.pt (n9 v) 0] (uV k v):=by
 intro bs hb;refine au Tryz.func104 DU rfl fun b c=>?_;refine bM (Lx 60) rfl fun _=>?_;refine xM (hk.val v a) hb rfl rfl (fun h=>⟨rfl,h⟩) fun h=>?_;exact dK [1000,1001] rfl rfl rfl rfl ⟨h,rfl,rfl⟩
theorem UG (l:List Vl) (a:vsB l):fR k 82 [.ifo none k.t 1000 0,.pt (Iy l) 0] (Qo k l):=by
 intro bs hb;refine au Tryz.func82 Gu rfl fun c d=>?_;refine xM (UC hk.toKdOk l (cs:=n9) (fun x=>by cases x;rfl) fun x b=>Qz hk x (a x b)) hb rfl rfl (fun h=>⟨rfl,h⟩) fun h=>?_;exact dK [1000,1001] rfl rfl rfl rfl ⟨h,rfl,rfl⟩
theorem Ym (x:Ce) (n:Vx x):fR k 76 [.ifo none k.t 1000 0,.pt (wO x) 0] (O7 k x):=by
 intro bs hb;obtain⟨b,a,v⟩:=x;have e:=(Ej hk.toKdOk [b]).pts (es:=wO ⟨b,a,v⟩) (os:=[0]) ⟨rfl,trivial⟩;have j:=(CD hk.toKdOk [a]).pts (es:=wO ⟨b,a,v⟩) (os:=[1]) ⟨rfl,trivial⟩;have f:=(Qz hk v n).at (es:=wO ⟨b,a,v⟩) (off:=2) (by cases v;rfl);refine au Tryz.func76 Gn rfl fun o p=>?_;refine xM e (eW hb) rfl rfl (fun h=>⟨rfl,eL h⟩) fun d=>?_;have c:=eG hb;refine xM j (eW c) rfl rfl (fun h=>⟨rfl,aX (eL h)⟩) fun l=>?_;refine xM f (eG c) rfl rfl (fun h=>⟨rfl,aX (aX h)⟩) fun m=>?_;exact dK [1000,1001] rfl rfl rfl rfl ⟨fS d (fS l m),j3 (WB k.tb) (UE _ _ _ _),rfl⟩
theorem UH (x:Ac) (l:Yk x):fR k 106 [.ifo none k.t 1000 0,.pt (Cx x) 0] (O8 k x):=by
 intro bs hb;have c:=(CD hk.toKdOk [x.number,x.routine,x.block,x.index,x.dst]).pts (es:=Cx x) (os:=[0,1,2,3,4]) ⟨rfl,rfl,rfl,rfl,rfl,trivial⟩;have e:=(UG hk x.slots l).at (es:=Cx x) (off:=5) rfl;have d:=(pM hk.toKdOk x.since).at (es:=Cx x) (off:=6) rfl;refine au Tryz.func106 DW rfl fun m n=>?_;refine Ah c (eW hb) rfl rfl rfl (fun h=>⟨rfl,eL h⟩) fun b=>?_;have a:=eG hb;refine xM e (eW a) rfl rfl (fun h=>⟨rfl,aX (eL h)⟩) fun f=>?_;refine xM d (eG a) rfl rfl (fun h=>⟨rfl,aX (aX h)⟩) fun j=>?_;exact dK [1000,1001] rfl rfl rfl rfl ⟨fS b (fS f j),j3 (WB k.tb) (UE _ _ _ _),rfl⟩
theorem UI (x:Ln):fR k 108 [.ifo none k.t 1000 0,.pt (I6 x) 0] (O9 k x):=by
 intro bs hb;have b:=(CD hk.toKdOk [x.frame,x.slot]).pts (es:=I6 x) (os:=[0,1]) ⟨rfl,rfl,trivial⟩;have c:=(Ej hk.toKdOk [x.excl,x.re,x.over]).pts (es:=I6 x) (os:=[2,3,4]) ⟨rfl,rfl,rfl,trivial⟩;refine au Tryz.func108 DY rfl fun e f=>?_;refine Ah b (eW hb) rfl rfl rfl (fun h=>⟨rfl,eL h⟩) fun a=>?_;refine Ah c (eG hb) rfl rfl rfl (fun h=>⟨rfl,aX h⟩) fun d=>?_;exact dK [1000,1001] rfl rfl rfl rfl ⟨fS a d,j3 (WB k.tb) (UD _ _ _),rfl⟩
theorem Yn (x:Tk) (j:Yl x):fR k 80 [.ifo none k.t 1000 0,.pt (z8 x) 0] (Pb k x):=by
 intro bs hb;have d:=(CD hk.toKdOk [x.state]).pts (es:=z8 x) (os:=[0]) ⟨rfl,trivial⟩;have l:=(UA hk.toKdOk x.frames (cs:=Cx) (fun _=>rfl) fun y e=>UH hk y (j y e)).at (es:=z8 x) (off:=1) rfl;have q:=(UB hk.toKdOk x.loans (cs:=I6) (fun _=>rfl) fun y _=>UI hk y).at (es:=z8 x) (off:=2) rfl;have p:=(CD hk.toKdOk [x.allocs,x.clock,x.next]).pts (es:=z8 x) (os:=[3,4,5]) ⟨rfl,rfl,rfl,trivial⟩;have r:=(pM hk.toKdOk x.cells).at (es:=z8 x) (off:=6) rfl;refine au Tryz.func80 Gs rfl fun u v=>?_;refine xM d (eW hb) rfl rfl (fun h=>⟨rfl,eL h⟩) fun n=>?_;have a:=eG hb;refine xM l (eW a) rfl rfl (fun h=>⟨rfl,aX (eL h)⟩) fun f=>?_;have b:=eG a;refine xM q (eW b) rfl rfl (fun h=>⟨rfl,aX (aX (eL h))⟩) fun s=>?_;have c:=eG b;refine Ah p (eW c) rfl rfl rfl (fun h=>⟨rfl,aX (aX (aX (eL h)))⟩) fun o=>?_;refine xM r (eG c) rfl rfl (fun h=>⟨rfl,aX (aX (aX (aX h)))⟩) fun m=>?_;exact dK [1000,1001] rfl rfl rfl rfl ⟨fS n (fS f (fS s (fS o m))),j3 (WB k.tb) (SF _ _ _ _ _ _),rfl⟩
theorem Yo (x:Ou):fR k 84 [.ifo none k.t 1000 0,.pt (Lh x) 0] (Qp k x):=by
 intro bs hb;have b:=(CD hk.toKdOk [x.task,x.number]).pts (es:=Lh x) (os:=[0,1]) ⟨rfl,rfl,trivial⟩;refine au Tryz.func84 Gw rfl fun c d=>?_;refine Ah b hb rfl rfl rfl (fun h=>⟨rfl,h⟩) fun a=>?_;exact dK [1000,1001] rfl rfl rfl rfl ⟨a,rfl,rfl⟩
theorem UJ (m l:List (List C)) (n:Int) (x:Wd) (j:FD x):fR k 35 [.ifo none k.t 1000 0,.pt (.sl m::.sl l::IC n::Sj x) 0] (oU k x):=by
 intro bs hb;generalize a:(.sl m::.sl l::IC n::Sj x:List C)=es;have o:=(Yb hk.toKdOk x.cells (cs:=wO) (fun y=>by obtain⟨_,_,v⟩:=y;cases v;rfl) fun y b=>Ym hk y (j.1 y b)).at (es:=es) (off:=3) (by rw[<-a];rfl);have r:=(Ya hk.toKdOk x.arenas (cs:=EH) (fun _=>rfl) fun y _=>Yg hk.toKdOk y).at (es:=es) (off:=4) (by rw[<-a];rfl);have w3:=(Yc hk.toKdOk x.tasks (cs:=z8) (fun _=>rfl) fun y b=>Yn hk y (j.2.1 y b)).at (es:=es) (off:=5) (by rw[<-a];rfl);have w4:=(Yd hk.toKdOk x.channels (cs:=Iy) (fun _=>rfl) fun y b=>UG hk y (j.2.2 y b)).at (es:=es) (off:=6) (by rw[<-a];rfl);have w5:=(Ye hk.toKdOk x.outputs (cs:=Lh) (fun _=>rfl) fun y _=>Yo hk y).at (es:=es) (off:=7) (by rw[<-a];rfl);have s:=(CD hk.toKdOk [x.made,x.dropped,x.closed]).pts (es:=es) (os:=[8,9,10]) (by rw[<-a];exact⟨rfl,rfl,rfl,trivial⟩);refine au Tryz.func35 Gj rfl fun hw ho=>?_;refine xM o (eW hb) rfl rfl (fun h=>⟨rfl,eL h⟩) fun u=>?_;have c:=eG hb;refine xM r (eW c) rfl rfl (fun h=>⟨rfl,aX (eL h)⟩) fun p=>?_;have e:=eG c;refine xM w3 (eW e) rfl rfl (fun h=>⟨rfl,aX (aX (eL h))⟩) fun o3=>?_;have f:=eG e;refine xM w4 (eW f) rfl rfl (fun h=>⟨rfl,aX (aX (aX (eL h)))⟩) fun w=>?_;have d:=eG f;refine xM w5 (eW d) rfl rfl (fun h=>⟨rfl,aX (aX (aX (aX (eL h))))⟩) fun z=>?_;refine Ah s (eG d) rfl rfl rfl (fun h=>⟨rfl,aX (aX (aX (aX (aX h))))⟩) fun q=>?_;exact dK [1000,1001] rfl rfl rfl rfl ⟨fS u (fS p (fS o3 (fS w (fS z q)))),j3 (WB k.tb) (Yf _ _ _ _ _ _ _),rfl⟩
end
end Go.Fr.Tryz
namespace Go.Fr.Tryz
open Go Go.RowKit Go.Proofs Go.Fr Go.Fr.T Go.Fr.Api Go.Fr.Dm
theorem Ek:∀(l:List Int) (h:Int),(∀x∈l,0<=x)->0<=h/\h<2147483647->0<=l.foldl s9 h/\l.foldl s9 h<2147483647
 | [],h,_,hb=>hb
 | x::l,h,a,hb=>Ek l _ (fun y b=>a y (by simp[b])) (zo hb.1 (a x (by simp)))
def kZ (bs:List UInt8):Int:=UK (CF bs)
theorem mH (bs:List UInt8):0<=kZ bs/\kZ bs<2147483647:=Ek _ _ (fun x a=>by
 simp only[CF,abk] at a;obtain⟨b,_,rfl⟩:=a;omega) (by omega)
theorem t67 (b:UInt8):CallsT PZ 67 [jU b] [] (jv [] (.int .i64 b.toNat)):=by
 refine aq Tryz.func67 OD rfl fun a _=>?_;refine Fit.aad (by omega) (by have:=b.toNat_lt;omega) ?_;exact aO rfl rfl
theorem t66 (bs:List UInt8):CallsT PZ 66 [.sl (ak bs),.fn 67 [] []] [] (jv [] (IC (kZ bs))):=by
 refine aq Tryz.func66 OC rfl fun l _=>?_;have s:=xw l.1;refine aZ bs.length 10 [5] 7 (fun h=>[.int .i64 h]) (fun _=>[]) (fun k h=>0<=h/\h<2147483647/\(CF (bs.drop k)).foldl s9 h=kZ bs) ⟨by omega,by omega,rfl⟩
  (aj rfl) ⟨aj rfl,trivial⟩ trivial (fun _=>rfl) (fun _=>rfl) ?_
 rintro k h r ⟨f,q,d⟩ o _ e;refine aK (fun a=>?_) (fun c=>?_)
 ·have a:k<bs.length:=by simpa[ak] using a
  obtain⟨b,hb,n⟩:=drop_cons a;rw[n] at d;obtain⟨m,p⟩:=zo (x:=b.toNat) f (by omega);have j:=b.toNat_lt;refine RO hb ?_;refine Fit.aad (by omega) (by omega) ?_;refine bM (t67 b) rfl fun _=>?_;refine Fit.aad (by omega) (by omega) ?_;refine Fit.aad (by omega) (by omega) ?_;refine oG.mk (by omega) ?_;refine Fit.aad (by omega) (by omega) ?_;exact⟨(k+1,s9 h b.toNat),⟨a,m,p,d⟩,⟨bn,aj rfl,trivial⟩,trivial,bq a⟩
 ·have c:¬k<bs.length:=by simpa[ak] using c
  rw[gU c] at d;exact aO rfl (j3 (C.int .i64) d)
theorem Tp (bs:List UInt8):CallsT PZ 23 [.sl (ak bs)] [] (jv [] (IC (kZ bs))):=by
 refine aq Tryz.func23 NZ rfl fun a _=>?_;refine bM (t66 bs) rfl fun _=>?_;exact aO rfl rfl
theorem t47 (bs:List UInt8):CallsT PZ 47 [.sl (ak bs)] [] (jv [] (IC (kZ bs))):=by
 refine aq Tryz.func47 Oo rfl fun f _=>?_;have d:bs.length<=9223372036854775807:=xw f.1;refine aZ bs.length 4 [3] (7:Int) (fun h=>[IC h]) (fun _=>[]) (fun k h=>(CF (bs.drop k)).foldl s9 h=kZ bs/\0<=h/\h<2147483647) ⟨rfl,by omega,by omega⟩ (aj rfl) ⟨aj rfl,trivial⟩ trivial (fun _=>rfl) (fun _=>rfl) ?_;rintro k h p ⟨a,m,q⟩ _ _ _;refine aK (fun b=>?_) (fun c=>?_)
 ·have b:k<bs.length:=by simpa[ak] using b
  refine fC b fun x o j n=>?_;rw[n] at a;have l:=x.toNat_lt;refine Fit.aad (by omega) (by omega) ?_;refine RO o ?_;refine Fit.aad (by omega) (by omega) ?_;refine Fit.aad (by omega) (by omega) ?_;refine Fit.aad (by omega) (by omega) ?_;refine oG.mk (by omega) ?_;have e:=zo (x:=x.toNat) m (by omega);refine Fit.aad (by omega) (by omega) ?_;exact⟨(k+1,s9 h x.toNat),⟨b,a,e.1,e.2⟩,⟨bn,aj rfl,trivial⟩,trivial,bq b⟩
 ·have c:¬k<bs.length:=by simpa[ak] using c
  rw[gU c] at a;exact aO rfl (j3 (C.int .i64) a)
theorem rL (a b:List UInt8):ug ⟨a.toArray⟩ ⟨b.toArray⟩=decide (a=b):=by simp[ug]
theorem t31 (a b:List UInt8):CallsT PZ 31 [.sl (ak a),.sl (ak b)] [] (jv [] (.bool (decide (a=b)))):=by
 refine aq Tryz.func31 Od rfl fun c _=>?_;refine nG.mk ⟨a,rfl,?_⟩;refine nG.mk ⟨b,rfl,?_⟩;exact aO rfl (j3 C.bool (rL a b))
def Tq (n:Int):UInt8:=UInt8.ofNat n.toNat
def sK (bs:List UInt8):List UInt8:=[Tq (kZ bs / 16777216),Tq (kZ bs / 65536),Tq (kZ bs / 256),Tq (kZ bs)]
def gJ (b:List UInt8):List UInt8:=b++sK b
theorem mA {n m:Int}(h:0<=m) (e:n=m):IntKind.wrap .u8 n=((Tq m).toNat:Int):=by
 subst e;simp only[IntKind.wrap,IntKind.bits,IntKind.signed,Tq,UInt8.toNat_ofNat'];simp;omega
theorem Yq:∀bs:List UInt8,bs.length<=70368744177664->CallsT PZ 73 [.sl (ak bs)] [] (jv [.row 5 1 (ak bs)] (.rw 1000))
 | [],hb=>by
  refine aq Tryz.func73 Gl rfl fun c _=>?_;intro b _;refine af (fun _=>?_) (fun _=>?_)
  ·exact VP 2 5 1 rfl rfl
  ·refine sJ 0 rfl (by simp) ?_;exact zW [5] rfl rfl rfl rfl
 | x::l,hb=>by
  refine aq Tryz.func73 Gl rfl fun c _=>?_;intro b a;refine af (fun h=>?_) (fun _=>?_)
  ·rw[a (by simp[ak])] at h;cases h
  ·refine sJ 0 rfl (by omega) ?_;exact zW [5] rfl rfl rfl rfl
theorem UM (b:List UInt8):ak b++ak (sK b)=ak (gJ b):=by simp[ak,gJ]
theorem t32 (bs:List UInt8) (hb:bs.length<=70368744177664):CallsT PZ 32 [.sl (ak bs)] [] (jv [.row 5 1 (ak (gJ bs))] (.rw 1000)):=by
 obtain⟨c,d⟩:=mH bs;refine aq Tryz.func32 Oe rfl fun a _=>?_;refine bM (Tp bs) rfl fun _=>?_;refine callO [] [7] (Yq bs hb) rfl rfl rfl rfl rfl fun _ _=>?_;refine⟨by decide,?_⟩;refine Fit.to (mA (m:=kZ bs / 16777216) (by omega) (Int.fdiv_eq_ediv_of_nonneg (b:=16777216) _ (by omega))) ?_;refine⟨by decide,?_⟩;refine Fit.to (mA (m:=kZ bs / 65536) (by omega) (Int.fdiv_eq_ediv_of_nonneg (b:=65536) _ (by omega))) ?_;refine⟨by decide,?_⟩;refine Fit.to (mA (m:=kZ bs / 256) (by omega) (Int.fdiv_eq_ediv_of_nonneg (b:=256) _ (by omega))) ?_;refine Fit.to (mA (m:=kZ bs) (by omega) rfl) ?_;refine sJ (bs:=sK bs) bs.length aQ (by simp[sK];omega) ?_;exact zW [7] rfl rfl (j3 (fun q=>[TO.row 5 1 q]) (UM bs)) rfl
theorem t24 (bs:List UInt8):CallsT PZ 24 [.sl (ak bs)] [] (jv [] (.sl (ak (sK bs)))):=by
 obtain⟨c,d⟩:=mH bs;refine aq Tryz.func24 N0 rfl fun a _=>?_;refine bM (t47 bs) rfl fun _=>?_;refine⟨by decide,?_⟩;refine Fit.to (mA (m:=kZ bs / 16777216) (by omega) (Int.fdiv_eq_ediv_of_nonneg (b:=16777216) _ (by omega))) ?_;refine⟨by decide,?_⟩;refine Fit.to (mA (m:=kZ bs / 65536) (by omega) (Int.fdiv_eq_ediv_of_nonneg (b:=65536) _ (by omega))) ?_;refine⟨by decide,?_⟩;refine Fit.to (mA (m:=kZ bs / 256) (by omega) (Int.fdiv_eq_ediv_of_nonneg (b:=256) _ (by omega))) ?_;refine Fit.to (mA (m:=kZ bs) (by omega) rfl) ?_;exact aO rfl rfl
def di:List UInt8:=[76,83,1]
theorem Zs:CallsT PZ 30 [] [] (jv [] (.sl (ak di))):=by
 refine aq Tryz.func30 Oc rfl fun a _=>?_;exact aO rfl rfl
theorem LG (a b:List UInt8):decide ((a.take b.length)=b)=decide (b <+: a):=by
 congr 1;exact propext ⟨fun h=>h▸List.take_prefix _ _,fun⟨t,h⟩=>by rw[<-h];simp⟩
theorem t29 (a b:List UInt8):CallsT PZ 29 [.sl (ak a),.sl (ak b)] [] (jv [] (.bool (decide (b <+: a)))):=by
 refine aq Tryz.func29 Ob rfl fun d _=>?_;have c:(ak a).length=a.length:=aQ;have hb:(ak b).length=b.length:=aQ;refine aK (fun h=>?_) (fun h=>?_)
 ·rw[c,hb] at h;refine Dl.mk (abj 0) (by omega) (by rw[c,hb];exact h) gO ?_;refine bM (t31 (a.take b.length) b) (j3 (fun q=>[C.sl q,C.sl (ak b)]) (?_:((ak a).drop 0).take (((ak b).length:Int).toNat-0)=ak (a.take b.length))) fun _=>?_
  ·rw[iH,hb];simp
  ·exact aO rfl (j3 C.bool (LG a b))
 ·rw[c,hb] at h;refine aO rfl (j3 C.bool (?_:false=_))
  symm
  exact decide_eq_false fun q=>h (by have:=q.length_le;omega)
theorem Zt (n:Nat) (b:n<=4611686018427387904):CallsT PZ 61 [IC n] [] (jv [] (IC ((n+31) / 32:Nat))):=by
 refine aq Tryz.func61 OA rfl fun a _=>?_;refine Fit.aad (by omega) (by omega) ?_;refine oG.mk (by omega) ?_;refine Fit.to (m:=(((n+31) / 32:Nat):Int)) (by show IntKind.wrap .i64 (((n+31) / 32:Nat):Int)=_;exact bZ (by omega) (by omega)) ?_;exact aO rfl rfl
def cQ (b:List UInt8) (i:Nat):List UInt8:=(b.drop (32*i)).take 32
theorem Pu (b:List UInt8) (i:Nat):((ak b).drop (min (32*i) b.length)).take (min (32*i+32) b.length-min (32*i) b.length)=ak (cQ b i):=by
 rw[iH];congr 1;unfold cQ
 by_cases h:32*i<=b.length
 ·rw[Nat.min_eq_left h]
  by_cases a:32*i+32<=b.length
  ·rw[Nat.min_eq_left a];congr 1;omega
  ·rw[Nat.min_eq_right (by omega),abz (by simp),abz (by simp;omega)]
 ·have e:min (32*i) b.length=b.length:=Nat.min_eq_right (by omega);rw[e,List.drop_eq_nil_of_le (aa8 b.length),List.drop_eq_nil_of_le (by omega:b.length<=32*i)];simp
theorem Yr (b:List UInt8) (i:Nat) (hi:i<=1125899906842624):CallsT PZ 62 [.sl (ak b),IC i] [] (jv [] (.sl (ak (cQ b i)))):=by
 refine aq Tryz.func62 Gk rfl fun d _=>?_;have hb:(ak b).length=b.length:=aQ;have l:=xw d.1;have c:(if((ak b).length:Int)<32*(i:Int) then((ak b).length:Int) else 32*(i:Int))=((min (32*i) b.length:Nat):Int):=by
  rw[hb];split<;>omega
 have a:(if((ak b).length:Int)<32*(i:Int)+32 then((ak b).length:Int) else 32*(i:Int)+32)=((min (32*i+32) b.length:Nat):Int):=by
  rw[hb];split<;>omega
 have j:0<=(if((ak b).length:Int)<32*(i:Int) then((ak b).length:Int) else 32*(i:Int)):=by rw[c];omega
 have f:(if((ak b).length:Int)<32*(i:Int) then((ak b).length:Int) else 32*(i:Int))<=(if((ak b).length:Int)<32*(i:Int)+32 then((ak b).length:Int) else 32*(i:Int)+32):=by rw[c,a];omega
 have h:(if((ak b).length:Int)<32*(i:Int)+32 then((ak b).length:Int) else 32*(i:Int)+32)<=((ak b).length:Int):=by rw[a,hb];omega
 have e:((ak b).drop (if((ak b).length:Int)<32*(i:Int) then((ak b).length:Int) else 32*(i:Int)).toNat).take ((if((ak b).length:Int)<32*(i:Int)+32 then((ak b).length:Int) else 32*(i:Int)+32).toNat-(if((ak b).length:Int)<32*(i:Int) then((ak b).length:Int) else 32*(i:Int)).toNat)=ak (cQ b i):=by
  rw[c,a];exact Pu b i
 have wf:∀n:Nat,n<=b.length->(Lit.int .i64 (n:Int)).wf=true:=by
  intro n k;simp[Lit.wf,IntKind.min,IntKind.max,IntKind.bits,IntKind.signed];omega
 refine Fit.aad (by omega) (by omega) ?_;refine⟨(j3 (fun q=>(Lit.int .i64 q).wf) c).trans (wf _ (Nat.min_le_right _ _)),?_⟩;refine Fit.aad (by omega) (by omega) ?_;refine Fit.aad (by omega) (by omega) ?_;refine⟨(j3 (fun q=>(Lit.int .i64 q).wf) a).trans (wf _ (Nat.min_le_right _ _)),?_⟩;refine Dl.mk j f h gO ?_;exact aO rfl (j3 C.sl e)
end Go.Fr.Tryz
namespace Go.Fr.Tryz
open Go Go.RowKit Go.Proofs Go.Fr Go.Fr.T Go.Fr.Api
theorem QC:∀{bs:List Own}{n:Nat},EF bs [n]->∃g t cs,bs=[.box g (t+1) cs]/\cs.length=n
 | [],_,h=>h.elim
 | [o],n,h=>by
  cases o with
  | row=>exact h.1.elim
  | box g t cs =>
   cases t with
   | zero=>exact h.1.elim
   | succ t=>exact⟨g,t,cs,rfl,h.1⟩
 | _::_::_,_,h=>h.2.elim
theorem qD.mono {P:Program}{H:Nat}{PS PS':Value->Prop}{ns:List Nat}{out:Value->List (List Value)}(h:qD P H PS ns out) (b:∀v,PS' v->PS v):qD P H PS' ns out :=
 ⟨h.inv,h.idle,fun F bs v a w c=>h.caught F bs v a w (b v c)⟩
def LH (v:Value):List (List Value):=[[.bool false]]
theorem SH (bs:List Own) (w:World) (hb:EF bs [1]):CallsD PZ 74 (bs.map n8).toArray .returning w fun e b w'=>e=.returned (.tuple #[])/\b=.returning/\w'=w:=by
 have c:Tryz.f74.ntmps=15:=by kernel_rfl
 have f:Tryz.f74.results=#[]:=by kernel_rfl
 obtain⟨g,t,cs,rfl,_⟩:=QC hb;refine callsD_of_wpS Tryz.func74 rfl fun a cs d=>?_;apply wpS_seq;apply wpS_region;simp[wpOpsS,go_sem,recoverD,d,c,Exit.thenS,n8];apply wpS_seq;apply wpS_region;simp[wpOpsS,go_sem,Exit.thenS];refine wpS_cond (t:=false) (by simp[Act.eval,Array.replicate]) ?_;simp only[aaZ,abp];refine wpS_of_wp (wp_skip ?_);cases a
 simp_all [bodyPostS,results]
theorem xN:qD PZ 74 (fun v=>v=fW) [1] LH:=by
 refine Cl Tryz.func74 OL rfl SH ?_;rintro F bs v rfl hb;obtain⟨g,t,cs,rfl,b⟩:=QC hb
 match cs,b with
 | [a],_ =>
  (try intro d)<;>(try intro c)<;>exact rfl
def uX (a c:List (List C)) (b:Int) (x:Wd):List C:=.sl a::.sl c::IC b::Sj x
section
variable {L:TL}{ρ:aY}
theorem CG (ks:List Nat) {f:Nat}{args a:List C}{K:TL->aY->C->Prop}{R:List TO->C->Prop}{Lin Lin':List TO}(h:CallsT PZ f a Lin' R) (e:L.sub ks=some Lin)
  (b:(T.bP ks&&T.mP L ks ks&&aW Lin ks ks)=true) (m:(args.map fun c=>c.aaj.ren (cn ks 1000))=a) (j:Lin.map (TO.aag (C.ren (cn ks 1000)))=Lin')
  (k:∀v Mo,R Mo v->Wf v->(∀o∈Mo,o.Wf)->ks.length=Mo.length/\K (((L.aaf ks).kills (rowsOf L ks)).puts ks (Mo.map (TO.aag (C.ren (br ks))))) (fP (rowsOf L ks) ρ) (v.ren (br ks)).slt):pE PZ f args L ρ K:=by
 subst m j;simp only[yo] at b;obtain⟨⟨d,l⟩,c3⟩:=b;exact .mk ⟨[],ks,ks,L,Lin,_,.inl rfl,e,d,d,l,c3,h,k⟩
end
def EB (bs:List UInt8):List TO:=[.box 102 [.own 1001 0],.box 108 [.rw 1002,IC 0,.int .i8 0],.row 5 1 (ak bs)]
theorem t49 (d b:List (List C)) (f:Int) (x:Wd) (k:FD x) (bs:List UInt8) (hb:bs.length+(oU kW x).1.length<=70368744177664) :
  CallsTX PZ 49 [.own 1000 0,.pt (uX d b f x) 0] (EB bs) (fun Mo c=>(oU kW x).2=true/\Mo=EB (bs++(oU kW x).1)/\c=.tup []) (fun v=>v=fW/\(oU kW x).2=false):=by
 have a:=UJ Yi d b f x k bs hb;generalize oU kW x=e at a ⊢;obtain⟨o,p⟩:=e;unfold uX;generalize j:(.sl d::.sl b::IC f::Sj x:List C)=es at a ⊢;refine au Tryz.func49 Ot rfl fun n m=>?_;refine ck [1001,1002] a rfl rfl rfl rfl (fun v h=>h) ?_;rintro v Mo ⟨l,rfl,rfl⟩ _ _;refine⟨rfl,?_⟩;exact dK [1000,1001,1002] rfl rfl rfl rfl ⟨l,rfl,rfl⟩
end Go.Fr.Tryz
