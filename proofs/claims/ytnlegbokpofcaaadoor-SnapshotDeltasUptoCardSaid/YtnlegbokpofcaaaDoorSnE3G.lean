/- Part of the proofs of the statements of this seat. -/
import Derived.Test.YtnlegbokpofcaaaDoorSnT5G
import Derived.Test.YtnlegbokpofcaaaDoorSnT8G
import Derived.Test.YtnlegbokpofcaaaDoorSnW1G
import Derived.Test.YtnlegbokpofcaaaDoorFW3
set_option maxRecDepth 10000
set_option linter.unusedVariables false
set_option linter.unusedSimpArgs false
namespace Go.Fr.Tryd
open Go Go.RowKit Go.Proofs Go.Fr Go.Fr.T Go.Fr.Api
structure rF (k:Kd):Prop where
 num:∃f,m8 PZ k.t "leasehold/snapshot.num"=some f/\(∀n,eL k f [.own 1000 0,.pt [IC n] 0] (k.num n))/\∀n,QL k f n
 siz:∃f,m8 PZ k.t "leasehold/snapshot.size"=some f/\∀n:Nat,PU k f [.own 1000 0,IC n] (k.siz n) (IC n)
 mkn:LC Er k.t "leasehold/snapshot.num"=true
 mks:LC Er k.t "leasehold/snapshot.size"=true
theorem yX:rF kW:=⟨⟨116,by kernel_rfl,QJ,O2⟩,⟨117,by kernel_rfl,QK⟩,rfl,rfl⟩
theorem yY:rF kL:=⟨⟨118,by kernel_rfl,O1,O3⟩,⟨119,by kernel_rfl,t119⟩,rfl,rfl⟩
theorem C0 {l:List C}(h:dm l=true) (n:Nat):dm (l.take n)=true:=ia.2 fun c a=>ia.1 h c (List.mem_of_mem_take a)
theorem C2 {l:List C}(h:dm l=true) (n:Nat):dm (l.drop n)=true:=ia.2 fun c a=>ia.1 h c (List.mem_of_mem_drop a)
theorem Eg {F:aA}{L:Loc}{es es':List C}{off:Nat}{v:Value}(e:(es.drop off).take es'.length=es') (h:Rel F L (.pt es off) v):Rel F L (.pt es' 0) v:=by
 simp only[Rel] at h ⊢;obtain⟨b,o,vs,rfl,⟨c,d,t,m,hb,n,f⟩,j,l⟩:=h;refine⟨b,o,(vs.drop off).take es'.length,rfl,⟨c+off,d,t,m,hb,by omega,fun i v a=>?_⟩,?_,?_⟩
 ·rw[Xx] at a;split at a
  case isFalse=>cases a
  rw[Xu] at a;have:=f _ _ a
  rwa [<-Nat.add_assoc] at this
 ·rw[<-e];exact C0 (C2 j off) _
 ·have:=(l.drop off).take es'.length
  rwa [e] at this
theorem Eh {P:Program}{f:Nat}{args a:List C}{Lin:List TO}{R:List TO->C->Prop}{Pp:Value->Prop}(h:CallsTX P f args Lin R Pp) (e:∀F L vs,aB F L a vs->aB F L args vs):CallsTX P f a Lin R Pp :=
 ⟨fun F Li vs b d c=>h.out F Li vs b d (e _ _ _ c)⟩
theorem BM {F:aA}{L:Loc}{a b:List C}{c l:C}(n:∀v,Rel F L c v->Rel F L l v):∀{vs:List Value},aB F L (a++c::b) vs->aB F L (a++l::b) vs:=by
 induction a with
 | nil =>
  intro vs h;simp only[Xz,aB] at h ⊢;obtain⟨v,e,rfl,f,j⟩:=h;exact⟨v,e,rfl,n v f,j⟩
 | cons d a m =>
  intro vs h;simp only[Xg,aB] at h ⊢;obtain⟨v,e,rfl,f,j⟩:=h;exact⟨v,e,rfl,f,m j⟩
theorem eL.at {k:Kd}{f:Nat}{b:C}{ca:List C}{es es':List C}{off:Nat}{e:Enc}(h:eL k f (b::.pt es' 0::ca) e) (d:(es.drop off).take es'.length=es'):eL k f (b::.pt es off::ca) e :=
 fun bs hb=>Eh (h bs hb) fun F L vs j=>BM (a:=[b]) (fun v c=>Eg d c) j
def Ei (es:List C):List Nat->List C->Prop
 | o::os,c::cs=>es[o]?=some c/\Ei es os cs
 | [],[]=>True
 | _,_=>False
theorem BN {F:aA}{a:Option Addr}{sz:Nat}{es:List C}:∀{os:List Nat}{cs:List C}{i:Nat},Ei es os cs->fE F a sz i (os.map fun o=>[.pt es o])->fE F a sz i (cs.map fun c=>[.pt [c] 0])
 | [],[],i,_,h=>by simp only[XV,fE]
 | o::os,c::cs,i,b,h=>by
  simp only[W6,fE] at h ⊢;obtain⟨⟨vs,l,n,p,e⟩,m⟩:=h;refine⟨⟨vs,l,n,rfl,?_⟩,BN b.2 m⟩;simp only[aB] at e ⊢;obtain⟨v,d,rfl,f,j⟩:=e;refine⟨v,d,rfl,Eg (es':=[c]) ?_ f,j⟩;exact take_one b.1
 | [],_::_,i,b,h=>b.elim
 | _::_,[],i,b,h=>b.elim
theorem yZ {es:List C}:∀{os:List Nat}{cs:List C},Ei es os cs->os.length=cs.length
 | [],[],_=>rfl
 | o::os,c::cs,h=>by simp[yZ h.2]
theorem eL.pts {k:Kd}{f:Nat}{d:C}{es:List C}{os:List Nat}{cs:List C}{e:Enc}(h:eL k f [d,.sl (cs.map fun c=>[.pt [c] 0])] e) (l:Ei es os cs):eL k f [d,.sl (os.map fun o=>[.pt es o])] e :=
 fun bs hb=>Eh (h bs hb) fun F L vs q=>BM (a:=[d]) (b:=[]) (fun v j=>by
  simp only[Rel] at j ⊢;obtain⟨a,c,rfl,u,r,n,sz,t⟩:=j;have m:=yZ l;simp only[Xf] at u r n ⊢;refine⟨a,c,by rw[m],by omega,by omega,fun e=>?_,sz,BN l t⟩;obtain⟨p,s⟩:=n e;have:os=[]:=by simpa using p
  subst this;have:cs=[]:=Xp (by simpa using m.symm);subst this;exact⟨rfl,s⟩) q
theorem HY {a b:Enc}(p:List UInt8) (h:a.2=true):bn (p,true) (bn a b)=bn (p++a.1,true) b:=by
 obtain⟨q,y⟩:=a;simp only at h;subst h;simp[bn]
theorem HZ {a b:Enc}(p:List UInt8) (h:a.2=false):(bn (p,true) (bn a b)).2=false:=by simp[bn,h]
theorem iK {b:Type}{f:b->Enc}{l:List b}{k:Nat}{x:b}{bs s p:List UInt8}(c:l.drop k=x::l.drop (k+1)) (e:s=bs++p) (a:aX f l=bn (p,true) (aX f (l.drop k))) (hb:bs.length+(aX f l).1.length<=70368744177664) :
  s.length+(f x).1.length<=70368744177664/\((f x).2=false->(aX f l).2=false)/\((f x).2=true->aX f l=bn (p++(f x).1,true) (aX f (l.drop (k+1)))):=by
 rw[c] at a;have d:aX f (x::l.drop (k+1))=bn (f x) (aX f (l.drop (k+1))):=rfl;rw[d] at a;refine⟨?_,fun h=>by rw[a];exact HZ p h,fun h=>by rw[a,HY p h]⟩;rw[a] at hb;rw[e];simp only[bn,W4] at hb ⊢;omega
theorem kR {b:Type}{f:b->Enc}{l:List b}{k:Nat}{bs s p:List UInt8}(c:l.drop k=[]) (d:s=bs++p) (a:aX f l=bn (p,true) (aX f (l.drop k))):(aX f l).2=true/\s=bs++(aX f l).1:=by
 rw[c] at a;rw[a,d];simp[bn,aX,N9]
section
variable {k:Kd}(hk:rF k)
include hk
theorem Af (ns:List Int):eL k 55 [.ifo none k.t 1000 0,.sl ((ns.map IC).map fun c=>[.pt [c] 0])] (aX k.num ns):=by
 intro bs hb;obtain⟨fn,l,m,_⟩:=hk.num;rw[XR];refine ai Tryd.func55 DR rfl fun hw ho=>?_;have y:=zP hw.2.1;have f:((ns.map ((fun c=>[C.pt [c] 0])∘IC)).length:Int)=ns.length:=by simp
 refine bW ns.length 8 [] bs (fun _=>[]) (fun s=>CU k.tb s) (fun i s=>∃p,s=bs++p/\aX k.num ns=bn (p,true) (aX k.num (ns.drop i))) ⟨[],by simp,by simp[bn]⟩ (aq rfl) trivial
  ⟨.inl ⟨_,rfl,.inl ⟨rfl,rfl⟩⟩,.inl ⟨_,rfl,.inl ⟨rfl,rfl⟩⟩,trivial⟩ (fun _=>rfl) (fun _=>rfl) ?_
 rintro i s hi ⟨p,n,b⟩ _ _ _;refine aV (fun a=>?_) (fun d=>?_)
 ·have a:i<ns.length:=by
   have h:(i:Int)<((ns.map ((fun c=>[C.pt [c] 0])∘IC)).length:Int):=a;rw[f] at h;omega
  refine d9 a fun x u w r=>?_;obtain⟨z,q,g3⟩:=iK r n b hb;refine jr u rfl rfl ?_;refine⟨fn,l,?_⟩;refine bO [1000,1001] (m x s z) rfl rfl rfl rfl (fun v ⟨e,h⟩=>⟨e,q h⟩) ?_;rintro v Mo ⟨j,rfl,rfl⟩ _ _;refine⟨rfl,?_⟩;refine Fit.Wi (by omega) (by omega) ?_;exact⟨(i+1,s++(k.num x).1),⟨by omega,p++(k.num x).1,by rw[n,W7],g3 j⟩,⟨cF,trivial⟩,⟨.inl ⟨_,rfl,.inl ⟨rfl,rfl⟩⟩,.inl ⟨_,rfl,.inl ⟨rfl,rfl⟩⟩,trivial⟩,cG a⟩
 ·have d:¬i<ns.length:=by
   have h:¬(i:Int)<((ns.map ((fun c=>[C.pt [c] 0])∘IC)).length:Int):=d;rw[f] at h;omega
  obtain⟨j,o⟩:=kR (fG d) n b;exact cR [1000,1001] rfl rfl rfl rfl ⟨j,o6 (WB k.tb) o,rfl⟩
theorem H6 (ns:List Bool):eL k 64 [.ifo none k.t 1000 0,.sl ((ns.map C.bool).map fun c=>[.pt [c] 0])] (aX (qb k) ns):=by
 intro bs hb;obtain⟨fn,n,_,o⟩:=hk.num;rw[XR];refine ai Tryd.func64 DT rfl fun hw ho=>?_;have aa:=zP hw.2.1;have f:((ns.map ((fun c=>[C.pt [c] 0])∘C.bool)).length:Int)=ns.length:=by simp
 refine bW ns.length 9 [] bs (fun _=>[]) (fun s=>CU k.tb s) (fun i s=>∃p,s=bs++p/\aX (qb k) ns=bn (p,true) (aX (qb k) (ns.drop i))) ⟨[],by simp,by simp[bn]⟩ (aq rfl) trivial
  ⟨.inl ⟨_,rfl,.inl ⟨rfl,rfl⟩⟩,.inl ⟨_,rfl,.inl ⟨rfl,rfl⟩⟩,trivial⟩ (fun _=>rfl) (fun _=>rfl) ?_
 rintro i s hi ⟨p,m,b⟩ _ _ _;refine aV (fun a=>?_) (fun d=>?_)
 ·have a:i<ns.length:=by
   have h:(i:Int)<((ns.map ((fun c=>[C.pt [c] 0])∘C.bool)).length:Int):=a;rw[f] at h;omega
  refine d9 a fun x y z w=>?_;obtain⟨g1,u,q⟩:=iK w m b hb;refine jr y rfl rfl ?_;refine aH (fun j=>?_) (fun j=>?_)
  all_goals
   subst j;refine⟨fn,n,?_⟩;refine bO [1000,1001,6] (o _ s g1) rfl rfl rfl rfl (fun v ⟨e,h⟩=>⟨e,u h⟩) ?_;rintro v Mo ⟨l,rfl,rfl⟩ _ _;refine⟨rfl,?_⟩
  ·refine tO (sN true) rfl (fun h=>by cases h) fun _=>?_;refine⟨rfl,?_⟩;refine Fit.Wi (by omega) (by omega) ?_;exact⟨(i+1,s++(qb k true).1),⟨by omega,p++(qb k true).1,by rw[m,W7],q l⟩,⟨cF,trivial⟩,⟨.inl ⟨_,rfl,.inl ⟨rfl,rfl⟩⟩,.inl ⟨_,rfl,.inl ⟨rfl,rfl⟩⟩,trivial⟩,cG a⟩
  ·refine tO (sN true) rfl (fun h=>by cases h) fun _=>?_;refine⟨rfl,?_⟩;refine Fit.Wi (by omega) (by omega) ?_;exact⟨(i+1,s++(qb k false).1),⟨by omega,p++(qb k false).1,by rw[m,W7],q l⟩,⟨cF,trivial⟩,⟨.inl ⟨_,rfl,.inl ⟨rfl,rfl⟩⟩,.inl ⟨_,rfl,.inl ⟨rfl,rfl⟩⟩,trivial⟩,cG a⟩
 ·have d:¬i<ns.length:=by
   have h:¬(i:Int)<((ns.map ((fun c=>[C.pt [c] 0])∘C.bool)).length:Int):=d;rw[f] at h;omega
  obtain⟨l,r⟩:=kR (fG d) m b;exact cR [1000,1001] rfl rfl rfl rfl ⟨l,o6 (WB k.tb) r,rfl⟩
end
theorem Rb {k:Kd}(hk:rF k) {q:Type}{f:Nat}{enc:q->Enc}{cs:q->List C}(l:List q) (hl:∀x,T.cT (cs x) 1=true) (hf:∀x∈l,eL k f (.ifo none k.t 1000 0::.pt (cs x) 0::[]) (enc x)) :
  eL k 70 [.ifo none k.t 1000 0,.pt [.sl (l.map cs)] 0,.fn f [] []] (bR k enc l):=by
 intro bs hb;obtain⟨fs,u,r⟩:=hk.siz;have hE:bR k enc l=bn (k.siz (l.map cs).length) (aX enc l):=by unfold bR;rw[Xf]
 rw[hE] at hb ⊢;have w:bs.length+(k.siz (l.map cs).length).1.length<=70368744177664:=by
  simp only[bn,W4] at hb;omega
 refine ai Tryd.func70 DZ rfl fun hw ho=>?_;have m:(l.map cs).length<=9223372036854775807:=by have h:=hw.2.1.1.1;simp only[maxLen] at h;exact h
 refine⟨hk.mks,?_⟩;refine⟨fs,u,?_⟩;refine bY [1000,1001] (r (l.map cs).length bs w) rfl rfl rfl rfl (fun v ⟨e,h⟩=>⟨e,by show(_&&_)=false;rw[h];rfl⟩) ?_;rintro v Mo ⟨e0,rfl,rfl⟩ _ _;refine⟨rfl,?_⟩;refine aH (fun h=>?_) (fun _=>?_)
 ·simp at h
 have d:(bs++(k.siz (l.map cs).length).1).length+(aX enc l).1.length<=70368744177664:=by
  simp only[bn,W4] at hb ⊢;omega
 generalize y:bs++(k.siz (l.map cs).length).1=b1 at d;have j:((l.map cs).length:Int)=l.length:=by simp
 refine bW l.length 31 [] b1 (fun _=>[]) (fun s=>CU k.tb s) (fun i s=>∃p,s=b1++p/\aX enc l=bn (p,true) (aX enc (l.drop i))) ⟨[],by simp,by simp[bn]⟩ (aq rfl) trivial
  ⟨.inl ⟨_,rfl,.inl ⟨rfl,rfl⟩⟩,.inl ⟨_,rfl,.inl ⟨rfl,rfl⟩⟩,trivial⟩ (fun _=>rfl) (fun _=>rfl) ?_
 rintro i s hi ⟨p,z,b⟩ _ _ _;refine aV (fun a=>?_) (fun c=>?_)
 ·have a:i<l.length:=by
   have h:(i:Int)<((l.map cs).length:Int):=a;rw[j] at h;omega
  refine d9 a fun x hx o hd=>?_;obtain⟨g1,g2,g3⟩:=iK hd z b d;refine jr hx rfl (hl x) ?_;refine bO [1000,1001] (hf x o s g1) rfl rfl rfl rfl (fun v ⟨e,h⟩=>⟨e,by show(_&&_)=false;rw[g2 h,XC]⟩) ?_;rintro v Mo ⟨n,rfl,rfl⟩ _ _;refine⟨rfl,?_⟩;refine Fit.Wi (by omega) (by rw[Xf] at m;omega) ?_;exact⟨(i+1,s++(enc x).1),⟨by omega,p++(enc x).1,by rw[z,W7],g3 n⟩,⟨cF,trivial⟩,⟨.inl ⟨_,rfl,.inl ⟨rfl,rfl⟩⟩,.inl ⟨_,rfl,.inl ⟨rfl,rfl⟩⟩,trivial⟩,cG a⟩
 ·have c:¬i<l.length:=by
   have h:¬(i:Int)<((l.map cs).length:Int):=c;rw[j] at h;omega
  obtain⟨n,e2⟩:=kR (fG c) z b;exact cR [1000,1001] rfl rfl rfl rfl ⟨by show(_&&_)=true;rw[e0,n];rfl,o6 (WB k.tb) (by rw[e2,<-y];show _=bs++(_++_);rw[W7]),rfl⟩
theorem Rc {k:Kd}(hk:rF k) {q:Type}{f:Nat}{enc:q->Enc}{cs:q->List C}(l:List q) (hl:∀x,T.cT (cs x) 1=true) (hf:∀x∈l,eL k f (.ifo none k.t 1000 0::.pt (cs x) 0::[]) (enc x)) :
  eL k 47 [.ifo none k.t 1000 0,.pt [.sl (l.map cs)] 0,.fn f [] []] (bR k enc l):=by
 intro bs hb;obtain⟨fs,u,r⟩:=hk.siz;have hE:bR k enc l=bn (k.siz (l.map cs).length) (aX enc l):=by unfold bR;rw[Xf]
 rw[hE] at hb ⊢;have w:bs.length+(k.siz (l.map cs).length).1.length<=70368744177664:=by
  simp only[bn,W4] at hb;omega
 refine ai Tryd.func47 DI rfl fun hw ho=>?_;have m:(l.map cs).length<=9223372036854775807:=by have h:=hw.2.1.1.1;simp only[maxLen] at h;exact h
 refine⟨hk.mks,?_⟩;refine⟨fs,u,?_⟩;refine bY [1000,1001] (r (l.map cs).length bs w) rfl rfl rfl rfl (fun v ⟨e,h⟩=>⟨e,by show(_&&_)=false;rw[h];rfl⟩) ?_;rintro v Mo ⟨e0,rfl,rfl⟩ _ _;refine⟨rfl,?_⟩;refine aH (fun h=>?_) (fun _=>?_)
 ·simp at h
 have d:(bs++(k.siz (l.map cs).length).1).length+(aX enc l).1.length<=70368744177664:=by
  simp only[bn,W4] at hb ⊢;omega
 generalize y:bs++(k.siz (l.map cs).length).1=b1 at d;have j:((l.map cs).length:Int)=l.length:=by simp
 refine bW l.length 31 [] b1 (fun _=>[]) (fun s=>CU k.tb s) (fun i s=>∃p,s=b1++p/\aX enc l=bn (p,true) (aX enc (l.drop i))) ⟨[],by simp,by simp[bn]⟩ (aq rfl) trivial
  ⟨.inl ⟨_,rfl,.inl ⟨rfl,rfl⟩⟩,.inl ⟨_,rfl,.inl ⟨rfl,rfl⟩⟩,trivial⟩ (fun _=>rfl) (fun _=>rfl) ?_
 rintro i s hi ⟨p,z,b⟩ _ _ _;refine aV (fun a=>?_) (fun c=>?_)
 ·have a:i<l.length:=by
   have h:(i:Int)<((l.map cs).length:Int):=a;rw[j] at h;omega
  refine d9 a fun x hx o hd=>?_;obtain⟨g1,g2,g3⟩:=iK hd z b d;refine jr hx rfl (hl x) ?_;refine bO [1000,1001] (hf x o s g1) rfl rfl rfl rfl (fun v ⟨e,h⟩=>⟨e,by show(_&&_)=false;rw[g2 h,XC]⟩) ?_;rintro v Mo ⟨n,rfl,rfl⟩ _ _;refine⟨rfl,?_⟩;refine Fit.Wi (by omega) (by rw[Xf] at m;omega) ?_;exact⟨(i+1,s++(enc x).1),⟨by omega,p++(enc x).1,by rw[z,W7],g3 n⟩,⟨cF,trivial⟩,⟨.inl ⟨_,rfl,.inl ⟨rfl,rfl⟩⟩,.inl ⟨_,rfl,.inl ⟨rfl,rfl⟩⟩,trivial⟩,cG a⟩
 ·have c:¬i<l.length:=by
   have h:¬(i:Int)<((l.map cs).length:Int):=c;rw[j] at h;omega
  obtain⟨n,e2⟩:=kR (fG c) z b;exact cR [1000,1001] rfl rfl rfl rfl ⟨by show(_&&_)=true;rw[e0,n];rfl,o6 (WB k.tb) (by rw[e2,<-y];show _=bs++(_++_);rw[W7]),rfl⟩
theorem Rf {k:Kd}(hk:rF k) {q:Type}{f:Nat}{enc:q->Enc}{cs:q->List C}(l:List q) (hl:∀x,T.cT (cs x) 10=true) (hf:∀x∈l,eL k f (.ifo none k.t 1000 0::.pt (cs x) 0::[]) (enc x)) :
  eL k 45 [.ifo none k.t 1000 0,.pt [.sl (l.map cs)] 0,.fn f [] []] (bR k enc l):=by
 intro bs hb;obtain⟨fs,u,r⟩:=hk.siz;have hE:bR k enc l=bn (k.siz (l.map cs).length) (aX enc l):=by unfold bR;rw[Xf]
 rw[hE] at hb ⊢;have w:bs.length+(k.siz (l.map cs).length).1.length<=70368744177664:=by
  simp only[bn,W4] at hb;omega
 refine ai Tryd.func45 DG rfl fun hw ho=>?_;have m:(l.map cs).length<=9223372036854775807:=by have h:=hw.2.1.1.1;simp only[maxLen] at h;exact h
 refine⟨hk.mks,?_⟩;refine⟨fs,u,?_⟩;refine bY [1000,1001] (r (l.map cs).length bs w) rfl rfl rfl rfl (fun v ⟨e,h⟩=>⟨e,by show(_&&_)=false;rw[h];rfl⟩) ?_;rintro v Mo ⟨e0,rfl,rfl⟩ _ _;refine⟨rfl,?_⟩;refine aH (fun h=>?_) (fun _=>?_)
 ·simp at h
 have d:(bs++(k.siz (l.map cs).length).1).length+(aX enc l).1.length<=70368744177664:=by
  simp only[bn,W4] at hb ⊢;omega
 generalize y:bs++(k.siz (l.map cs).length).1=b1 at d;have j:((l.map cs).length:Int)=l.length:=by simp
 refine bW l.length 31 [] b1 (fun _=>[]) (fun s=>CU k.tb s) (fun i s=>∃p,s=b1++p/\aX enc l=bn (p,true) (aX enc (l.drop i))) ⟨[],by simp,by simp[bn]⟩ (aq rfl) trivial
  ⟨.inl ⟨_,rfl,.inl ⟨rfl,rfl⟩⟩,.inl ⟨_,rfl,.inl ⟨rfl,rfl⟩⟩,trivial⟩ (fun _=>rfl) (fun _=>rfl) ?_
 rintro i s hi ⟨p,z,b⟩ _ _ _;refine aV (fun a=>?_) (fun c=>?_)
 ·have a:i<l.length:=by
   have h:(i:Int)<((l.map cs).length:Int):=a;rw[j] at h;omega
  refine d9 a fun x hx o hd=>?_;obtain⟨g1,g2,g3⟩:=iK hd z b d;refine jr hx rfl (hl x) ?_;refine bO [1000,1001] (hf x o s g1) rfl rfl rfl rfl (fun v ⟨e,h⟩=>⟨e,by show(_&&_)=false;rw[g2 h,XC]⟩) ?_;rintro v Mo ⟨n,rfl,rfl⟩ _ _;refine⟨rfl,?_⟩;refine Fit.Wi (by omega) (by rw[Xf] at m;omega) ?_;exact⟨(i+1,s++(enc x).1),⟨by omega,p++(enc x).1,by rw[z,W7],g3 n⟩,⟨cF,trivial⟩,⟨.inl ⟨_,rfl,.inl ⟨rfl,rfl⟩⟩,.inl ⟨_,rfl,.inl ⟨rfl,rfl⟩⟩,trivial⟩,cG a⟩
 ·have c:¬i<l.length:=by
   have h:¬(i:Int)<((l.map cs).length:Int):=c;rw[j] at h;omega
  obtain⟨n,e2⟩:=kR (fG c) z b;exact cR [1000,1001] rfl rfl rfl rfl ⟨by show(_&&_)=true;rw[e0,n];rfl,o6 (WB k.tb) (by rw[e2,<-y];show _=bs++(_++_);rw[W7]),rfl⟩
theorem Rh {k:Kd}(hk:rF k) {q:Type}{f:Nat}{enc:q->Enc}{cs:q->List C}(l:List q) (hl:∀x,T.cT (cs x) 7=true) (hf:∀x∈l,eL k f (.ifo none k.t 1000 0::.pt (cs x) 0::[]) (enc x)) :
  eL k 49 [.ifo none k.t 1000 0,.pt [.sl (l.map cs)] 0,.fn f [] []] (bR k enc l):=by
 intro bs hb;obtain⟨fs,u,r⟩:=hk.siz;have hE:bR k enc l=bn (k.siz (l.map cs).length) (aX enc l):=by unfold bR;rw[Xf]
 rw[hE] at hb ⊢;have w:bs.length+(k.siz (l.map cs).length).1.length<=70368744177664:=by
  simp only[bn,W4] at hb;omega
 refine ai Tryd.func49 DK rfl fun hw ho=>?_;have m:(l.map cs).length<=9223372036854775807:=by have h:=hw.2.1.1.1;simp only[maxLen] at h;exact h
 refine⟨hk.mks,?_⟩;refine⟨fs,u,?_⟩;refine bY [1000,1001] (r (l.map cs).length bs w) rfl rfl rfl rfl (fun v ⟨e,h⟩=>⟨e,by show(_&&_)=false;rw[h];rfl⟩) ?_;rintro v Mo ⟨e0,rfl,rfl⟩ _ _;refine⟨rfl,?_⟩;refine aH (fun h=>?_) (fun _=>?_)
 ·simp at h
 have d:(bs++(k.siz (l.map cs).length).1).length+(aX enc l).1.length<=70368744177664:=by
  simp only[bn,W4] at hb ⊢;omega
 generalize y:bs++(k.siz (l.map cs).length).1=b1 at d;have j:((l.map cs).length:Int)=l.length:=by simp
 refine bW l.length 31 [] b1 (fun _=>[]) (fun s=>CU k.tb s) (fun i s=>∃p,s=b1++p/\aX enc l=bn (p,true) (aX enc (l.drop i))) ⟨[],by simp,by simp[bn]⟩ (aq rfl) trivial
  ⟨.inl ⟨_,rfl,.inl ⟨rfl,rfl⟩⟩,.inl ⟨_,rfl,.inl ⟨rfl,rfl⟩⟩,trivial⟩ (fun _=>rfl) (fun _=>rfl) ?_
 rintro i s hi ⟨p,z,b⟩ _ _ _;refine aV (fun a=>?_) (fun c=>?_)
 ·have a:i<l.length:=by
   have h:(i:Int)<((l.map cs).length:Int):=a;rw[j] at h;omega
  refine d9 a fun x hx o hd=>?_;obtain⟨g1,g2,g3⟩:=iK hd z b d;refine jr hx rfl (hl x) ?_;refine bO [1000,1001] (hf x o s g1) rfl rfl rfl rfl (fun v ⟨e,h⟩=>⟨e,by show(_&&_)=false;rw[g2 h,XC]⟩) ?_;rintro v Mo ⟨n,rfl,rfl⟩ _ _;refine⟨rfl,?_⟩;refine Fit.Wi (by omega) (by rw[Xf] at m;omega) ?_;exact⟨(i+1,s++(enc x).1),⟨by omega,p++(enc x).1,by rw[z,W7],g3 n⟩,⟨cF,trivial⟩,⟨.inl ⟨_,rfl,.inl ⟨rfl,rfl⟩⟩,.inl ⟨_,rfl,.inl ⟨rfl,rfl⟩⟩,trivial⟩,cG a⟩
 ·have c:¬i<l.length:=by
   have h:¬(i:Int)<((l.map cs).length:Int):=c;rw[j] at h;omega
  obtain⟨n,e2⟩:=kR (fG c) z b;exact cR [1000,1001] rfl rfl rfl rfl ⟨by show(_&&_)=true;rw[e0,n];rfl,o6 (WB k.tb) (by rw[e2,<-y];show _=bs++(_++_);rw[W7]),rfl⟩
theorem Ri {k:Kd}(hk:rF k) {q:Type}{f:Nat}{enc:q->Enc}{cs:q->List C}(l:List q) (hl:∀x,T.cT (cs x) 1=true) (hf:∀x∈l,eL k f (.ifo none k.t 1000 0::.pt (cs x) 0::[]) (enc x)) :
  eL k 51 [.ifo none k.t 1000 0,.pt [.sl (l.map cs)] 0,.fn f [] []] (bR k enc l):=by
 intro bs hb;obtain⟨fs,u,r⟩:=hk.siz;have hE:bR k enc l=bn (k.siz (l.map cs).length) (aX enc l):=by unfold bR;rw[Xf]
 rw[hE] at hb ⊢;have w:bs.length+(k.siz (l.map cs).length).1.length<=70368744177664:=by
  simp only[bn,W4] at hb;omega
 refine ai Tryd.func51 DM rfl fun hw ho=>?_;have m:(l.map cs).length<=9223372036854775807:=by have h:=hw.2.1.1.1;simp only[maxLen] at h;exact h
 refine⟨hk.mks,?_⟩;refine⟨fs,u,?_⟩;refine bY [1000,1001] (r (l.map cs).length bs w) rfl rfl rfl rfl (fun v ⟨e,h⟩=>⟨e,by show(_&&_)=false;rw[h];rfl⟩) ?_;rintro v Mo ⟨e0,rfl,rfl⟩ _ _;refine⟨rfl,?_⟩;refine aH (fun h=>?_) (fun _=>?_)
 ·simp at h
 have d:(bs++(k.siz (l.map cs).length).1).length+(aX enc l).1.length<=70368744177664:=by
  simp only[bn,W4] at hb ⊢;omega
 generalize y:bs++(k.siz (l.map cs).length).1=b1 at d;have j:((l.map cs).length:Int)=l.length:=by simp
 refine bW l.length 31 [] b1 (fun _=>[]) (fun s=>CU k.tb s) (fun i s=>∃p,s=b1++p/\aX enc l=bn (p,true) (aX enc (l.drop i))) ⟨[],by simp,by simp[bn]⟩ (aq rfl) trivial
  ⟨.inl ⟨_,rfl,.inl ⟨rfl,rfl⟩⟩,.inl ⟨_,rfl,.inl ⟨rfl,rfl⟩⟩,trivial⟩ (fun _=>rfl) (fun _=>rfl) ?_
 rintro i s hi ⟨p,z,b⟩ _ _ _;refine aV (fun a=>?_) (fun c=>?_)
 ·have a:i<l.length:=by
   have h:(i:Int)<((l.map cs).length:Int):=a;rw[j] at h;omega
  refine d9 a fun x hx o hd=>?_;obtain⟨g1,g2,g3⟩:=iK hd z b d;refine jr hx rfl (hl x) ?_;refine bO [1000,1001] (hf x o s g1) rfl rfl rfl rfl (fun v ⟨e,h⟩=>⟨e,by show(_&&_)=false;rw[g2 h,XC]⟩) ?_;rintro v Mo ⟨n,rfl,rfl⟩ _ _;refine⟨rfl,?_⟩;refine Fit.Wi (by omega) (by rw[Xf] at m;omega) ?_;exact⟨(i+1,s++(enc x).1),⟨by omega,p++(enc x).1,by rw[z,W7],g3 n⟩,⟨cF,trivial⟩,⟨.inl ⟨_,rfl,.inl ⟨rfl,rfl⟩⟩,.inl ⟨_,rfl,.inl ⟨rfl,rfl⟩⟩,trivial⟩,cG a⟩
 ·have c:¬i<l.length:=by
   have h:¬(i:Int)<((l.map cs).length:Int):=c;rw[j] at h;omega
  obtain⟨n,e2⟩:=kR (fG c) z b;exact cR [1000,1001] rfl rfl rfl rfl ⟨by show(_&&_)=true;rw[e0,n];rfl,o6 (WB k.tb) (by rw[e2,<-y];show _=bs++(_++_);rw[W7]),rfl⟩
theorem Rj {k:Kd}(hk:rF k) {q:Type}{f:Nat}{enc:q->Enc}{cs:q->List C}(l:List q) (hl:∀x,T.cT (cs x) 2=true) (hf:∀x∈l,eL k f (.ifo none k.t 1000 0::.pt (cs x) 0::[]) (enc x)) :
  eL k 53 [.ifo none k.t 1000 0,.pt [.sl (l.map cs)] 0,.fn f [] []] (bR k enc l):=by
 intro bs hb;obtain⟨fs,u,r⟩:=hk.siz;have hE:bR k enc l=bn (k.siz (l.map cs).length) (aX enc l):=by unfold bR;rw[Xf]
 rw[hE] at hb ⊢;have w:bs.length+(k.siz (l.map cs).length).1.length<=70368744177664:=by
  simp only[bn,W4] at hb;omega
 refine ai Tryd.func53 DP rfl fun hw ho=>?_;have m:(l.map cs).length<=9223372036854775807:=by have h:=hw.2.1.1.1;simp only[maxLen] at h;exact h
 refine⟨hk.mks,?_⟩;refine⟨fs,u,?_⟩;refine bY [1000,1001] (r (l.map cs).length bs w) rfl rfl rfl rfl (fun v ⟨e,h⟩=>⟨e,by show(_&&_)=false;rw[h];rfl⟩) ?_;rintro v Mo ⟨e0,rfl,rfl⟩ _ _;refine⟨rfl,?_⟩;refine aH (fun h=>?_) (fun _=>?_)
 ·simp at h
 have d:(bs++(k.siz (l.map cs).length).1).length+(aX enc l).1.length<=70368744177664:=by
  simp only[bn,W4] at hb ⊢;omega
 generalize y:bs++(k.siz (l.map cs).length).1=b1 at d;have j:((l.map cs).length:Int)=l.length:=by simp
 refine bW l.length 31 [] b1 (fun _=>[]) (fun s=>CU k.tb s) (fun i s=>∃p,s=b1++p/\aX enc l=bn (p,true) (aX enc (l.drop i))) ⟨[],by simp,by simp[bn]⟩ (aq rfl) trivial
  ⟨.inl ⟨_,rfl,.inl ⟨rfl,rfl⟩⟩,.inl ⟨_,rfl,.inl ⟨rfl,rfl⟩⟩,trivial⟩ (fun _=>rfl) (fun _=>rfl) ?_
 rintro i s hi ⟨p,z,b⟩ _ _ _;refine aV (fun a=>?_) (fun c=>?_)
 ·have a:i<l.length:=by
   have h:(i:Int)<((l.map cs).length:Int):=a;rw[j] at h;omega
  refine d9 a fun x hx o hd=>?_;obtain⟨g1,g2,g3⟩:=iK hd z b d;refine jr hx rfl (hl x) ?_;refine bO [1000,1001] (hf x o s g1) rfl rfl rfl rfl (fun v ⟨e,h⟩=>⟨e,by show(_&&_)=false;rw[g2 h,XC]⟩) ?_;rintro v Mo ⟨n,rfl,rfl⟩ _ _;refine⟨rfl,?_⟩;refine Fit.Wi (by omega) (by rw[Xf] at m;omega) ?_;exact⟨(i+1,s++(enc x).1),⟨by omega,p++(enc x).1,by rw[z,W7],g3 n⟩,⟨cF,trivial⟩,⟨.inl ⟨_,rfl,.inl ⟨rfl,rfl⟩⟩,.inl ⟨_,rfl,.inl ⟨rfl,rfl⟩⟩,trivial⟩,cG a⟩
 ·have c:¬i<l.length:=by
   have h:¬(i:Int)<((l.map cs).length:Int):=c;rw[j] at h;omega
  obtain⟨n,e2⟩:=kR (fG c) z b;exact cR [1000,1001] rfl rfl rfl rfl ⟨by show(_&&_)=true;rw[e0,n];rfl,o6 (WB k.tb) (by rw[e2,<-y];show _=bs++(_++_);rw[W7]),rfl⟩
theorem Rk {k:Kd}(hk:rF k) {q:Type}{f:Nat}{enc:q->Enc}{cs:q->List C}(l:List q) (hl:∀x,T.cT (cs x) 7=true) (hf:∀x∈l,eL k f (.ifo none k.t 1000 0::.pt (cs x) 0::[]) (enc x)) :
  eL k 66 [.ifo none k.t 1000 0,.pt [.sl (l.map cs)] 0,.fn f [] []] (bR k enc l):=by
 intro bs hb;obtain⟨fs,u,r⟩:=hk.siz;have hE:bR k enc l=bn (k.siz (l.map cs).length) (aX enc l):=by unfold bR;rw[Xf]
 rw[hE] at hb ⊢;have w:bs.length+(k.siz (l.map cs).length).1.length<=70368744177664:=by
  simp only[bn,W4] at hb;omega
 refine ai Tryd.func66 DV rfl fun hw ho=>?_;have m:(l.map cs).length<=9223372036854775807:=by have h:=hw.2.1.1.1;simp only[maxLen] at h;exact h
 refine⟨hk.mks,?_⟩;refine⟨fs,u,?_⟩;refine bY [1000,1001] (r (l.map cs).length bs w) rfl rfl rfl rfl (fun v ⟨e,h⟩=>⟨e,by show(_&&_)=false;rw[h];rfl⟩) ?_;rintro v Mo ⟨e0,rfl,rfl⟩ _ _;refine⟨rfl,?_⟩;refine aH (fun h=>?_) (fun _=>?_)
 ·simp at h
 have d:(bs++(k.siz (l.map cs).length).1).length+(aX enc l).1.length<=70368744177664:=by
  simp only[bn,W4] at hb ⊢;omega
 generalize y:bs++(k.siz (l.map cs).length).1=b1 at d;have j:((l.map cs).length:Int)=l.length:=by simp
 refine bW l.length 31 [] b1 (fun _=>[]) (fun s=>CU k.tb s) (fun i s=>∃p,s=b1++p/\aX enc l=bn (p,true) (aX enc (l.drop i))) ⟨[],by simp,by simp[bn]⟩ (aq rfl) trivial
  ⟨.inl ⟨_,rfl,.inl ⟨rfl,rfl⟩⟩,.inl ⟨_,rfl,.inl ⟨rfl,rfl⟩⟩,trivial⟩ (fun _=>rfl) (fun _=>rfl) ?_
 rintro i s hi ⟨p,z,b⟩ _ _ _;refine aV (fun a=>?_) (fun c=>?_)
 ·have a:i<l.length:=by
   have h:(i:Int)<((l.map cs).length:Int):=a;rw[j] at h;omega
  refine d9 a fun x hx o hd=>?_;obtain⟨g1,g2,g3⟩:=iK hd z b d;refine jr hx rfl (hl x) ?_;refine bO [1000,1001] (hf x o s g1) rfl rfl rfl rfl (fun v ⟨e,h⟩=>⟨e,by show(_&&_)=false;rw[g2 h,XC]⟩) ?_;rintro v Mo ⟨n,rfl,rfl⟩ _ _;refine⟨rfl,?_⟩;refine Fit.Wi (by omega) (by rw[Xf] at m;omega) ?_;exact⟨(i+1,s++(enc x).1),⟨by omega,p++(enc x).1,by rw[z,W7],g3 n⟩,⟨cF,trivial⟩,⟨.inl ⟨_,rfl,.inl ⟨rfl,rfl⟩⟩,.inl ⟨_,rfl,.inl ⟨rfl,rfl⟩⟩,trivial⟩,cG a⟩
 ·have c:¬i<l.length:=by
   have h:¬(i:Int)<((l.map cs).length:Int):=c;rw[j] at h;omega
  obtain⟨n,e2⟩:=kR (fG c) z b;exact cR [1000,1001] rfl rfl rfl rfl ⟨by show(_&&_)=true;rw[e0,n];rfl,o6 (WB k.tb) (by rw[e2,<-y];show _=bs++(_++_);rw[W7]),rfl⟩
theorem Rl {k:Kd}(hk:rF k) {q:Type}{f:Nat}{enc:q->Enc}{cs:q->List C}(l:List q) (hl:∀x,T.cT (cs x) 5=true) (hf:∀x∈l,eL k f (.ifo none k.t 1000 0::.pt (cs x) 0::[]) (enc x)) :
  eL k 68 [.ifo none k.t 1000 0,.pt [.sl (l.map cs)] 0,.fn f [] []] (bR k enc l):=by
 intro bs hb;obtain⟨fs,u,r⟩:=hk.siz;have hE:bR k enc l=bn (k.siz (l.map cs).length) (aX enc l):=by unfold bR;rw[Xf]
 rw[hE] at hb ⊢;have w:bs.length+(k.siz (l.map cs).length).1.length<=70368744177664:=by
  simp only[bn,W4] at hb;omega
 refine ai Tryd.func68 DX rfl fun hw ho=>?_;have m:(l.map cs).length<=9223372036854775807:=by have h:=hw.2.1.1.1;simp only[maxLen] at h;exact h
 refine⟨hk.mks,?_⟩;refine⟨fs,u,?_⟩;refine bY [1000,1001] (r (l.map cs).length bs w) rfl rfl rfl rfl (fun v ⟨e,h⟩=>⟨e,by show(_&&_)=false;rw[h];rfl⟩) ?_;rintro v Mo ⟨e0,rfl,rfl⟩ _ _;refine⟨rfl,?_⟩;refine aH (fun h=>?_) (fun _=>?_)
 ·simp at h
 have d:(bs++(k.siz (l.map cs).length).1).length+(aX enc l).1.length<=70368744177664:=by
  simp only[bn,W4] at hb ⊢;omega
 generalize y:bs++(k.siz (l.map cs).length).1=b1 at d;have j:((l.map cs).length:Int)=l.length:=by simp
 refine bW l.length 31 [] b1 (fun _=>[]) (fun s=>CU k.tb s) (fun i s=>∃p,s=b1++p/\aX enc l=bn (p,true) (aX enc (l.drop i))) ⟨[],by simp,by simp[bn]⟩ (aq rfl) trivial
  ⟨.inl ⟨_,rfl,.inl ⟨rfl,rfl⟩⟩,.inl ⟨_,rfl,.inl ⟨rfl,rfl⟩⟩,trivial⟩ (fun _=>rfl) (fun _=>rfl) ?_
 rintro i s hi ⟨p,z,b⟩ _ _ _;refine aV (fun a=>?_) (fun c=>?_)
 ·have a:i<l.length:=by
   have h:(i:Int)<((l.map cs).length:Int):=a;rw[j] at h;omega
  refine d9 a fun x hx o hd=>?_;obtain⟨g1,g2,g3⟩:=iK hd z b d;refine jr hx rfl (hl x) ?_;refine bO [1000,1001] (hf x o s g1) rfl rfl rfl rfl (fun v ⟨e,h⟩=>⟨e,by show(_&&_)=false;rw[g2 h,XC]⟩) ?_;rintro v Mo ⟨n,rfl,rfl⟩ _ _;refine⟨rfl,?_⟩;refine Fit.Wi (by omega) (by rw[Xf] at m;omega) ?_;exact⟨(i+1,s++(enc x).1),⟨by omega,p++(enc x).1,by rw[z,W7],g3 n⟩,⟨cF,trivial⟩,⟨.inl ⟨_,rfl,.inl ⟨rfl,rfl⟩⟩,.inl ⟨_,rfl,.inl ⟨rfl,rfl⟩⟩,trivial⟩,cG a⟩
 ·have c:¬i<l.length:=by
   have h:¬(i:Int)<((l.map cs).length:Int):=c;rw[j] at h;omega
  obtain⟨n,e2⟩:=kR (fG c) z b;exact cR [1000,1001] rfl rfl rfl rfl ⟨by show(_&&_)=true;rw[e0,n];rfl,o6 (WB k.tb) (by rw[e2,<-y];show _=bs++(_++_);rw[W7]),rfl⟩
theorem Rm {k:Kd}(hk:rF k) {q:Type}{f:Nat}{enc:q->Enc}{cs:q->List C}(l:List q) (hl:∀x,T.cT (cs x) 8=true) (hf:∀x∈l,eL k f (.ifo none k.t 1000 0::.pt (cs x) 0::[]) (enc x)) :
  eL k 72 [.ifo none k.t 1000 0,.pt [.sl (l.map cs)] 0,.fn f [] []] (bR k enc l):=by
 intro bs hb;obtain⟨fs,u,r⟩:=hk.siz;have hE:bR k enc l=bn (k.siz (l.map cs).length) (aX enc l):=by unfold bR;rw[Xf]
 rw[hE] at hb ⊢;have w:bs.length+(k.siz (l.map cs).length).1.length<=70368744177664:=by
  simp only[bn,W4] at hb;omega
 refine ai Tryd.func72 uW rfl fun hw ho=>?_;have m:(l.map cs).length<=9223372036854775807:=by have h:=hw.2.1.1.1;simp only[maxLen] at h;exact h
 refine⟨hk.mks,?_⟩;refine⟨fs,u,?_⟩;refine bY [1000,1001] (r (l.map cs).length bs w) rfl rfl rfl rfl (fun v ⟨e,h⟩=>⟨e,by show(_&&_)=false;rw[h];rfl⟩) ?_;rintro v Mo ⟨e0,rfl,rfl⟩ _ _;refine⟨rfl,?_⟩;refine aH (fun h=>?_) (fun _=>?_)
 ·simp at h
 have d:(bs++(k.siz (l.map cs).length).1).length+(aX enc l).1.length<=70368744177664:=by
  simp only[bn,W4] at hb ⊢;omega
 generalize y:bs++(k.siz (l.map cs).length).1=b1 at d;have j:((l.map cs).length:Int)=l.length:=by simp
 refine bW l.length 31 [] b1 (fun _=>[]) (fun s=>CU k.tb s) (fun i s=>∃p,s=b1++p/\aX enc l=bn (p,true) (aX enc (l.drop i))) ⟨[],by simp,by simp[bn]⟩ (aq rfl) trivial
  ⟨.inl ⟨_,rfl,.inl ⟨rfl,rfl⟩⟩,.inl ⟨_,rfl,.inl ⟨rfl,rfl⟩⟩,trivial⟩ (fun _=>rfl) (fun _=>rfl) ?_
 rintro i s hi ⟨p,z,b⟩ _ _ _;refine aV (fun a=>?_) (fun c=>?_)
 ·have a:i<l.length:=by
   have h:(i:Int)<((l.map cs).length:Int):=a;rw[j] at h;omega
  refine d9 a fun x hx o hd=>?_;obtain⟨g1,g2,g3⟩:=iK hd z b d;refine jr hx rfl (hl x) ?_;refine bO [1000,1001] (hf x o s g1) rfl rfl rfl rfl (fun v ⟨e,h⟩=>⟨e,by show(_&&_)=false;rw[g2 h,XC]⟩) ?_;rintro v Mo ⟨n,rfl,rfl⟩ _ _;refine⟨rfl,?_⟩;refine Fit.Wi (by omega) (by rw[Xf] at m;omega) ?_;exact⟨(i+1,s++(enc x).1),⟨by omega,p++(enc x).1,by rw[z,W7],g3 n⟩,⟨cF,trivial⟩,⟨.inl ⟨_,rfl,.inl ⟨rfl,rfl⟩⟩,.inl ⟨_,rfl,.inl ⟨rfl,rfl⟩⟩,trivial⟩,cG a⟩
 ·have c:¬i<l.length:=by
   have h:¬(i:Int)<((l.map cs).length:Int):=c;rw[j] at h;omega
  obtain⟨n,e2⟩:=kR (fG c) z b;exact cR [1000,1001] rfl rfl rfl rfl ⟨by show(_&&_)=true;rw[e0,n];rfl,o6 (WB k.tb) (by rw[e2,<-y];show _=bs++(_++_);rw[W7]),rfl⟩
theorem L9 {k:Kd}(hk:rF k) {r:Type}{f:Nat}{d:Int}{enc:r->Enc}{cs:r->List C}(l:List r) (hl:∀x,T.cT (cs x) 8=true) (hf:∀x∈l,eL k f (.ifo none k.t 1000 0::.pt (cs x) 0::[.pt [IC d] 0]) (enc x)) :
  eL k 72 [.ifo none k.t 1000 0,.pt [.sl (l.map cs)] 0,.fn f [] [.pt [IC d] 0]] (bR k enc l):=by
 intro bs hb;obtain⟨fs,w,u⟩:=hk.siz;have hE:bR k enc l=bn (k.siz (l.map cs).length) (aX enc l):=by unfold bR;rw[Xf]
 rw[hE] at hb ⊢;have y:bs.length+(k.siz (l.map cs).length).1.length<=70368744177664:=by
  simp only[bn,W4] at hb;omega
 refine ai Tryd.func72 uW rfl fun hw ho=>?_;have n:(l.map cs).length<=9223372036854775807:=by have h:=hw.2.1.1.1;simp only[maxLen] at h;exact h
 refine⟨hk.mks,?_⟩;refine⟨fs,w,?_⟩;refine bY [1000,1001] (u (l.map cs).length bs y) rfl rfl rfl rfl (fun v ⟨e,h⟩=>⟨e,by show(_&&_)=false;rw[h];rfl⟩) ?_;rintro v Mo ⟨e0,rfl,rfl⟩ _ _;refine⟨rfl,?_⟩;refine aH (fun h=>?_) (fun _=>?_)
 ·simp at h
 have j:(bs++(k.siz (l.map cs).length).1).length+(aX enc l).1.length<=70368744177664:=by
  simp only[bn,W4] at hb ⊢;omega
 generalize z:bs++(k.siz (l.map cs).length).1=b1 at j;have m:((l.map cs).length:Int)=l.length:=by simp
 refine bW l.length 31 [] b1 (fun _=>[]) (fun s=>CU k.tb s) (fun i s=>∃p,s=b1++p/\aX enc l=bn (p,true) (aX enc (l.drop i))) ⟨[],by simp,by simp[bn]⟩ (aq rfl) trivial
  ⟨.inl ⟨_,rfl,.inl ⟨rfl,rfl⟩⟩,.inl ⟨_,rfl,.inl ⟨rfl,rfl⟩⟩,trivial⟩ (fun _=>rfl) (fun _=>rfl) ?_
 rintro i s hi ⟨p,hs,b⟩ _ _ _;refine aV (fun a=>?_) (fun c=>?_)
 ·have a:i<l.length:=by
   have h:(i:Int)<((l.map cs).length:Int):=a;rw[m] at h;omega
  refine d9 a fun x hx q hd=>?_;obtain⟨g1,g2,g3⟩:=iK hd hs b j;refine jr hx rfl (hl x) ?_;refine bO [1000,1001] (hf x q s g1) rfl rfl rfl rfl (fun v ⟨e,h⟩=>⟨e,by show(_&&_)=false;rw[g2 h,XC]⟩) ?_;rintro v Mo ⟨o,rfl,rfl⟩ _ _;refine⟨rfl,?_⟩;refine Fit.Wi (by omega) (by rw[Xf] at n;omega) ?_;exact⟨(i+1,s++(enc x).1),⟨by omega,p++(enc x).1,by rw[hs,W7],g3 o⟩,⟨cF,trivial⟩,⟨.inl ⟨_,rfl,.inl ⟨rfl,rfl⟩⟩,.inl ⟨_,rfl,.inl ⟨rfl,rfl⟩⟩,trivial⟩,cG a⟩
 ·have c:¬i<l.length:=by
   have h:¬(i:Int)<((l.map cs).length:Int):=c;rw[m] at h;omega
  obtain⟨o,e2⟩:=kR (fG c) hs b;exact cR [1000,1001] rfl rfl rfl rfl ⟨by show(_&&_)=true;rw[e0,o];rfl,o6 (WB k.tb) (by rw[e2,<-z];show _=bs++(_++_);rw[W7]),rfl⟩
theorem dI {a b:Enc}(h:a.2=false):(bn a b).2=false:=by show(_&&_)=false;rw[h];rfl
theorem aP {a b:Enc}(h:b.2=false):(bn a b).2=false:=by show(_&&_)=false;rw[h,XC]
theorem eM {a b:Enc}(h:a.2=true) (c:b.2=true):(bn a b).2=true:=by show(_&&_)=true;rw[h,c];rfl
theorem dQ {bs:List UInt8}{a b:Enc}{B:Nat}(h:bs.length+(bn a b).1.length<=B):bs.length+a.1.length<=B:=by
 simp only[bn,W4] at h;omega
theorem dD {bs:List UInt8}{a b:Enc}{B:Nat}(h:bs.length+(bn a b).1.length<=B):(bs++a.1).length+b.1.length<=B:=by
 simp only[bn,W4] at h ⊢;omega
theorem Pd (bs a b:List UInt8):(bs++a)++b=bs++(a++b):=by simp
theorem Pe (bs a b c:List UInt8):((bs++a)++b)++c=bs++(a++(b++c)):=by simp
theorem NG (bs a b c d e:List UInt8):((((bs++a)++b)++c)++d)++e=bs++(a++(b++(c++(d++e)))):=by simp
theorem Rn (bs a b c d e f:List UInt8):(((((bs++a)++b)++c)++d)++e)++f=bs++(a++(b++(c++(d++(e++f))))):=by simp
section
variable {L:TL}{ρ:aT}{k:Kd}
theorem u6 {PS:oV}{f:Nat}{args a:List C}{bs:List UInt8}{e:Enc}{K:TL->aT->C->Prop}(h:eL k f a e) (hb:bs.length+e.1.length<=70368744177664)
  (p:L.sub [1000,1001]=some (WB k.tb bs)) (n:(args.map fun c=>c.Wm.ren (cj [1000,1001] 1000))=a) (l:e.2=false->PS.ps eS)
  (o:e.2=true->K (((L.Wg [1000,1001]).kills (rowsOf L [1000,1001])).puts [1000,1001] (WB k.tb (bs++e.1))) (eI (rowsOf L [1000,1001]) ρ) (.tup [])) (d:kQ L [1000,1001] PS.hb=true:=by rfl):n9 PZ PS f args L ρ K :=
 bO [1000,1001] (h bs hb) p rfl n rfl (fun v ⟨e,h⟩=>e▸l h) (fun v Mo ⟨m,b,j⟩ _ _=>by subst b j;exact⟨rfl,o m⟩) d
theorem xU {PS:oV}{d:List Nat}{f:Nat}{args a:List C}{bs:List UInt8}{e:Enc}{K:TL->aT->C->Prop}(h:eL k f a e) (hb:bs.length+e.1.length<=70368744177664)
  (r:L.sub [1000,1001]=some (WB k.tb bs)) (b:vR [1000,1001] d=true) (p:(args.map fun c=>c.Wm.ren (cj [1000,1001] 1000))=a) (n:e.2=false->PS.ps eS)
  (q:e.2=true->K (((L.Wg [1000,1001]).kills (rowsOf L [1000,1001])).puts [1000,1001] (WB k.tb (bs++e.1))) (eI (rowsOf L [1000,1001]) ρ) (.tup [])) (l:kQ L [1000,1001] PS.hb=true:=by rfl):mM PZ PS d f args L ρ K :=
 bY [1000,1001] (h bs hb) r (by simp only[WY];exact⟨⟨rfl,b⟩,rfl⟩) p rfl (fun v ⟨e,h⟩=>e▸n h) (fun v Mo ⟨o,j,m⟩ _ _=>by subst j m;exact⟨rfl,q o⟩) l
end
section
variable {k:Kd}(hk:rF k)
include hk
theorem Ro (n:Int):eL k 71 [.ifo none k.t 1000 0,.pt [IC n] 0] (k.num n):=by
 intro bs hb;obtain⟨fn,b,a,_⟩:=hk.num;refine ai Tryd.func71 D3 rfl fun d c=>?_;refine⟨fn,b,?_⟩;refine u6 (a n) hb rfl rfl (fun h=>⟨rfl,h⟩) fun h=>?_;exact cR [1000,1001] rfl rfl rfl rfl ⟨h,rfl,rfl⟩
theorem Rp (b:Bool):eL k 48 [.ifo none k.t 1000 0,.pt (HI b) 0] (Qu k b):=by
 intro bs hb;have a:=(H6 hk [b]).pts (es:=HI b) (os:=[0]) ⟨rfl,trivial⟩;refine ai Tryd.func48 DJ rfl fun d c=>?_;refine u6 a hb rfl rfl (fun h=>⟨rfl,h⟩) fun h=>?_;exact cR [1000,1001] rfl rfl rfl rfl ⟨h,rfl,rfl⟩
theorem nN (p:List Int):eL k 70 [.ifo none k.t 1000 0,.pt [.sl (wL p)] 0,.fn 71 [] []] (bR k k.num p):=Rb hk p (cs:=fun n=>[IC n]) (fun _=>rfl) fun x _=>Ro hk x
end
theorem Pf:∀(m:Nat) (v:Vl),Fm v<=m->∀d:Int,-4611686018427387904+(m:Int)<=d->d<=4611686018427387904->eL kW 95 [.ifo none kW.t 1000 0,.pt (rE v) 0,.pt [IC d] 0] (Aq kW v d)
 | 0,.mk a b c n f e p l,w,d,h1,h2=>by rw[Fm] at w;omega
 | m+1,.mk a b c n f e p l,w,d,h1,h2=>by
  intro bs hb;have ih:∀x∈f,eL kW 95 [.ifo none kW.t 1000 0,.pt (rE x) 0,.pt [IC (d-1)] 0] (Aq kW x (d-1)):=fun x hx=>Pf m x (by
   have:=wS hx;rw[Fm] at w;omega) (d-1) (by omega) (by omega)
  have hE:Aq kW (.mk a b c n f e p l) d=bn (z7 (decide (0<d)||kW.deep)) (bn (aX kW.num [a,b,c,n]) (bn (bR kW (fun x=>Aq kW x (d-1)) f) (bn (aX (qb kW) [e]) (bn (bR kW kW.num p) (bR kW kW.num l))))):=by
   rw[Aq,tN];rfl
  rw[hE] at hb ⊢;have j:=dD hb;have j:bs.length+(bn (aX kW.num [a,b,c,n]) (bn (bR kW (fun x=>Aq kW x (d-1)) f) (bn (aX (qb kW) [e]) (bn (bR kW kW.num p) (bR kW kW.num l))))).1.length<=70368744177664:=by simpa[z7] using j
  have w1:=(Af yX [a,b,c,n]).pts (es:=rE (.mk a b c n f e p l)) (os:=[0,1,2,3]) ⟨rfl,rfl,rfl,rfl,trivial⟩;have w2:=(L9 yX f (cs:=rE) (fun x=>by cases x;rfl) ih).at (es:=rE (.mk a b c n f e p l)) (off:=4) (o6 (fun q=>[C.sl q]) (sH f));have w3:=(H6 yX [e]).pts (es:=rE (.mk a b c n f e p l)) (os:=[5]) ⟨rfl,trivial⟩;have w4:=(nN yX p).at (es:=rE (.mk a b c n f e p l)) (off:=6) rfl;have w5:=(nN yX l).at (es:=rE (.mk a b c n f e p l)) (off:=7) rfl;refine ai Tryd.func95 uX rfl fun hw ho=>?_;refine aV (fun y=>?_) (fun y=>?_)
  ·have u:(z7 (decide (0<d)||kW.deep)).2=true:=by show(decide (0<d)||false)=true;simp;exact y
   refine tO (sN true) rfl (fun h=>by cases h) fun _=>?_;refine xU w1 (dQ j) rfl rfl rfl (fun h=>⟨rfl,aP (dI h)⟩) fun o1=>?_;have o:=dD j;refine Fit.Wi (by omega) (by omega) ?_;refine jq (O8 (d-1)) rfl fun _=>?_;refine xU w2 (dQ o) rfl rfl rfl (fun h=>⟨rfl,aP (aP (dI h))⟩) fun z=>?_;have r:=dD o;refine u6 w3 (dQ r) rfl rfl (fun h=>⟨rfl,aP (aP (aP (dI h)))⟩) fun o3=>?_;have s:=dD r;refine u6 w4 (dQ s) rfl rfl (fun h=>⟨rfl,aP (aP (aP (aP (dI h))))⟩) fun o4=>?_;refine u6 w5 (dD s) rfl rfl (fun h=>⟨rfl,aP (aP (aP (aP (aP h))))⟩) fun o5=>?_;exact cR [1000,1001] rfl rfl rfl rfl ⟨eM u (eM o1 (eM z (eM o3 (eM o4 o5)))),o6 (WB kW.tb) (NG _ _ _ _ _ _),rfl⟩
  ·refine tO (sN false) rfl (fun _=>⟨rfl,dI (by show(decide (0<d)||false)=false;simp;omega)⟩) fun h=>by cases h
theorem Pg:∀(m:Nat) (v:Vl),Fm v<=m->∀d:Int,-4611686018427387904+(m:Int)<=d->d<=4611686018427387904->eL kL 95 [.ifo none kL.t 1000 0,.pt (rE v) 0,.pt [IC d] 0] (Aq kL v d)
 | 0,.mk a b c n f e p l,w,d,h1,h2=>by rw[Fm] at w;omega
 | m+1,.mk a b c n f e p l,w,d,h1,h2=>by
  intro bs hb;have ih:∀x∈f,eL kL 95 [.ifo none kL.t 1000 0,.pt (rE x) 0,.pt [IC (d-1)] 0] (Aq kL x (d-1)):=fun x hx=>Pg m x (by
   have:=wS hx;rw[Fm] at w;omega) (d-1) (by omega) (by omega)
  have hE:Aq kL (.mk a b c n f e p l) d=bn (z7 (decide (0<d)||kL.deep)) (bn (aX kL.num [a,b,c,n]) (bn (bR kL (fun x=>Aq kL x (d-1)) f) (bn (aX (qb kL) [e]) (bn (bR kL kL.num p) (bR kL kL.num l))))):=by
   rw[Aq,tN];rfl
  rw[hE] at hb ⊢;have j:=dD hb;have j:bs.length+(bn (aX kL.num [a,b,c,n]) (bn (bR kL (fun x=>Aq kL x (d-1)) f) (bn (aX (qb kL) [e]) (bn (bR kL kL.num p) (bR kL kL.num l))))).1.length<=70368744177664:=by simpa[z7] using j
  have w1:=(Af yY [a,b,c,n]).pts (es:=rE (.mk a b c n f e p l)) (os:=[0,1,2,3]) ⟨rfl,rfl,rfl,rfl,trivial⟩;have z:=(L9 yY f (cs:=rE) (fun x=>by cases x;rfl) ih).at (es:=rE (.mk a b c n f e p l)) (off:=4) (o6 (fun q=>[C.sl q]) (sH f));have w3:=(H6 yY [e]).pts (es:=rE (.mk a b c n f e p l)) (os:=[5]) ⟨rfl,trivial⟩;have w4:=(nN yY p).at (es:=rE (.mk a b c n f e p l)) (off:=6) rfl;have w5:=(nN yY l).at (es:=rE (.mk a b c n f e p l)) (off:=7) rfl;refine ai Tryd.func95 uX rfl fun hw ho=>?_;have u:(z7 (decide (0<d)||kL.deep)).2=true:=by show(decide (0<d)||true)=true;simp
  refine aV (fun h0=>?_) (fun h0=>?_)
  all_goals
   refine tO (sN true) rfl (fun h=>by cases h) fun _=>?_;refine xU w1 (dQ j) rfl rfl rfl (fun h=>⟨rfl,aP (dI h)⟩) fun o1=>?_;have o:=dD j;refine Fit.Wi (by omega) (by omega) ?_;refine jq (O8 (d-1)) rfl fun _=>?_;refine xU z (dQ o) rfl rfl rfl (fun h=>⟨rfl,aP (aP (dI h))⟩) fun y=>?_;have r:=dD o;refine u6 w3 (dQ r) rfl rfl (fun h=>⟨rfl,aP (aP (aP (dI h)))⟩) fun o3=>?_;have s:=dD r;refine u6 w4 (dQ s) rfl rfl (fun h=>⟨rfl,aP (aP (aP (aP (dI h))))⟩) fun o4=>?_;refine u6 w5 (dD s) rfl rfl (fun h=>⟨rfl,aP (aP (aP (aP (aP h))))⟩) fun o5=>?_;exact cR [1000,1001] rfl rfl rfl rfl ⟨eM u (eM o1 (eM y (eM o3 (eM o4 o5)))),o6 (WB kL.tb) (NG _ _ _ _ _ _),rfl⟩
structure Rq (k:Kd):Prop where
 toKdOk:rF k
 val:∀v:Vl,Fm v<=4611686018427387904->eL k 95 [.ifo none k.t 1000 0,.pt (rE v) 0,.pt [IC 60] 0] (yU k v)
theorem Rs:Rq kW:={toKdOk:=yX,val:=fun v h=>Pf _ v h 60 (by omega) (by omega)}
theorem Rt:Rq kL:={toKdOk:=yY,val:=fun v h=>Pg _ v h 60 (by omega) (by omega)}
def vsB (l:List Vl):Prop:=∀v∈l,Fm v<=4611686018427387904
def Ru (x:Ce):Prop:=Fm x.value<=4611686018427387904
def Rv (x:Ac):Prop:=vsB x.slots
def Rw (x:Tk):Prop:=∀f∈x.frames,Rv f
def FJ (x:Wd):Prop:=(∀c∈x.cells,Ru c)/\(∀t∈x.tasks,Rw t)/\∀l∈x.channels,vsB l
section
variable {k:Kd}(hk:Rq k)
include hk
theorem Ph (v:Vl) (a:Fm v<=4611686018427387904):eL k 65 [.ifo none k.t 1000 0,.pt (rE v) 0] (yU k v):=by
 intro bs hb;refine ai Tryd.func65 DU rfl fun c b=>?_;refine bL (O8 60) rfl fun _=>?_;refine u6 (hk.val v a) hb rfl rfl (fun h=>⟨rfl,h⟩) fun h=>?_;exact cR [1000,1001] rfl rfl rfl rfl ⟨h,rfl,rfl⟩
theorem Pj (l:List Vl) (a:vsB l):eL k 52 [.ifo none k.t 1000 0,.pt (LU l) 0] (PO k l):=by
 intro bs hb;refine ai Tryd.func52 DN rfl fun d c=>?_;refine u6 (Rm hk.toKdOk l (cs:=rE) (fun x=>by cases x;rfl) fun x b=>Ph hk x (a x b)) hb rfl rfl (fun h=>⟨rfl,h⟩) fun h=>?_;exact cR [1000,1001] rfl rfl rfl rfl ⟨h,rfl,rfl⟩
theorem Rx (x:Ce) (f:Ru x):eL k 46 [.ifo none k.t 1000 0,.pt (D5 x) 0] (Qp k x):=by
 intro bs hb;obtain⟨b,a,v⟩:=x;have d:=(H6 hk.toKdOk [b]).pts (es:=D5 ⟨b,a,v⟩) (os:=[0]) ⟨rfl,trivial⟩;have m:=(Af hk.toKdOk [a]).pts (es:=D5 ⟨b,a,v⟩) (os:=[1]) ⟨rfl,trivial⟩;have e:=(Ph hk v f).at (es:=D5 ⟨b,a,v⟩) (off:=2) (by cases v;rfl);refine ai Tryd.func46 DH rfl fun p o=>?_;refine u6 d (dQ hb) rfl rfl (fun h=>⟨rfl,dI h⟩) fun l=>?_;have c:=dD hb;refine u6 m (dQ c) rfl rfl (fun h=>⟨rfl,aP (dI h)⟩) fun j=>?_;refine u6 e (dD c) rfl rfl (fun h=>⟨rfl,aP (aP h)⟩) fun n=>?_;exact cR [1000,1001] rfl rfl rfl rfl ⟨eM l (eM j n),o6 (WB k.tb) (Pe _ _ _ _),rfl⟩
theorem Ry (x:Ac) (d:Rv x):eL k 67 [.ifo none k.t 1000 0,.pt (FI x) 0] (Qq k x):=by
 intro bs hb;have b:=(Af hk.toKdOk [x.number,x.routine,x.block,x.index,x.dst]).pts (es:=FI x) (os:=[0,1,2,3,4]) ⟨rfl,rfl,rfl,rfl,rfl,trivial⟩;have j:=(Pj hk x.slots d).at (es:=FI x) (off:=5) rfl;have c:=(nN hk.toKdOk x.since).at (es:=FI x) (off:=6) rfl;refine ai Tryd.func67 DW rfl fun n m=>?_;refine xU b (dQ hb) rfl rfl rfl (fun h=>⟨rfl,dI h⟩) fun f=>?_;have a:=dD hb;refine u6 j (dQ a) rfl rfl (fun h=>⟨rfl,aP (dI h)⟩) fun e=>?_;refine u6 c (dD a) rfl rfl (fun h=>⟨rfl,aP (aP h)⟩) fun l=>?_;exact cR [1000,1001] rfl rfl rfl rfl ⟨eM f (eM e l),o6 (WB k.tb) (Pe _ _ _ _),rfl⟩
theorem Rz (x:Ln):eL k 69 [.ifo none k.t 1000 0,.pt (Ip x) 0] (Qr k x):=by
 intro bs hb;have a:=(Af hk.toKdOk [x.frame,x.slot]).pts (es:=Ip x) (os:=[0,1]) ⟨rfl,rfl,trivial⟩;have d:=(H6 hk.toKdOk [x.excl,x.re,x.over]).pts (es:=Ip x) (os:=[2,3,4]) ⟨rfl,rfl,rfl,trivial⟩;refine ai Tryd.func69 DY rfl fun f e=>?_;refine xU a (dQ hb) rfl rfl rfl (fun h=>⟨rfl,dI h⟩) fun c=>?_;refine xU d (dD hb) rfl rfl rfl (fun h=>⟨rfl,aP h⟩) fun b=>?_;exact cR [1000,1001] rfl rfl rfl rfl ⟨eM c b,o6 (WB k.tb) (Pd _ _ _),rfl⟩
theorem RA (x:Tk) (m:Rw x):eL k 50 [.ifo none k.t 1000 0,.pt (D6 x) 0] (Qs k x):=by
 intro bs hb;have o:=(Af hk.toKdOk [x.state]).pts (es:=D6 x) (os:=[0]) ⟨rfl,trivial⟩;have f:=(Rk hk.toKdOk x.frames (cs:=FI) (fun _=>rfl) fun y d=>Ry hk y (m y d)).at (es:=D6 x) (off:=1) rfl;have q:=(Rl hk.toKdOk x.loans (cs:=Ip) (fun _=>rfl) fun y _=>Rz hk y).at (es:=D6 x) (off:=2) rfl;have s:=(Af hk.toKdOk [x.allocs,x.clock,x.next]).pts (es:=D6 x) (os:=[3,4,5]) ⟨rfl,rfl,rfl,trivial⟩;have r:=(nN hk.toKdOk x.cells).at (es:=D6 x) (off:=6) rfl;refine ai Tryd.func50 DL rfl fun v u=>?_;refine u6 o (dQ hb) rfl rfl (fun h=>⟨rfl,dI h⟩) fun n=>?_;have c:=dD hb;refine u6 f (dQ c) rfl rfl (fun h=>⟨rfl,aP (dI h)⟩) fun e=>?_;have a:=dD c;refine u6 q (dQ a) rfl rfl (fun h=>⟨rfl,aP (aP (dI h))⟩) fun j=>?_;have b:=dD a;refine xU s (dQ b) rfl rfl rfl (fun h=>⟨rfl,aP (aP (aP (dI h)))⟩) fun p=>?_;refine u6 r (dD b) rfl rfl (fun h=>⟨rfl,aP (aP (aP (aP h)))⟩) fun l=>?_;exact cR [1000,1001] rfl rfl rfl rfl ⟨eM n (eM e (eM j (eM p l))),o6 (WB k.tb) (NG _ _ _ _ _ _),rfl⟩
theorem RD (x:Ou):eL k 54 [.ifo none k.t 1000 0,.pt (LV x) 0] (Qt k x):=by
 intro bs hb;have a:=(Af hk.toKdOk [x.task,x.number]).pts (es:=LV x) (os:=[0,1]) ⟨rfl,rfl,trivial⟩;refine ai Tryd.func54 DQ rfl fun d c=>?_;refine xU a hb rfl rfl rfl (fun h=>⟨rfl,h⟩) fun b=>?_;exact cR [1000,1001] rfl rfl rfl rfl ⟨b,rfl,rfl⟩
theorem Pk (m l:List (List C)) (n:Int) (x:Wd) (j:FJ x):eL k 33 [.ifo none k.t 1000 0,.pt (.sl m::.sl l::IC n::N0 x) 0] (uo k x):=by
 intro bs hb;generalize a:(.sl m::.sl l::IC n::N0 x:List C)=es;have w:=(Rf hk.toKdOk x.cells (cs:=D5) (fun y=>by obtain⟨_,_,v⟩:=y;cases v;rfl) fun y b=>Rx hk y (j.1 y b)).at (es:=es) (off:=3) (by rw[<-a];rfl);have q:=(Rc hk.toKdOk x.arenas (cs:=HI) (fun _=>rfl) fun y _=>Rp hk.toKdOk y).at (es:=es) (off:=4) (by rw[<-a];rfl);have w3:=(Rh hk.toKdOk x.tasks (cs:=D6) (fun _=>rfl) fun y b=>RA hk y (j.2.1 y b)).at (es:=es) (off:=5) (by rw[<-a];rfl);have w4:=(Ri hk.toKdOk x.channels (cs:=LU) (fun _=>rfl) fun y b=>Pj hk y (j.2.2 y b)).at (es:=es) (off:=6) (by rw[<-a];rfl);have w5:=(Rj hk.toKdOk x.outputs (cs:=LV) (fun _=>rfl) fun y _=>RD hk y).at (es:=es) (off:=7) (by rw[<-a];rfl);have w6:=(Af hk.toKdOk [x.made,x.dropped,x.closed]).pts (es:=es) (os:=[8,9,10]) (by rw[<-a];exact⟨rfl,rfl,rfl,trivial⟩);refine ai Tryd.func33 DE rfl fun hw ho=>?_;refine u6 w (dQ hb) rfl rfl (fun h=>⟨rfl,dI h⟩) fun u=>?_;have f:=dD hb;refine u6 q (dQ f) rfl rfl (fun h=>⟨rfl,aP (dI h)⟩) fun o=>?_;have c:=dD f;refine u6 w3 (dQ c) rfl rfl (fun h=>⟨rfl,aP (aP (dI h))⟩) fun r=>?_;have d:=dD c;refine u6 w4 (dQ d) rfl rfl (fun h=>⟨rfl,aP (aP (aP (dI h)))⟩) fun z=>?_;have e:=dD d;refine u6 w5 (dQ e) rfl rfl (fun h=>⟨rfl,aP (aP (aP (aP (dI h))))⟩) fun s=>?_;refine xU w6 (dD e) rfl rfl rfl (fun h=>⟨rfl,aP (aP (aP (aP (aP h))))⟩) fun p=>?_;exact cR [1000,1001] rfl rfl rfl rfl ⟨eM u (eM o (eM r (eM z (eM s p)))),o6 (WB k.tb) (Rn _ _ _ _ _ _ _),rfl⟩
end
end Go.Fr.Tryd
namespace Go.Fr.Tryd
open Go Go.RowKit Go.Proofs Go.Fr Go.Fr.T Go.Fr.Api Go.Fr.Dm
theorem BP:∀(l:List Int) (h:Int),(∀x∈l,0<=x)->0<=h/\h<2147483647->0<=l.foldl qN h/\l.foldl qN h<2147483647
 | [],h,_,hb=>hb
 | x::l,h,a,hb=>BP l _ (fun y b=>a y (by simp[b])) (wY hb.1 (a x (by simp)))
def jJ (bs:List UInt8):Int:=Pm (Ag bs)
theorem ju (bs:List UInt8):0<=jJ bs/\jJ bs<2147483647:=BP _ _ (fun x a=>by
 simp only[Ag,Xv] at a;obtain⟨b,_,rfl⟩:=a;omega) (by omega)
theorem VG (b:UInt8):CallsT PZ 30 [iE b] [] (iF [] (.int .i64 b.toNat)):=by
 refine au Tryd.func30 Kc rfl fun a _=>?_;refine Fit.Wi (by omega) (by have:=b.toNat_lt;omega) ?_;exact bD rfl rfl
theorem t29 (bs:List UInt8):CallsT PZ 29 [.sl (af bs),.fn 30 [] []] [] (iF [] (IC (jJ bs))):=by
 refine au Tryd.func29 Kb rfl fun o _=>?_;have q:=uT o.1;refine bW bs.length 10 [5] 7 (fun h=>[.int .i64 h]) (fun _=>[]) (fun k h=>0<=h/\h<2147483647/\(Ag (bs.drop k)).foldl qN h=jJ bs) ⟨by omega,by omega,rfl⟩
  (aq rfl) ⟨aq rfl,trivial⟩ trivial (fun _=>rfl) (fun _=>rfl) ?_
 rintro k h r ⟨p,s,d⟩ m _ e;refine aV (fun a=>?_) (fun c=>?_)
 ·have a:k<bs.length:=by simpa[af] using a
  obtain⟨b,hb,j⟩:=drop_cons a;rw[j] at d;obtain⟨n,f⟩:=wY (x:=b.toNat) p (by omega);have l:=b.toNat_lt;refine MX hb ?_;refine Fit.Wi (by omega) (by omega) ?_;refine bL (VG b) rfl fun _=>?_;refine Fit.Wi (by omega) (by omega) ?_;refine Fit.Wi (by omega) (by omega) ?_;refine mS.mk (by omega) ?_;refine Fit.Wi (by omega) (by omega) ?_;exact⟨(k+1,qN h b.toNat),⟨a,n,f,d⟩,⟨cF,aq rfl,trivial⟩,trivial,cG a⟩
 ·have c:¬k<bs.length:=by simpa[af] using c
  rw[fG c] at d;exact bD rfl (o6 (C.int .i64) d)
theorem t9 (bs:List UInt8):CallsT PZ 9 [.sl (af bs)] [] (iF [] (IC (jJ bs))):=by
 refine au Tryd.func9 Nl rfl fun a _=>?_;refine bL (t29 bs) rfl fun _=>?_;exact bD rfl rfl
theorem VH (bs:List UInt8):CallsT PZ 37 [.sl (af bs)] [] (iF [] (IC (jJ bs))):=by
 refine au Tryd.func37 Kj rfl fun m _=>?_;have d:bs.length<=9223372036854775807:=uT m.1;refine bW bs.length 4 [3] (7:Int) (fun h=>[IC h]) (fun _=>[]) (fun k h=>(Ag (bs.drop k)).foldl qN h=jJ bs/\0<=h/\h<2147483647) ⟨rfl,by omega,by omega⟩ (aq rfl) ⟨aq rfl,trivial⟩ trivial (fun _=>rfl) (fun _=>rfl) ?_;rintro k h q ⟨a,n,p⟩ _ _ _;refine aV (fun b=>?_) (fun c=>?_)
 ·have b:k<bs.length:=by simpa[af] using b
  refine d9 b fun x l o f=>?_;rw[f] at a;have j:=x.toNat_lt;refine Fit.Wi (by omega) (by omega) ?_;refine MX l ?_;refine Fit.Wi (by omega) (by omega) ?_;refine Fit.Wi (by omega) (by omega) ?_;refine Fit.Wi (by omega) (by omega) ?_;refine mS.mk (by omega) ?_;have e:=wY (x:=x.toNat) n (by omega);refine Fit.Wi (by omega) (by omega) ?_;exact⟨(k+1,qN h x.toNat),⟨b,a,e.1,e.2⟩,⟨cF,aq rfl,trivial⟩,trivial,cG b⟩
 ·have c:¬k<bs.length:=by simpa[af] using c
  rw[fG c] at a;exact bD rfl (o6 (C.int .i64) a)
theorem mQ (a b:List UInt8):m9 ⟨a.toArray⟩ ⟨b.toArray⟩=decide (a=b):=by simp[m9]
theorem t22 (a b:List UInt8):CallsT PZ 22 [.sl (af a),.sl (af b)] [] (iF [] (.bool (decide (a=b)))):=by
 refine au Tryd.func22 J5 rfl fun c _=>?_;refine gR.mk ⟨a,rfl,?_⟩;refine gR.mk ⟨b,rfl,?_⟩;exact bD rfl (o6 C.bool (mQ a b))
def Oa (n:Int):UInt8:=UInt8.ofNat n.toNat
def rG (bs:List UInt8):List UInt8:=[Oa (jJ bs / 16777216),Oa (jJ bs / 65536),Oa (jJ bs / 256),Oa (jJ bs)]
def gC (b:List UInt8):List UInt8:=b++rG b
theorem kK {n m:Int}(h:0<=m) (e:n=m):IntKind.wrap .u8 n=((Oa m).toNat:Int):=by
 subst e;simp only[IntKind.wrap,IntKind.bits,IntKind.signed,Oa,UInt8.toNat_ofNat'];simp;omega
theorem RF:∀bs:List UInt8,bs.length<=70368744177664->CallsT PZ 56 [.sl (af bs)] [] (iF [.row 5 1 (af bs)] (.rw 1000))
 | [],hb=>by
  refine au Tryd.func56 DS rfl fun c _=>?_;intro b _;refine aH (fun _=>?_) (fun _=>?_)
  ·exact P8 2 5 1 rfl rfl
  ·refine qB 0 rfl (by simp) ?_;exact xJ [5] rfl rfl rfl rfl
 | x::l,hb=>by
  refine au Tryd.func56 DS rfl fun c _=>?_;intro b a;refine aH (fun h=>?_) (fun _=>?_)
  ·rw[a (by simp[af])] at h;cases h
  ·refine qB 0 rfl (by omega) ?_;exact xJ [5] rfl rfl rfl rfl
theorem Po (b:List UInt8):af b++af (rG b)=af (gC b):=by simp[af,gC]
theorem Sg (bs:List UInt8) (hb:bs.length<=70368744177664):CallsT PZ 34 [.sl (af bs)] [] (iF [.row 5 1 (af (gC bs))] (.rw 1000)):=by
 obtain⟨d,a⟩:=ju bs;refine au Tryd.func34 Kg rfl fun c _=>?_;refine bL (t9 bs) rfl fun _=>?_;refine callO [] [7] (RF bs hb) rfl rfl rfl rfl rfl fun _ _=>?_;refine⟨by decide,?_⟩;refine Fit.to (kK (m:=jJ bs / 16777216) (by omega) (Int.fdiv_eq_ediv_of_nonneg (b:=16777216) _ (by omega))) ?_;refine⟨by decide,?_⟩;refine Fit.to (kK (m:=jJ bs / 65536) (by omega) (Int.fdiv_eq_ediv_of_nonneg (b:=65536) _ (by omega))) ?_;refine⟨by decide,?_⟩;refine Fit.to (kK (m:=jJ bs / 256) (by omega) (Int.fdiv_eq_ediv_of_nonneg (b:=256) _ (by omega))) ?_;refine Fit.to (kK (m:=jJ bs) (by omega) rfl) ?_;refine qB (bs:=rG bs) bs.length aK (by simp[rG];omega) ?_;exact xJ [7] rfl rfl (o6 (fun q=>[TO.row 5 1 q]) (Po bs)) rfl
theorem VI (bs:List UInt8):CallsT PZ 15 [.sl (af bs)] [] (iF [] (.sl (af (rG bs)))):=by
 obtain⟨d,a⟩:=ju bs;refine au Tryd.func15 JZ rfl fun c _=>?_;refine bL (VH bs) rfl fun _=>?_;refine⟨by decide,?_⟩;refine Fit.to (kK (m:=jJ bs / 16777216) (by omega) (Int.fdiv_eq_ediv_of_nonneg (b:=16777216) _ (by omega))) ?_;refine⟨by decide,?_⟩;refine Fit.to (kK (m:=jJ bs / 65536) (by omega) (Int.fdiv_eq_ediv_of_nonneg (b:=65536) _ (by omega))) ?_;refine⟨by decide,?_⟩;refine Fit.to (kK (m:=jJ bs / 256) (by omega) (Int.fdiv_eq_ediv_of_nonneg (b:=256) _ (by omega))) ?_;refine Fit.to (kK (m:=jJ bs) (by omega) rfl) ?_;exact bD rfl rfl
def dJ:List UInt8:=[76,83,1]
theorem t31:CallsT PZ 31 [] [] (iF [] (.sl (af dJ))):=by
 refine au Tryd.func31 Ke rfl fun a _=>?_;exact bD rfl rfl
theorem H8 (a b:List UInt8):decide ((a.take b.length)=b)=decide (b <+: a):=by
 congr 1;exact propext ⟨fun h=>h▸List.take_prefix _ _,fun⟨t,h⟩=>by rw[<-h];simp⟩
theorem Sh (a b:List UInt8):CallsT PZ 24 [.sl (af a),.sl (af b)] [] (iF [] (.bool (decide (b <+: a)))):=by
 refine au Tryd.func24 J7 rfl fun d _=>?_;have c:(af a).length=a.length:=aK;have hb:(af b).length=b.length:=aK;refine aV (fun h=>?_) (fun h=>?_)
 ·rw[c,hb] at h;refine AZ.mk (Xr 0) (by omega) (by rw[c,hb];exact h) fA ?_;refine bL (t22 (a.take b.length) b) (o6 (fun q=>[C.sl q,C.sl (af b)]) (?_:((af a).drop 0).take (((af b).length:Int).toNat-0)=af (a.take b.length))) fun _=>?_
  ·rw[gq,hb];simp
  ·exact bD rfl (o6 C.bool (H8 a b))
 ·rw[c,hb] at h;refine bD rfl (o6 C.bool (?_:false=_))
  symm
  exact decide_eq_false fun q=>h (by have:=q.length_le;omega)
theorem Si (n:Nat) (a:n<=4611686018427387904):CallsT PZ 23 [IC n] [] (iF [] (IC ((n+31) / 32:Nat))):=by
 refine au Tryd.func23 J6 rfl fun b _=>?_;refine Fit.Wi (by omega) (by omega) ?_;refine mS.mk (by omega) ?_;refine Fit.to (m:=(((n+31) / 32:Nat):Int)) (by show IntKind.wrap .i64 (((n+31) / 32:Nat):Int)=_;exact bM (by omega) (by omega)) ?_;exact bD rfl rfl
def ct (b:List UInt8) (i:Nat):List UInt8:=(b.drop (32*i)).take 32
theorem Lp (b:List UInt8) (i:Nat):((af b).drop (min (32*i) b.length)).take (min (32*i+32) b.length-min (32*i) b.length)=af (ct b i):=by
 rw[gq];congr 1;unfold ct
 by_cases h:32*i<=b.length
 ·rw[Nat.min_eq_left h]
  by_cases a:32*i+32<=b.length
  ·rw[Nat.min_eq_left a];congr 1;omega
  ·rw[Nat.min_eq_right (by omega),XI (by simp),XI (by simp;omega)]
 ·have e:min (32*i) b.length=b.length:=Nat.min_eq_right (by omega);rw[e,List.drop_eq_nil_of_le (Xj b.length),List.drop_eq_nil_of_le (by omega:b.length<=32*i)];simp
theorem RG (b:List UInt8) (i:Nat) (hi:i<=1125899906842624):CallsT PZ 25 [.sl (af b),IC i] [] (iF [] (.sl (af (ct b i)))):=by
 refine au Tryd.func25 DC rfl fun h _=>?_;have hb:(af b).length=b.length:=aK;have k:=uT h.1;have a:(if((af b).length:Int)<32*(i:Int) then((af b).length:Int) else 32*(i:Int))=((min (32*i) b.length:Nat):Int):=by
  rw[hb];split<;>omega
 have c:(if((af b).length:Int)<32*(i:Int)+32 then((af b).length:Int) else 32*(i:Int)+32)=((min (32*i+32) b.length:Nat):Int):=by
  rw[hb];split<;>omega
 have f:0<=(if((af b).length:Int)<32*(i:Int) then((af b).length:Int) else 32*(i:Int)):=by rw[a];omega
 have j:(if((af b).length:Int)<32*(i:Int) then((af b).length:Int) else 32*(i:Int))<=(if((af b).length:Int)<32*(i:Int)+32 then((af b).length:Int) else 32*(i:Int)+32):=by rw[a,c];omega
 have e:(if((af b).length:Int)<32*(i:Int)+32 then((af b).length:Int) else 32*(i:Int)+32)<=((af b).length:Int):=by rw[c,hb];omega
 have d:((af b).drop (if((af b).length:Int)<32*(i:Int) then((af b).length:Int) else 32*(i:Int)).toNat).take ((if((af b).length:Int)<32*(i:Int)+32 then((af b).length:Int) else 32*(i:Int)+32).toNat-(if((af b).length:Int)<32*(i:Int) then((af b).length:Int) else 32*(i:Int)).toNat)=af (ct b i):=by
  rw[a,c];exact Lp b i
 have wf:∀n:Nat,n<=b.length->(Lit.int .i64 (n:Int)).wf=true:=by
  intro n l;simp[Lit.wf,IntKind.min,IntKind.max,IntKind.bits,IntKind.signed];omega
 refine Fit.Wi (by omega) (by omega) ?_;refine⟨(o6 (fun q=>(Lit.int .i64 q).wf) a).trans (wf _ (Nat.min_le_right _ _)),?_⟩;refine Fit.Wi (by omega) (by omega) ?_;refine Fit.Wi (by omega) (by omega) ?_;refine⟨(o6 (fun q=>(Lit.int .i64 q).wf) c).trans (wf _ (Nat.min_le_right _ _)),?_⟩;refine AZ.mk f j e fA ?_;exact bD rfl (o6 C.sl d)
end Go.Fr.Tryd
namespace Go.Fr.Tryd
open Go Go.RowKit Go.Proofs Go.Fr Go.Fr.T Go.Fr.Api
theorem Mb:∀{bs:List Own}{n:Nat},Ca bs [n]->∃g t cs,bs=[.box g (t+1) cs]/\cs.length=n
 | [],_,h=>h.elim
 | [o],n,h=>by
  cases o with
  | row=>exact h.1.elim
  | box g t cs =>
   cases t with
   | zero=>exact h.1.elim
   | succ t=>exact⟨g,t,cs,rfl,h.1⟩
 | _::_::_,_,h=>h.2.elim
theorem oL.mono {P:Program}{H:Nat}{PS PS':Value->Prop}{ns:List Nat}{out:Value->List (List Value)}(h:oL P H PS ns out) (c:∀v,PS' v->PS v):oL P H PS' ns out :=
 ⟨h.inv,h.idle,fun F bs v a w b=>h.caught F bs v a w (c v b)⟩
def H9 (v:Value):List (List Value):=[[.bool false]]
theorem NI (bs:List Own) (w:World) (hb:Ca bs [1]):CallsD PZ 40 (bs.map mF).toArray .returning w fun e c w'=>e=.returned (.tuple #[])/\c=.returning/\w'=w:=by
 have b:Tryd.f40.ntmps=15:=by kernel_rfl
 have f:Tryd.f40.results=#[]:=by kernel_rfl
 obtain⟨g,t,cs,rfl,_⟩:=Mb hb;refine callsD_of_wpS Tryd.func40 rfl fun a cs d=>?_;apply wpS_seq;apply wpS_region;simp[wpOpsS,go_sem,recoverD,d,b,Exit.thenS,mF];apply wpS_seq;apply wpS_region;simp[wpOpsS,go_sem,Exit.thenS];refine wpS_cond (t:=false) (by simp[Act.eval,Array.replicate]) ?_;simp only[W9,Xy];refine wpS_of_wp (wp_skip ?_);cases a
 simp_all [bodyPostS,results]
theorem u7:oL PZ 40 (fun v=>v=eS) [1] H9:=by
 refine zT Tryd.func40 Km rfl NI ?_;rintro F bs v rfl hb;obtain⟨g,t,cs,rfl,b⟩:=Mb hb
 match cs,b with
 | [a],_ =>
  (try intro c)<;>(try intro d)<;>exact rfl
def uF (c a:List (List C)) (b:Int) (x:Wd):List C:=.sl c::.sl a::IC b::N0 x
section
variable {L:TL}{ρ:aT}
theorem Ah (ks:List Nat) {f:Nat}{args a:List C}{K:TL->aT->C->Prop}{R:List TO->C->Prop}{Lin Lin':List TO}(h:CallsT PZ f a Lin' R) (m:L.sub ks=some Lin)
  (b:(T.bE ks&&T.lg L ks ks&&aQ Lin ks ks)=true) (e:(args.map fun c=>c.Wm.ren (cj ks 1000))=a) (l:Lin.map (TO.Wh (C.ren (cj ks 1000)))=Lin')
  (k:∀v Mo,R Mo v->Wf v->(∀o∈Mo,o.Wf)->ks.length=Mo.length/\K (((L.Wg ks).kills (rowsOf L ks)).puts ks (Mo.map (TO.Wh (C.ren (aW ks))))) (eI (rowsOf L ks) ρ) (v.ren (aW ks)).slt):pL PZ f args L ρ K:=by
 subst e l;simp only[WY] at b;obtain⟨⟨d,j⟩,c3⟩:=b;exact .mk ⟨[],ks,ks,L,Lin,_,.inl rfl,m,d,d,j,c3,h,k⟩
end
def EB (bs:List UInt8):List TO:=[.box 60 [.own 1001 0],.box 66 [.rw 1002,IC 0,.int .i8 0],.row 5 1 (af bs)]
theorem t32 (d b:List (List C)) (f:Int) (x:Wd) (j:FJ x) (bs:List UInt8) (hb:bs.length+(uo kW x).1.length<=70368744177664) :
  CallsTX PZ 32 [.own 1000 0,.pt (uF d b f x) 0] (EB bs) (fun Mo c=>(uo kW x).2=true/\Mo=EB (bs++(uo kW x).1)/\c=.tup []) (fun v=>v=eS/\(uo kW x).2=false):=by
 have a:=Pk Rs d b f x j bs hb;generalize uo kW x=e at a ⊢;obtain⟨o,n⟩:=e;unfold uF;generalize k:(.sl d::.sl b::IC f::N0 x:List C)=es at a ⊢;refine ai Tryd.func32 Kf rfl fun p m=>?_;refine bO [1001,1002] a rfl rfl rfl rfl (fun v h=>h) ?_;rintro v Mo ⟨l,rfl,rfl⟩ _ _;refine⟨rfl,?_⟩;exact cR [1000,1001,1002] rfl rfl rfl rfl ⟨l,rfl,rfl⟩
end Go.Fr.Tryd
