/- Part of the proofs of the statements of this seat. -/
import Derived.Test.YtnlegbokpofcaaaDoorSnT5G
import Derived.Test.YtnlegbokpofcaaaDoorSnT8G
import Derived.Test.YtnlegbokpofcaaaDoorSnW1G
import Derived.Test.YtnlegbokpofcaaaDoorFW3
set_option maxRecDepth 10000
set_option linter.unusedVariables false
set_option linter.unusedSimpArgs false
namespace Go.Fr.Tryd
open Go Go.RowKit Go.Proofs Go.Fr Go.Fr.T Go.Fr.Api
structure rK (k:Kd):Prop where
 num:∃f,nk PZ k.t "leasehold/snapshot.num"=some f/\(∀n,eP k f [.own 1000 0,.pt [IC n] 0] (k.num n))/\∀n,Q5 k f n
 siz:∃f,nk PZ k.t "leasehold/snapshot.size"=some f/\∀n:Nat,Qa k f [.own 1000 0,IC n] (k.siz n) (IC n)
 mkn:LR Ew k.t "leasehold/snapshot.num"=true
 mks:LR Ew k.t "leasehold/snapshot.size"=true
theorem y5:rK kW:=⟨⟨116,by kernel_rfl,QZ,Pj⟩,⟨117,by kernel_rfl,Q0⟩,rfl,rfl⟩
theorem y7:rK kL:=⟨⟨118,by kernel_rfl,Ph,Pk⟩,⟨119,by kernel_rfl,t119⟩,rfl,rfl⟩
theorem C8 {l:List C}(h:dn l=true) (n:Nat):dn (l.take n)=true:=iq.2 fun c a=>iq.1 h c (List.mem_of_mem_take a)
theorem C9 {l:List C}(h:dn l=true) (n:Nat):dn (l.drop n)=true:=iq.2 fun c a=>iq.1 h c (List.mem_of_mem_drop a)
theorem Em {F:aA}{L:Loc}{es es':List C}{off:Nat}{v:Value}(e:(es.drop off).take es'.length=es') (h:Rel F L (.pt es off) v):Rel F L (.pt es' 0) v:=by
 simp only[Rel] at h ⊢;obtain⟨b,o,vs,rfl,⟨c,d,t,l,hb,n,m⟩,f,j⟩:=h;refine⟨b,o,(vs.drop off).take es'.length,rfl,⟨c+off,d,t,l,hb,by omega,fun i v a=>?_⟩,?_,?_⟩
 ·rw[XL] at a;split at a
  case isFalse=>cases a
  rw[XH] at a;have:=m _ _ a
  rwa [<-Nat.add_assoc] at this
 ·rw[<-e];exact C8 (C9 f off) _
 ·have:=(j.drop off).take es'.length
  rwa [e] at this
theorem En {P:Program}{f:Nat}{args a:List C}{Lin:List TO}{R:List TO->C->Prop}{Pp:Value->Prop}(h:CallsTX P f args Lin R Pp) (d:∀F L vs,aB F L a vs->aB F L args vs):CallsTX P f a Lin R Pp :=
 ⟨fun F Li vs b e c=>h.out F Li vs b e (d _ _ _ c)⟩
theorem BU {F:aA}{L:Loc}{a b:List C}{c l:C}(m:∀v,Rel F L c v->Rel F L l v):∀{vs:List Value},aB F L (a++c::b) vs->aB F L (a++l::b) vs:=by
 induction a with
 | nil =>
  intro vs h;simp only[XO,aB] at h ⊢;obtain⟨v,e,rfl,f,j⟩:=h;exact⟨v,e,rfl,m v f,j⟩
 | cons d a n =>
  intro vs h;simp only[Xu,aB] at h ⊢;obtain⟨v,e,rfl,f,j⟩:=h;exact⟨v,e,rfl,f,n j⟩
theorem eP.at {k:Kd}{f:Nat}{b:C}{ca:List C}{es es':List C}{off:Nat}{e:Enc}(h:eP k f (b::.pt es' 0::ca) e) (c:(es.drop off).take es'.length=es'):eP k f (b::.pt es off::ca) e :=
 fun bs hb=>En (h bs hb) fun F L vs d=>BU (a:=[b]) (fun v j=>Em c j) d
def Eo (es:List C):List Nat->List C->Prop
 | o::os,c::cs=>es[o]?=some c/\Eo es os cs
 | [],[]=>True
 | _,_=>False
theorem BV {F:aA}{a:Option Addr}{sz:Nat}{es:List C}:∀{os:List Nat}{cs:List C}{i:Nat},Eo es os cs->fI F a sz i (os.map fun o=>[.pt es o])->fI F a sz i (cs.map fun c=>[.pt [c] 0])
 | [],[],i,_,h=>by simp only[X9,fI]
 | o::os,c::cs,i,b,h=>by
  simp only[Xj,fI] at h ⊢;obtain⟨⟨vs,f,l,p,e⟩,j⟩:=h;refine⟨⟨vs,f,l,rfl,?_⟩,BV b.2 j⟩;simp only[aB] at e ⊢;obtain⟨v,d,rfl,n,m⟩:=e;refine⟨v,d,rfl,Em (es':=[c]) ?_ n,m⟩;exact take_one b.1
 | [],_::_,i,b,h=>b.elim
 | _::_,[],i,b,h=>b.elim
theorem y8 {es:List C}:∀{os:List Nat}{cs:List C},Eo es os cs->os.length=cs.length
 | [],[],_=>rfl
 | o::os,c::cs,h=>by simp[y8 h.2]
theorem eP.pts {k:Kd}{f:Nat}{d:C}{es:List C}{os:List Nat}{cs:List C}{e:Enc}(h:eP k f [d,.sl (cs.map fun c=>[.pt [c] 0])] e) (n:Eo es os cs):eP k f [d,.sl (os.map fun o=>[.pt es o])] e :=
 fun bs hb=>En (h bs hb) fun F L vs s=>BU (a:=[d]) (b:=[]) (fun v l=>by
  simp only[Rel] at l ⊢;obtain⟨a,c,rfl,t,u,m,sz,q⟩:=l;have j:=y8 n;simp only[Xt] at t u m ⊢;refine⟨a,c,by rw[j],by omega,by omega,fun e=>?_,sz,BV n q⟩;obtain⟨p,r⟩:=m e;have:os=[]:=by simpa using p
  subst this;have:cs=[]:=XD (by simpa using j.symm);subst this;exact⟨rfl,r⟩) s
theorem Ig {a b:Enc}(p:List UInt8) (h:a.2=true):bn (p,true) (bn a b)=bn (p++a.1,true) b:=by
 obtain⟨q,y⟩:=a;simp only at h;subst h;simp[bn]
theorem Ih {a b:Enc}(p:List UInt8) (h:a.2=false):(bn (p,true) (bn a b)).2=false:=by simp[bn,h]
theorem iL {b:Type}{f:b->Enc}{l:List b}{k:Nat}{x:b}{bs s p:List UInt8}(c:l.drop k=x::l.drop (k+1)) (e:s=bs++p) (a:aX f l=bn (p,true) (aX f (l.drop k))) (hb:bs.length+(aX f l).1.length<=70368744177664) :
  s.length+(f x).1.length<=70368744177664/\((f x).2=false->(aX f l).2=false)/\((f x).2=true->aX f l=bn (p++(f x).1,true) (aX f (l.drop (k+1)))):=by
 rw[c] at a;have d:aX f (x::l.drop (k+1))=bn (f x) (aX f (l.drop (k+1))):=rfl;rw[d] at a;refine⟨?_,fun h=>by rw[a];exact Ih p h,fun h=>by rw[a,Ig p h]⟩;rw[a] at hb;rw[e];simp only[bn,Xg] at hb ⊢;omega
theorem kV {b:Type}{f:b->Enc}{l:List b}{k:Nat}{bs s p:List UInt8}(c:l.drop k=[]) (d:s=bs++p) (a:aX f l=bn (p,true) (aX f (l.drop k))):(aX f l).2=true/\s=bs++(aX f l).1:=by
 rw[c] at a;rw[a,d];simp[bn,aX,Ot]
section
variable {k:Kd}(hk:rK k)
include hk
theorem Ak (ns:List Int):eP k 55 [.ifo none k.t 1000 0,.sl ((ns.map IC).map fun c=>[.pt [c] 0])] (aX k.num ns):=by
 intro bs hb;obtain⟨fn,m,j,_⟩:=hk.num;rw[X5];refine ai Tryd.func55 DX rfl fun y ho=>?_;have u:=zT y.2.1;have f:((ns.map ((fun c=>[C.pt [c] 0])∘IC)).length:Int)=ns.length:=by simp
 refine bX ns.length 8 [] bs (fun _=>[]) (fun s=>C0 k.tb s) (fun i s=>∃p,s=bs++p/\aX k.num ns=bn (p,true) (aX k.num (ns.drop i))) ⟨[],by simp,by simp[bn]⟩ (aq rfl) trivial
  ⟨.inl ⟨_,rfl,.inl ⟨rfl,rfl⟩⟩,.inl ⟨_,rfl,.inl ⟨rfl,rfl⟩⟩,trivial⟩ (fun _=>rfl) (fun _=>rfl) ?_
 rintro i s hi ⟨p,l,b⟩ _ _ _;refine aR (fun a=>?_) (fun d=>?_)
 ·have a:i<ns.length:=by
   have h:(i:Int)<((ns.map ((fun c=>[C.pt [c] 0])∘IC)).length:Int):=a;rw[f] at h;omega
  refine ef a fun x z w o=>?_;obtain⟨q,g2,r⟩:=iL o l b hb;refine jy z rfl rfl ?_;refine⟨fn,m,?_⟩;refine bP [1000,1001] (j x s q) rfl rfl rfl rfl (fun v ⟨e,h⟩=>⟨e,g2 h⟩) ?_;rintro v Mo ⟨n,rfl,rfl⟩ _ _;refine⟨rfl,?_⟩;refine Fit.Ww (by omega) (by omega) ?_;exact⟨(i+1,s++(k.num x).1),⟨by omega,p++(k.num x).1,by rw[l,Xk],r n⟩,⟨cG,trivial⟩,⟨.inl ⟨_,rfl,.inl ⟨rfl,rfl⟩⟩,.inl ⟨_,rfl,.inl ⟨rfl,rfl⟩⟩,trivial⟩,cH a⟩
 ·have d:¬i<ns.length:=by
   have h:¬(i:Int)<((ns.map ((fun c=>[C.pt [c] 0])∘IC)).length:Int):=d;rw[f] at h;omega
  obtain⟨n,e2⟩:=kV (fK d) l b;exact cS [1000,1001] rfl rfl rfl rfl ⟨n,p7 (WB k.tb) e2,rfl⟩
theorem Ii (ns:List Bool):eP k 64 [.ifo none k.t 1000 0,.sl ((ns.map C.bool).map fun c=>[.pt [c] 0])] (aX (qg k) ns):=by
 intro bs hb;obtain⟨fn,o,_,n⟩:=hk.num;rw[X5];refine ai Tryd.func64 DZ rfl fun z ho=>?_;have w:=zT z.2.1;have j:((ns.map ((fun c=>[C.pt [c] 0])∘C.bool)).length:Int)=ns.length:=by simp
 refine bX ns.length 9 [] bs (fun _=>[]) (fun s=>C0 k.tb s) (fun i s=>∃p,s=bs++p/\aX (qg k) ns=bn (p,true) (aX (qg k) (ns.drop i))) ⟨[],by simp,by simp[bn]⟩ (aq rfl) trivial
  ⟨.inl ⟨_,rfl,.inl ⟨rfl,rfl⟩⟩,.inl ⟨_,rfl,.inl ⟨rfl,rfl⟩⟩,trivial⟩ (fun _=>rfl) (fun _=>rfl) ?_
 rintro i s hi ⟨p,l,b⟩ _ _ _;refine aR (fun a=>?_) (fun d=>?_)
 ·have a:i<ns.length:=by
   have h:(i:Int)<((ns.map ((fun c=>[C.pt [c] 0])∘C.bool)).length:Int):=a;rw[j] at h;omega
  refine ef a fun x hx y r=>?_;obtain⟨u,g2,q⟩:=iL r l b hb;refine jy hx rfl rfl ?_;refine aH (fun f=>?_) (fun f=>?_)
  all_goals
   subst f;refine⟨fn,o,?_⟩;refine bP [1000,1001,6] (n _ s u) rfl rfl rfl rfl (fun v ⟨e,h⟩=>⟨e,g2 h⟩) ?_;rintro v Mo ⟨m,rfl,rfl⟩ _ _;refine⟨rfl,?_⟩
  ·refine tU (sQ true) rfl (fun h=>by cases h) fun _=>?_;refine⟨rfl,?_⟩;refine Fit.Ww (by omega) (by omega) ?_;exact⟨(i+1,s++(qg k true).1),⟨by omega,p++(qg k true).1,by rw[l,Xk],q m⟩,⟨cG,trivial⟩,⟨.inl ⟨_,rfl,.inl ⟨rfl,rfl⟩⟩,.inl ⟨_,rfl,.inl ⟨rfl,rfl⟩⟩,trivial⟩,cH a⟩
  ·refine tU (sQ true) rfl (fun h=>by cases h) fun _=>?_;refine⟨rfl,?_⟩;refine Fit.Ww (by omega) (by omega) ?_;exact⟨(i+1,s++(qg k false).1),⟨by omega,p++(qg k false).1,by rw[l,Xk],q m⟩,⟨cG,trivial⟩,⟨.inl ⟨_,rfl,.inl ⟨rfl,rfl⟩⟩,.inl ⟨_,rfl,.inl ⟨rfl,rfl⟩⟩,trivial⟩,cH a⟩
 ·have d:¬i<ns.length:=by
   have h:¬(i:Int)<((ns.map ((fun c=>[C.pt [c] 0])∘C.bool)).length:Int):=d;rw[j] at h;omega
  obtain⟨m,e2⟩:=kV (fK d) l b;exact cS [1000,1001] rfl rfl rfl rfl ⟨m,p7 (WB k.tb) e2,rfl⟩
end
theorem Rt {k:Kd}(hk:rK k) {m:Type}{f:Nat}{enc:m->Enc}{cs:m->List C}(l:List m) (hl:∀x,T.cU (cs x) 1=true) (hf:∀x∈l,eP k f (.ifo none k.t 1000 0::.pt (cs x) 0::[]) (enc x)) :
  eP k 70 [.ifo none k.t 1000 0,.pt [.sl (l.map cs)] 0,.fn f [] []] (bS k enc l):=by
 intro bs hb;obtain⟨fs,q,z⟩:=hk.siz;have hE:bS k enc l=bn (k.siz (l.map cs).length) (aX enc l):=by unfold bS;rw[Xt]
 rw[hE] at hb ⊢;have w:bs.length+(k.siz (l.map cs).length).1.length<=70368744177664:=by
  simp only[bn,Xg] at hb;omega
 refine ai Tryd.func70 D8 rfl fun hw ho=>?_;have n:(l.map cs).length<=9223372036854775807:=by have h:=hw.2.1.1.1;simp only[maxLen] at h;exact h
 refine⟨hk.mks,?_⟩;refine⟨fs,q,?_⟩;refine bZ [1000,1001] (z (l.map cs).length bs w) rfl rfl rfl rfl (fun v ⟨e,h⟩=>⟨e,by show(_&&_)=false;rw[h];rfl⟩) ?_;rintro v Mo ⟨e0,rfl,rfl⟩ _ _;refine⟨rfl,?_⟩;refine aH (fun h=>?_) (fun _=>?_)
 ·simp at h
 have j:(bs++(k.siz (l.map cs).length).1).length+(aX enc l).1.length<=70368744177664:=by
  simp only[bn,Xg] at hb ⊢;omega
 generalize u:bs++(k.siz (l.map cs).length).1=b1 at j;have d:((l.map cs).length:Int)=l.length:=by simp
 refine bX l.length 31 [] b1 (fun _=>[]) (fun s=>C0 k.tb s) (fun i s=>∃p,s=b1++p/\aX enc l=bn (p,true) (aX enc (l.drop i))) ⟨[],by simp,by simp[bn]⟩ (aq rfl) trivial
  ⟨.inl ⟨_,rfl,.inl ⟨rfl,rfl⟩⟩,.inl ⟨_,rfl,.inl ⟨rfl,rfl⟩⟩,trivial⟩ (fun _=>rfl) (fun _=>rfl) ?_
 rintro i s hi ⟨p,r,b⟩ _ _ _;refine aR (fun a=>?_) (fun c=>?_)
 ·have a:i<l.length:=by
   have h:(i:Int)<((l.map cs).length:Int):=a;rw[d] at h;omega
  refine ef a fun x hx o hd=>?_;obtain⟨g1,g2,g3⟩:=iL hd r b j;refine jy hx rfl (hl x) ?_;refine bP [1000,1001] (hf x o s g1) rfl rfl rfl rfl (fun v ⟨e,h⟩=>⟨e,by show(_&&_)=false;rw[g2 h,XQ]⟩) ?_;rintro v Mo ⟨y,rfl,rfl⟩ _ _;refine⟨rfl,?_⟩;refine Fit.Ww (by omega) (by rw[Xt] at n;omega) ?_;exact⟨(i+1,s++(enc x).1),⟨by omega,p++(enc x).1,by rw[r,Xk],g3 y⟩,⟨cG,trivial⟩,⟨.inl ⟨_,rfl,.inl ⟨rfl,rfl⟩⟩,.inl ⟨_,rfl,.inl ⟨rfl,rfl⟩⟩,trivial⟩,cH a⟩
 ·have c:¬i<l.length:=by
   have h:¬(i:Int)<((l.map cs).length:Int):=c;rw[d] at h;omega
  obtain⟨y,e2⟩:=kV (fK c) r b;exact cS [1000,1001] rfl rfl rfl rfl ⟨by show(_&&_)=true;rw[e0,y];rfl,p7 (WB k.tb) (by rw[e2,<-u];show _=bs++(_++_);rw[Xk]),rfl⟩
theorem Ru {k:Kd}(hk:rK k) {m:Type}{f:Nat}{enc:m->Enc}{cs:m->List C}(l:List m) (hl:∀x,T.cU (cs x) 1=true) (hf:∀x∈l,eP k f (.ifo none k.t 1000 0::.pt (cs x) 0::[]) (enc x)) :
  eP k 47 [.ifo none k.t 1000 0,.pt [.sl (l.map cs)] 0,.fn f [] []] (bS k enc l):=by
 intro bs hb;obtain⟨fs,q,z⟩:=hk.siz;have hE:bS k enc l=bn (k.siz (l.map cs).length) (aX enc l):=by unfold bS;rw[Xt]
 rw[hE] at hb ⊢;have w:bs.length+(k.siz (l.map cs).length).1.length<=70368744177664:=by
  simp only[bn,Xg] at hb;omega
 refine ai Tryd.func47 DP rfl fun hw ho=>?_;have n:(l.map cs).length<=9223372036854775807:=by have h:=hw.2.1.1.1;simp only[maxLen] at h;exact h
 refine⟨hk.mks,?_⟩;refine⟨fs,q,?_⟩;refine bZ [1000,1001] (z (l.map cs).length bs w) rfl rfl rfl rfl (fun v ⟨e,h⟩=>⟨e,by show(_&&_)=false;rw[h];rfl⟩) ?_;rintro v Mo ⟨e0,rfl,rfl⟩ _ _;refine⟨rfl,?_⟩;refine aH (fun h=>?_) (fun _=>?_)
 ·simp at h
 have j:(bs++(k.siz (l.map cs).length).1).length+(aX enc l).1.length<=70368744177664:=by
  simp only[bn,Xg] at hb ⊢;omega
 generalize u:bs++(k.siz (l.map cs).length).1=b1 at j;have d:((l.map cs).length:Int)=l.length:=by simp
 refine bX l.length 31 [] b1 (fun _=>[]) (fun s=>C0 k.tb s) (fun i s=>∃p,s=b1++p/\aX enc l=bn (p,true) (aX enc (l.drop i))) ⟨[],by simp,by simp[bn]⟩ (aq rfl) trivial
  ⟨.inl ⟨_,rfl,.inl ⟨rfl,rfl⟩⟩,.inl ⟨_,rfl,.inl ⟨rfl,rfl⟩⟩,trivial⟩ (fun _=>rfl) (fun _=>rfl) ?_
 rintro i s hi ⟨p,r,b⟩ _ _ _;refine aR (fun a=>?_) (fun c=>?_)
 ·have a:i<l.length:=by
   have h:(i:Int)<((l.map cs).length:Int):=a;rw[d] at h;omega
  refine ef a fun x hx o hd=>?_;obtain⟨g1,g2,g3⟩:=iL hd r b j;refine jy hx rfl (hl x) ?_;refine bP [1000,1001] (hf x o s g1) rfl rfl rfl rfl (fun v ⟨e,h⟩=>⟨e,by show(_&&_)=false;rw[g2 h,XQ]⟩) ?_;rintro v Mo ⟨y,rfl,rfl⟩ _ _;refine⟨rfl,?_⟩;refine Fit.Ww (by omega) (by rw[Xt] at n;omega) ?_;exact⟨(i+1,s++(enc x).1),⟨by omega,p++(enc x).1,by rw[r,Xk],g3 y⟩,⟨cG,trivial⟩,⟨.inl ⟨_,rfl,.inl ⟨rfl,rfl⟩⟩,.inl ⟨_,rfl,.inl ⟨rfl,rfl⟩⟩,trivial⟩,cH a⟩
 ·have c:¬i<l.length:=by
   have h:¬(i:Int)<((l.map cs).length:Int):=c;rw[d] at h;omega
  obtain⟨y,e2⟩:=kV (fK c) r b;exact cS [1000,1001] rfl rfl rfl rfl ⟨by show(_&&_)=true;rw[e0,y];rfl,p7 (WB k.tb) (by rw[e2,<-u];show _=bs++(_++_);rw[Xk]),rfl⟩
theorem Rv {k:Kd}(hk:rK k) {m:Type}{f:Nat}{enc:m->Enc}{cs:m->List C}(l:List m) (hl:∀x,T.cU (cs x) 10=true) (hf:∀x∈l,eP k f (.ifo none k.t 1000 0::.pt (cs x) 0::[]) (enc x)) :
  eP k 45 [.ifo none k.t 1000 0,.pt [.sl (l.map cs)] 0,.fn f [] []] (bS k enc l):=by
 intro bs hb;obtain⟨fs,q,z⟩:=hk.siz;have hE:bS k enc l=bn (k.siz (l.map cs).length) (aX enc l):=by unfold bS;rw[Xt]
 rw[hE] at hb ⊢;have w:bs.length+(k.siz (l.map cs).length).1.length<=70368744177664:=by
  simp only[bn,Xg] at hb;omega
 refine ai Tryd.func45 DM rfl fun hw ho=>?_;have n:(l.map cs).length<=9223372036854775807:=by have h:=hw.2.1.1.1;simp only[maxLen] at h;exact h
 refine⟨hk.mks,?_⟩;refine⟨fs,q,?_⟩;refine bZ [1000,1001] (z (l.map cs).length bs w) rfl rfl rfl rfl (fun v ⟨e,h⟩=>⟨e,by show(_&&_)=false;rw[h];rfl⟩) ?_;rintro v Mo ⟨e0,rfl,rfl⟩ _ _;refine⟨rfl,?_⟩;refine aH (fun h=>?_) (fun _=>?_)
 ·simp at h
 have j:(bs++(k.siz (l.map cs).length).1).length+(aX enc l).1.length<=70368744177664:=by
  simp only[bn,Xg] at hb ⊢;omega
 generalize u:bs++(k.siz (l.map cs).length).1=b1 at j;have d:((l.map cs).length:Int)=l.length:=by simp
 refine bX l.length 31 [] b1 (fun _=>[]) (fun s=>C0 k.tb s) (fun i s=>∃p,s=b1++p/\aX enc l=bn (p,true) (aX enc (l.drop i))) ⟨[],by simp,by simp[bn]⟩ (aq rfl) trivial
  ⟨.inl ⟨_,rfl,.inl ⟨rfl,rfl⟩⟩,.inl ⟨_,rfl,.inl ⟨rfl,rfl⟩⟩,trivial⟩ (fun _=>rfl) (fun _=>rfl) ?_
 rintro i s hi ⟨p,r,b⟩ _ _ _;refine aR (fun a=>?_) (fun c=>?_)
 ·have a:i<l.length:=by
   have h:(i:Int)<((l.map cs).length:Int):=a;rw[d] at h;omega
  refine ef a fun x hx o hd=>?_;obtain⟨g1,g2,g3⟩:=iL hd r b j;refine jy hx rfl (hl x) ?_;refine bP [1000,1001] (hf x o s g1) rfl rfl rfl rfl (fun v ⟨e,h⟩=>⟨e,by show(_&&_)=false;rw[g2 h,XQ]⟩) ?_;rintro v Mo ⟨y,rfl,rfl⟩ _ _;refine⟨rfl,?_⟩;refine Fit.Ww (by omega) (by rw[Xt] at n;omega) ?_;exact⟨(i+1,s++(enc x).1),⟨by omega,p++(enc x).1,by rw[r,Xk],g3 y⟩,⟨cG,trivial⟩,⟨.inl ⟨_,rfl,.inl ⟨rfl,rfl⟩⟩,.inl ⟨_,rfl,.inl ⟨rfl,rfl⟩⟩,trivial⟩,cH a⟩
 ·have c:¬i<l.length:=by
   have h:¬(i:Int)<((l.map cs).length:Int):=c;rw[d] at h;omega
  obtain⟨y,e2⟩:=kV (fK c) r b;exact cS [1000,1001] rfl rfl rfl rfl ⟨by show(_&&_)=true;rw[e0,y];rfl,p7 (WB k.tb) (by rw[e2,<-u];show _=bs++(_++_);rw[Xk]),rfl⟩
theorem Rw {k:Kd}(hk:rK k) {m:Type}{f:Nat}{enc:m->Enc}{cs:m->List C}(l:List m) (hl:∀x,T.cU (cs x) 7=true) (hf:∀x∈l,eP k f (.ifo none k.t 1000 0::.pt (cs x) 0::[]) (enc x)) :
  eP k 49 [.ifo none k.t 1000 0,.pt [.sl (l.map cs)] 0,.fn f [] []] (bS k enc l):=by
 intro bs hb;obtain⟨fs,q,z⟩:=hk.siz;have hE:bS k enc l=bn (k.siz (l.map cs).length) (aX enc l):=by unfold bS;rw[Xt]
 rw[hE] at hb ⊢;have w:bs.length+(k.siz (l.map cs).length).1.length<=70368744177664:=by
  simp only[bn,Xg] at hb;omega
 refine ai Tryd.func49 DR rfl fun hw ho=>?_;have n:(l.map cs).length<=9223372036854775807:=by have h:=hw.2.1.1.1;simp only[maxLen] at h;exact h
 refine⟨hk.mks,?_⟩;refine⟨fs,q,?_⟩;refine bZ [1000,1001] (z (l.map cs).length bs w) rfl rfl rfl rfl (fun v ⟨e,h⟩=>⟨e,by show(_&&_)=false;rw[h];rfl⟩) ?_;rintro v Mo ⟨e0,rfl,rfl⟩ _ _;refine⟨rfl,?_⟩;refine aH (fun h=>?_) (fun _=>?_)
 ·simp at h
 have j:(bs++(k.siz (l.map cs).length).1).length+(aX enc l).1.length<=70368744177664:=by
  simp only[bn,Xg] at hb ⊢;omega
 generalize u:bs++(k.siz (l.map cs).length).1=b1 at j;have d:((l.map cs).length:Int)=l.length:=by simp
 refine bX l.length 31 [] b1 (fun _=>[]) (fun s=>C0 k.tb s) (fun i s=>∃p,s=b1++p/\aX enc l=bn (p,true) (aX enc (l.drop i))) ⟨[],by simp,by simp[bn]⟩ (aq rfl) trivial
  ⟨.inl ⟨_,rfl,.inl ⟨rfl,rfl⟩⟩,.inl ⟨_,rfl,.inl ⟨rfl,rfl⟩⟩,trivial⟩ (fun _=>rfl) (fun _=>rfl) ?_
 rintro i s hi ⟨p,r,b⟩ _ _ _;refine aR (fun a=>?_) (fun c=>?_)
 ·have a:i<l.length:=by
   have h:(i:Int)<((l.map cs).length:Int):=a;rw[d] at h;omega
  refine ef a fun x hx o hd=>?_;obtain⟨g1,g2,g3⟩:=iL hd r b j;refine jy hx rfl (hl x) ?_;refine bP [1000,1001] (hf x o s g1) rfl rfl rfl rfl (fun v ⟨e,h⟩=>⟨e,by show(_&&_)=false;rw[g2 h,XQ]⟩) ?_;rintro v Mo ⟨y,rfl,rfl⟩ _ _;refine⟨rfl,?_⟩;refine Fit.Ww (by omega) (by rw[Xt] at n;omega) ?_;exact⟨(i+1,s++(enc x).1),⟨by omega,p++(enc x).1,by rw[r,Xk],g3 y⟩,⟨cG,trivial⟩,⟨.inl ⟨_,rfl,.inl ⟨rfl,rfl⟩⟩,.inl ⟨_,rfl,.inl ⟨rfl,rfl⟩⟩,trivial⟩,cH a⟩
 ·have c:¬i<l.length:=by
   have h:¬(i:Int)<((l.map cs).length:Int):=c;rw[d] at h;omega
  obtain⟨y,e2⟩:=kV (fK c) r b;exact cS [1000,1001] rfl rfl rfl rfl ⟨by show(_&&_)=true;rw[e0,y];rfl,p7 (WB k.tb) (by rw[e2,<-u];show _=bs++(_++_);rw[Xk]),rfl⟩
theorem Rx {k:Kd}(hk:rK k) {m:Type}{f:Nat}{enc:m->Enc}{cs:m->List C}(l:List m) (hl:∀x,T.cU (cs x) 1=true) (hf:∀x∈l,eP k f (.ifo none k.t 1000 0::.pt (cs x) 0::[]) (enc x)) :
  eP k 51 [.ifo none k.t 1000 0,.pt [.sl (l.map cs)] 0,.fn f [] []] (bS k enc l):=by
 intro bs hb;obtain⟨fs,q,z⟩:=hk.siz;have hE:bS k enc l=bn (k.siz (l.map cs).length) (aX enc l):=by unfold bS;rw[Xt]
 rw[hE] at hb ⊢;have w:bs.length+(k.siz (l.map cs).length).1.length<=70368744177664:=by
  simp only[bn,Xg] at hb;omega
 refine ai Tryd.func51 DT rfl fun hw ho=>?_;have n:(l.map cs).length<=9223372036854775807:=by have h:=hw.2.1.1.1;simp only[maxLen] at h;exact h
 refine⟨hk.mks,?_⟩;refine⟨fs,q,?_⟩;refine bZ [1000,1001] (z (l.map cs).length bs w) rfl rfl rfl rfl (fun v ⟨e,h⟩=>⟨e,by show(_&&_)=false;rw[h];rfl⟩) ?_;rintro v Mo ⟨e0,rfl,rfl⟩ _ _;refine⟨rfl,?_⟩;refine aH (fun h=>?_) (fun _=>?_)
 ·simp at h
 have j:(bs++(k.siz (l.map cs).length).1).length+(aX enc l).1.length<=70368744177664:=by
  simp only[bn,Xg] at hb ⊢;omega
 generalize u:bs++(k.siz (l.map cs).length).1=b1 at j;have d:((l.map cs).length:Int)=l.length:=by simp
 refine bX l.length 31 [] b1 (fun _=>[]) (fun s=>C0 k.tb s) (fun i s=>∃p,s=b1++p/\aX enc l=bn (p,true) (aX enc (l.drop i))) ⟨[],by simp,by simp[bn]⟩ (aq rfl) trivial
  ⟨.inl ⟨_,rfl,.inl ⟨rfl,rfl⟩⟩,.inl ⟨_,rfl,.inl ⟨rfl,rfl⟩⟩,trivial⟩ (fun _=>rfl) (fun _=>rfl) ?_
 rintro i s hi ⟨p,r,b⟩ _ _ _;refine aR (fun a=>?_) (fun c=>?_)
 ·have a:i<l.length:=by
   have h:(i:Int)<((l.map cs).length:Int):=a;rw[d] at h;omega
  refine ef a fun x hx o hd=>?_;obtain⟨g1,g2,g3⟩:=iL hd r b j;refine jy hx rfl (hl x) ?_;refine bP [1000,1001] (hf x o s g1) rfl rfl rfl rfl (fun v ⟨e,h⟩=>⟨e,by show(_&&_)=false;rw[g2 h,XQ]⟩) ?_;rintro v Mo ⟨y,rfl,rfl⟩ _ _;refine⟨rfl,?_⟩;refine Fit.Ww (by omega) (by rw[Xt] at n;omega) ?_;exact⟨(i+1,s++(enc x).1),⟨by omega,p++(enc x).1,by rw[r,Xk],g3 y⟩,⟨cG,trivial⟩,⟨.inl ⟨_,rfl,.inl ⟨rfl,rfl⟩⟩,.inl ⟨_,rfl,.inl ⟨rfl,rfl⟩⟩,trivial⟩,cH a⟩
 ·have c:¬i<l.length:=by
   have h:¬(i:Int)<((l.map cs).length:Int):=c;rw[d] at h;omega
  obtain⟨y,e2⟩:=kV (fK c) r b;exact cS [1000,1001] rfl rfl rfl rfl ⟨by show(_&&_)=true;rw[e0,y];rfl,p7 (WB k.tb) (by rw[e2,<-u];show _=bs++(_++_);rw[Xk]),rfl⟩
theorem Ry {k:Kd}(hk:rK k) {m:Type}{f:Nat}{enc:m->Enc}{cs:m->List C}(l:List m) (hl:∀x,T.cU (cs x) 2=true) (hf:∀x∈l,eP k f (.ifo none k.t 1000 0::.pt (cs x) 0::[]) (enc x)) :
  eP k 53 [.ifo none k.t 1000 0,.pt [.sl (l.map cs)] 0,.fn f [] []] (bS k enc l):=by
 intro bs hb;obtain⟨fs,q,z⟩:=hk.siz;have hE:bS k enc l=bn (k.siz (l.map cs).length) (aX enc l):=by unfold bS;rw[Xt]
 rw[hE] at hb ⊢;have w:bs.length+(k.siz (l.map cs).length).1.length<=70368744177664:=by
  simp only[bn,Xg] at hb;omega
 refine ai Tryd.func53 DV rfl fun hw ho=>?_;have n:(l.map cs).length<=9223372036854775807:=by have h:=hw.2.1.1.1;simp only[maxLen] at h;exact h
 refine⟨hk.mks,?_⟩;refine⟨fs,q,?_⟩;refine bZ [1000,1001] (z (l.map cs).length bs w) rfl rfl rfl rfl (fun v ⟨e,h⟩=>⟨e,by show(_&&_)=false;rw[h];rfl⟩) ?_;rintro v Mo ⟨e0,rfl,rfl⟩ _ _;refine⟨rfl,?_⟩;refine aH (fun h=>?_) (fun _=>?_)
 ·simp at h
 have j:(bs++(k.siz (l.map cs).length).1).length+(aX enc l).1.length<=70368744177664:=by
  simp only[bn,Xg] at hb ⊢;omega
 generalize u:bs++(k.siz (l.map cs).length).1=b1 at j;have d:((l.map cs).length:Int)=l.length:=by simp
 refine bX l.length 31 [] b1 (fun _=>[]) (fun s=>C0 k.tb s) (fun i s=>∃p,s=b1++p/\aX enc l=bn (p,true) (aX enc (l.drop i))) ⟨[],by simp,by simp[bn]⟩ (aq rfl) trivial
  ⟨.inl ⟨_,rfl,.inl ⟨rfl,rfl⟩⟩,.inl ⟨_,rfl,.inl ⟨rfl,rfl⟩⟩,trivial⟩ (fun _=>rfl) (fun _=>rfl) ?_
 rintro i s hi ⟨p,r,b⟩ _ _ _;refine aR (fun a=>?_) (fun c=>?_)
 ·have a:i<l.length:=by
   have h:(i:Int)<((l.map cs).length:Int):=a;rw[d] at h;omega
  refine ef a fun x hx o hd=>?_;obtain⟨g1,g2,g3⟩:=iL hd r b j;refine jy hx rfl (hl x) ?_;refine bP [1000,1001] (hf x o s g1) rfl rfl rfl rfl (fun v ⟨e,h⟩=>⟨e,by show(_&&_)=false;rw[g2 h,XQ]⟩) ?_;rintro v Mo ⟨y,rfl,rfl⟩ _ _;refine⟨rfl,?_⟩;refine Fit.Ww (by omega) (by rw[Xt] at n;omega) ?_;exact⟨(i+1,s++(enc x).1),⟨by omega,p++(enc x).1,by rw[r,Xk],g3 y⟩,⟨cG,trivial⟩,⟨.inl ⟨_,rfl,.inl ⟨rfl,rfl⟩⟩,.inl ⟨_,rfl,.inl ⟨rfl,rfl⟩⟩,trivial⟩,cH a⟩
 ·have c:¬i<l.length:=by
   have h:¬(i:Int)<((l.map cs).length:Int):=c;rw[d] at h;omega
  obtain⟨y,e2⟩:=kV (fK c) r b;exact cS [1000,1001] rfl rfl rfl rfl ⟨by show(_&&_)=true;rw[e0,y];rfl,p7 (WB k.tb) (by rw[e2,<-u];show _=bs++(_++_);rw[Xk]),rfl⟩
theorem Rz {k:Kd}(hk:rK k) {m:Type}{f:Nat}{enc:m->Enc}{cs:m->List C}(l:List m) (hl:∀x,T.cU (cs x) 7=true) (hf:∀x∈l,eP k f (.ifo none k.t 1000 0::.pt (cs x) 0::[]) (enc x)) :
  eP k 66 [.ifo none k.t 1000 0,.pt [.sl (l.map cs)] 0,.fn f [] []] (bS k enc l):=by
 intro bs hb;obtain⟨fs,q,z⟩:=hk.siz;have hE:bS k enc l=bn (k.siz (l.map cs).length) (aX enc l):=by unfold bS;rw[Xt]
 rw[hE] at hb ⊢;have w:bs.length+(k.siz (l.map cs).length).1.length<=70368744177664:=by
  simp only[bn,Xg] at hb;omega
 refine ai Tryd.func66 D4 rfl fun hw ho=>?_;have n:(l.map cs).length<=9223372036854775807:=by have h:=hw.2.1.1.1;simp only[maxLen] at h;exact h
 refine⟨hk.mks,?_⟩;refine⟨fs,q,?_⟩;refine bZ [1000,1001] (z (l.map cs).length bs w) rfl rfl rfl rfl (fun v ⟨e,h⟩=>⟨e,by show(_&&_)=false;rw[h];rfl⟩) ?_;rintro v Mo ⟨e0,rfl,rfl⟩ _ _;refine⟨rfl,?_⟩;refine aH (fun h=>?_) (fun _=>?_)
 ·simp at h
 have j:(bs++(k.siz (l.map cs).length).1).length+(aX enc l).1.length<=70368744177664:=by
  simp only[bn,Xg] at hb ⊢;omega
 generalize u:bs++(k.siz (l.map cs).length).1=b1 at j;have d:((l.map cs).length:Int)=l.length:=by simp
 refine bX l.length 31 [] b1 (fun _=>[]) (fun s=>C0 k.tb s) (fun i s=>∃p,s=b1++p/\aX enc l=bn (p,true) (aX enc (l.drop i))) ⟨[],by simp,by simp[bn]⟩ (aq rfl) trivial
  ⟨.inl ⟨_,rfl,.inl ⟨rfl,rfl⟩⟩,.inl ⟨_,rfl,.inl ⟨rfl,rfl⟩⟩,trivial⟩ (fun _=>rfl) (fun _=>rfl) ?_
 rintro i s hi ⟨p,r,b⟩ _ _ _;refine aR (fun a=>?_) (fun c=>?_)
 ·have a:i<l.length:=by
   have h:(i:Int)<((l.map cs).length:Int):=a;rw[d] at h;omega
  refine ef a fun x hx o hd=>?_;obtain⟨g1,g2,g3⟩:=iL hd r b j;refine jy hx rfl (hl x) ?_;refine bP [1000,1001] (hf x o s g1) rfl rfl rfl rfl (fun v ⟨e,h⟩=>⟨e,by show(_&&_)=false;rw[g2 h,XQ]⟩) ?_;rintro v Mo ⟨y,rfl,rfl⟩ _ _;refine⟨rfl,?_⟩;refine Fit.Ww (by omega) (by rw[Xt] at n;omega) ?_;exact⟨(i+1,s++(enc x).1),⟨by omega,p++(enc x).1,by rw[r,Xk],g3 y⟩,⟨cG,trivial⟩,⟨.inl ⟨_,rfl,.inl ⟨rfl,rfl⟩⟩,.inl ⟨_,rfl,.inl ⟨rfl,rfl⟩⟩,trivial⟩,cH a⟩
 ·have c:¬i<l.length:=by
   have h:¬(i:Int)<((l.map cs).length:Int):=c;rw[d] at h;omega
  obtain⟨y,e2⟩:=kV (fK c) r b;exact cS [1000,1001] rfl rfl rfl rfl ⟨by show(_&&_)=true;rw[e0,y];rfl,p7 (WB k.tb) (by rw[e2,<-u];show _=bs++(_++_);rw[Xk]),rfl⟩
theorem RA {k:Kd}(hk:rK k) {m:Type}{f:Nat}{enc:m->Enc}{cs:m->List C}(l:List m) (hl:∀x,T.cU (cs x) 5=true) (hf:∀x∈l,eP k f (.ifo none k.t 1000 0::.pt (cs x) 0::[]) (enc x)) :
  eP k 68 [.ifo none k.t 1000 0,.pt [.sl (l.map cs)] 0,.fn f [] []] (bS k enc l):=by
 intro bs hb;obtain⟨fs,q,z⟩:=hk.siz;have hE:bS k enc l=bn (k.siz (l.map cs).length) (aX enc l):=by unfold bS;rw[Xt]
 rw[hE] at hb ⊢;have w:bs.length+(k.siz (l.map cs).length).1.length<=70368744177664:=by
  simp only[bn,Xg] at hb;omega
 refine ai Tryd.func68 D6 rfl fun hw ho=>?_;have n:(l.map cs).length<=9223372036854775807:=by have h:=hw.2.1.1.1;simp only[maxLen] at h;exact h
 refine⟨hk.mks,?_⟩;refine⟨fs,q,?_⟩;refine bZ [1000,1001] (z (l.map cs).length bs w) rfl rfl rfl rfl (fun v ⟨e,h⟩=>⟨e,by show(_&&_)=false;rw[h];rfl⟩) ?_;rintro v Mo ⟨e0,rfl,rfl⟩ _ _;refine⟨rfl,?_⟩;refine aH (fun h=>?_) (fun _=>?_)
 ·simp at h
 have j:(bs++(k.siz (l.map cs).length).1).length+(aX enc l).1.length<=70368744177664:=by
  simp only[bn,Xg] at hb ⊢;omega
 generalize u:bs++(k.siz (l.map cs).length).1=b1 at j;have d:((l.map cs).length:Int)=l.length:=by simp
 refine bX l.length 31 [] b1 (fun _=>[]) (fun s=>C0 k.tb s) (fun i s=>∃p,s=b1++p/\aX enc l=bn (p,true) (aX enc (l.drop i))) ⟨[],by simp,by simp[bn]⟩ (aq rfl) trivial
  ⟨.inl ⟨_,rfl,.inl ⟨rfl,rfl⟩⟩,.inl ⟨_,rfl,.inl ⟨rfl,rfl⟩⟩,trivial⟩ (fun _=>rfl) (fun _=>rfl) ?_
 rintro i s hi ⟨p,r,b⟩ _ _ _;refine aR (fun a=>?_) (fun c=>?_)
 ·have a:i<l.length:=by
   have h:(i:Int)<((l.map cs).length:Int):=a;rw[d] at h;omega
  refine ef a fun x hx o hd=>?_;obtain⟨g1,g2,g3⟩:=iL hd r b j;refine jy hx rfl (hl x) ?_;refine bP [1000,1001] (hf x o s g1) rfl rfl rfl rfl (fun v ⟨e,h⟩=>⟨e,by show(_&&_)=false;rw[g2 h,XQ]⟩) ?_;rintro v Mo ⟨y,rfl,rfl⟩ _ _;refine⟨rfl,?_⟩;refine Fit.Ww (by omega) (by rw[Xt] at n;omega) ?_;exact⟨(i+1,s++(enc x).1),⟨by omega,p++(enc x).1,by rw[r,Xk],g3 y⟩,⟨cG,trivial⟩,⟨.inl ⟨_,rfl,.inl ⟨rfl,rfl⟩⟩,.inl ⟨_,rfl,.inl ⟨rfl,rfl⟩⟩,trivial⟩,cH a⟩
 ·have c:¬i<l.length:=by
   have h:¬(i:Int)<((l.map cs).length:Int):=c;rw[d] at h;omega
  obtain⟨y,e2⟩:=kV (fK c) r b;exact cS [1000,1001] rfl rfl rfl rfl ⟨by show(_&&_)=true;rw[e0,y];rfl,p7 (WB k.tb) (by rw[e2,<-u];show _=bs++(_++_);rw[Xk]),rfl⟩
theorem RD {k:Kd}(hk:rK k) {m:Type}{f:Nat}{enc:m->Enc}{cs:m->List C}(l:List m) (hl:∀x,T.cU (cs x) 8=true) (hf:∀x∈l,eP k f (.ifo none k.t 1000 0::.pt (cs x) 0::[]) (enc x)) :
  eP k 72 [.ifo none k.t 1000 0,.pt [.sl (l.map cs)] 0,.fn f [] []] (bS k enc l):=by
 intro bs hb;obtain⟨fs,q,z⟩:=hk.siz;have hE:bS k enc l=bn (k.siz (l.map cs).length) (aX enc l):=by unfold bS;rw[Xt]
 rw[hE] at hb ⊢;have w:bs.length+(k.siz (l.map cs).length).1.length<=70368744177664:=by
  simp only[bn,Xg] at hb;omega
 refine ai Tryd.func72 uZ rfl fun hw ho=>?_;have n:(l.map cs).length<=9223372036854775807:=by have h:=hw.2.1.1.1;simp only[maxLen] at h;exact h
 refine⟨hk.mks,?_⟩;refine⟨fs,q,?_⟩;refine bZ [1000,1001] (z (l.map cs).length bs w) rfl rfl rfl rfl (fun v ⟨e,h⟩=>⟨e,by show(_&&_)=false;rw[h];rfl⟩) ?_;rintro v Mo ⟨e0,rfl,rfl⟩ _ _;refine⟨rfl,?_⟩;refine aH (fun h=>?_) (fun _=>?_)
 ·simp at h
 have j:(bs++(k.siz (l.map cs).length).1).length+(aX enc l).1.length<=70368744177664:=by
  simp only[bn,Xg] at hb ⊢;omega
 generalize u:bs++(k.siz (l.map cs).length).1=b1 at j;have d:((l.map cs).length:Int)=l.length:=by simp
 refine bX l.length 31 [] b1 (fun _=>[]) (fun s=>C0 k.tb s) (fun i s=>∃p,s=b1++p/\aX enc l=bn (p,true) (aX enc (l.drop i))) ⟨[],by simp,by simp[bn]⟩ (aq rfl) trivial
  ⟨.inl ⟨_,rfl,.inl ⟨rfl,rfl⟩⟩,.inl ⟨_,rfl,.inl ⟨rfl,rfl⟩⟩,trivial⟩ (fun _=>rfl) (fun _=>rfl) ?_
 rintro i s hi ⟨p,r,b⟩ _ _ _;refine aR (fun a=>?_) (fun c=>?_)
 ·have a:i<l.length:=by
   have h:(i:Int)<((l.map cs).length:Int):=a;rw[d] at h;omega
  refine ef a fun x hx o hd=>?_;obtain⟨g1,g2,g3⟩:=iL hd r b j;refine jy hx rfl (hl x) ?_;refine bP [1000,1001] (hf x o s g1) rfl rfl rfl rfl (fun v ⟨e,h⟩=>⟨e,by show(_&&_)=false;rw[g2 h,XQ]⟩) ?_;rintro v Mo ⟨y,rfl,rfl⟩ _ _;refine⟨rfl,?_⟩;refine Fit.Ww (by omega) (by rw[Xt] at n;omega) ?_;exact⟨(i+1,s++(enc x).1),⟨by omega,p++(enc x).1,by rw[r,Xk],g3 y⟩,⟨cG,trivial⟩,⟨.inl ⟨_,rfl,.inl ⟨rfl,rfl⟩⟩,.inl ⟨_,rfl,.inl ⟨rfl,rfl⟩⟩,trivial⟩,cH a⟩
 ·have c:¬i<l.length:=by
   have h:¬(i:Int)<((l.map cs).length:Int):=c;rw[d] at h;omega
  obtain⟨y,e2⟩:=kV (fK c) r b;exact cS [1000,1001] rfl rfl rfl rfl ⟨by show(_&&_)=true;rw[e0,y];rfl,p7 (WB k.tb) (by rw[e2,<-u];show _=bs++(_++_);rw[Xk]),rfl⟩
theorem Mp {k:Kd}(hk:rK k) {n:Type}{f:Nat}{d:Int}{enc:n->Enc}{cs:n->List C}(l:List n) (hl:∀x,T.cU (cs x) 8=true) (hf:∀x∈l,eP k f (.ifo none k.t 1000 0::.pt (cs x) 0::[.pt [IC d] 0]) (enc x)) :
  eP k 72 [.ifo none k.t 1000 0,.pt [.sl (l.map cs)] 0,.fn f [] [.pt [IC d] 0]] (bS k enc l):=by
 intro bs hb;obtain⟨fs,r,aa⟩:=hk.siz;have hE:bS k enc l=bn (k.siz (l.map cs).length) (aX enc l):=by unfold bS;rw[Xt]
 rw[hE] at hb ⊢;have y:bs.length+(k.siz (l.map cs).length).1.length<=70368744177664:=by
  simp only[bn,Xg] at hb;omega
 refine ai Tryd.func72 uZ rfl fun hw ho=>?_;have o:(l.map cs).length<=9223372036854775807:=by have h:=hw.2.1.1.1;simp only[maxLen] at h;exact h
 refine⟨hk.mks,?_⟩;refine⟨fs,r,?_⟩;refine bZ [1000,1001] (aa (l.map cs).length bs y) rfl rfl rfl rfl (fun v ⟨e,h⟩=>⟨e,by show(_&&_)=false;rw[h];rfl⟩) ?_;rintro v Mo ⟨e0,rfl,rfl⟩ _ _;refine⟨rfl,?_⟩;refine aH (fun h=>?_) (fun _=>?_)
 ·simp at h
 have m:(bs++(k.siz (l.map cs).length).1).length+(aX enc l).1.length<=70368744177664:=by
  simp only[bn,Xg] at hb ⊢;omega
 generalize w:bs++(k.siz (l.map cs).length).1=b1 at m;have j:((l.map cs).length:Int)=l.length:=by simp
 refine bX l.length 31 [] b1 (fun _=>[]) (fun s=>C0 k.tb s) (fun i s=>∃p,s=b1++p/\aX enc l=bn (p,true) (aX enc (l.drop i))) ⟨[],by simp,by simp[bn]⟩ (aq rfl) trivial
  ⟨.inl ⟨_,rfl,.inl ⟨rfl,rfl⟩⟩,.inl ⟨_,rfl,.inl ⟨rfl,rfl⟩⟩,trivial⟩ (fun _=>rfl) (fun _=>rfl) ?_
 rintro i s hi ⟨p,u,b⟩ _ _ _;refine aR (fun a=>?_) (fun c=>?_)
 ·have a:i<l.length:=by
   have h:(i:Int)<((l.map cs).length:Int):=a;rw[j] at h;omega
  refine ef a fun x hx q hd=>?_;obtain⟨g1,g2,g3⟩:=iL hd u b m;refine jy hx rfl (hl x) ?_;refine bP [1000,1001] (hf x q s g1) rfl rfl rfl rfl (fun v ⟨e,h⟩=>⟨e,by show(_&&_)=false;rw[g2 h,XQ]⟩) ?_;rintro v Mo ⟨z,rfl,rfl⟩ _ _;refine⟨rfl,?_⟩;refine Fit.Ww (by omega) (by rw[Xt] at o;omega) ?_;exact⟨(i+1,s++(enc x).1),⟨by omega,p++(enc x).1,by rw[u,Xk],g3 z⟩,⟨cG,trivial⟩,⟨.inl ⟨_,rfl,.inl ⟨rfl,rfl⟩⟩,.inl ⟨_,rfl,.inl ⟨rfl,rfl⟩⟩,trivial⟩,cH a⟩
 ·have c:¬i<l.length:=by
   have h:¬(i:Int)<((l.map cs).length:Int):=c;rw[j] at h;omega
  obtain⟨z,e2⟩:=kV (fK c) u b;exact cS [1000,1001] rfl rfl rfl rfl ⟨by show(_&&_)=true;rw[e0,z];rfl,p7 (WB k.tb) (by rw[e2,<-w];show _=bs++(_++_);rw[Xk]),rfl⟩
theorem dK {a b:Enc}(h:a.2=false):(bn a b).2=false:=by show(_&&_)=false;rw[h];rfl
theorem aP {a b:Enc}(h:b.2=false):(bn a b).2=false:=by show(_&&_)=false;rw[h,XQ]
theorem eS {a b:Enc}(h:a.2=true) (c:b.2=true):(bn a b).2=true:=by show(_&&_)=true;rw[h,c];rfl
theorem dR {bs:List UInt8}{a b:Enc}{B:Nat}(h:bs.length+(bn a b).1.length<=B):bs.length+a.1.length<=B:=by
 simp only[bn,Xg] at h;omega
theorem dG {bs:List UInt8}{a b:Enc}{B:Nat}(h:bs.length+(bn a b).1.length<=B):(bs++a.1).length+b.1.length<=B:=by
 simp only[bn,Xg] at h ⊢;omega
theorem Pv (bs a b:List UInt8):(bs++a)++b=bs++(a++b):=by simp
theorem Pw (bs a b c:List UInt8):((bs++a)++b)++c=bs++(a++(b++c)):=by simp
theorem NW (bs a b c d e:List UInt8):((((bs++a)++b)++c)++d)++e=bs++(a++(b++(c++(d++e)))):=by simp
theorem RE (bs a b c d e f:List UInt8):(((((bs++a)++b)++c)++d)++e)++f=bs++(a++(b++(c++(d++(e++f))))):=by simp
section
variable {L:TL}{ρ:aU}{k:Kd}
theorem ve {PS:o7}{f:Nat}{args a:List C}{bs:List UInt8}{e:Enc}{K:TL->aU->C->Prop}(h:eP k f a e) (hb:bs.length+e.1.length<=70368744177664)
  (m:L.sub [1000,1001]=some (WB k.tb bs)) (j:(args.map fun c=>c.WA.ren (cn [1000,1001] 1000))=a) (n:e.2=false->PS.ps eV)
  (b:e.2=true->K (((L.Wu [1000,1001]).kills (rowsOf L [1000,1001])).puts [1000,1001] (WB k.tb (bs++e.1))) (eK (rowsOf L [1000,1001]) ρ) (.tup [])) (d:kU L [1000,1001] PS.hb=true:=by rfl):oh PZ PS f args L ρ K :=
 bP [1000,1001] (h bs hb) m rfl j rfl (fun v ⟨e,h⟩=>e▸n h) (fun v Mo ⟨p,o,l⟩ _ _=>by subst o l;exact⟨rfl,b p⟩) d
theorem xX {PS:o7}{d:List Nat}{f:Nat}{args a:List C}{bs:List UInt8}{e:Enc}{K:TL->aU->C->Prop}(h:eP k f a e) (hb:bs.length+e.1.length<=70368744177664)
  (o:L.sub [1000,1001]=some (WB k.tb bs)) (b:vU [1000,1001] d=true) (m:(args.map fun c=>c.WA.ren (cn [1000,1001] 1000))=a) (p:e.2=false->PS.ps eV)
  (j:e.2=true->K (((L.Wu [1000,1001]).kills (rowsOf L [1000,1001])).puts [1000,1001] (WB k.tb (bs++e.1))) (eK (rowsOf L [1000,1001]) ρ) (.tup [])) (l:kU L [1000,1001] PS.hb=true:=by rfl):mS PZ PS d f args L ρ K :=
 bZ [1000,1001] (h bs hb) o (by simp only[Xf];exact⟨⟨rfl,b⟩,rfl⟩) m rfl (fun v ⟨e,h⟩=>e▸p h) (fun v Mo ⟨r,q,n⟩ _ _=>by subst q n;exact⟨rfl,j r⟩) l
end
section
variable {k:Kd}(hk:rK k)
include hk
theorem RF (n:Int):eP k 71 [.ifo none k.t 1000 0,.pt [IC n] 0] (k.num n):=by
 intro bs hb;obtain⟨fn,b,a,_⟩:=hk.num;refine ai Tryd.func71 D9 rfl fun c d=>?_;refine⟨fn,b,?_⟩;refine ve (a n) hb rfl rfl (fun h=>⟨rfl,h⟩) fun h=>?_;exact cS [1000,1001] rfl rfl rfl rfl ⟨h,rfl,rfl⟩
theorem RG (b:Bool):eP k 48 [.ifo none k.t 1000 0,.pt (HV b) 0] (QJ k b):=by
 intro bs hb;have a:=(Ii hk [b]).pts (es:=HV b) (os:=[0]) ⟨rfl,trivial⟩;refine ai Tryd.func48 DQ rfl fun c d=>?_;refine ve a hb rfl rfl (fun h=>⟨rfl,h⟩) fun h=>?_;exact cS [1000,1001] rfl rfl rfl rfl ⟨h,rfl,rfl⟩
theorem nQ (p:List Int):eP k 70 [.ifo none k.t 1000 0,.pt [.sl (wN p)] 0,.fn 71 [] []] (bS k k.num p):=Rt hk p (cs:=fun n=>[IC n]) (fun _=>rfl) fun x _=>RF hk x
end
theorem Px:∀(m:Nat) (v:Vl),Fu v<=m->∀d:Int,-4611686018427387904+(m:Int)<=d->d<=4611686018427387904->eP kW 95 [.ifo none kW.t 1000 0,.pt (rJ v) 0,.pt [IC d] 0] (Az kW v d)
 | 0,.mk a b c n f e p l,u,d,z,h2=>by rw[Fu] at u;omega
 | m+1,.mk a b c n f e p l,u,d,z,h2=>by
  intro bs hb;have ih:∀x∈f,eP kW 95 [.ifo none kW.t 1000 0,.pt (rJ x) 0,.pt [IC (d-1)] 0] (Az kW x (d-1)):=fun x hx=>Px m x (by
   have:=wT hx;rw[Fu] at u;omega) (d-1) (by omega) (by omega)
  have hE:Az kW (.mk a b c n f e p l) d=bn (Ad (decide (0<d)||kW.deep)) (bn (aX kW.num [a,b,c,n]) (bn (bS kW (fun x=>Az kW x (d-1)) f) (bn (aX (qg kW) [e]) (bn (bS kW kW.num p) (bS kW kW.num l))))):=by
   rw[Az,tT];rfl
  rw[hE] at hb ⊢;have j:=dG hb;have j:bs.length+(bn (aX kW.num [a,b,c,n]) (bn (bS kW (fun x=>Az kW x (d-1)) f) (bn (aX (qg kW) [e]) (bn (bS kW kW.num p) (bS kW kW.num l))))).1.length<=70368744177664:=by simpa[Ad] using j
  have w1:=(Ak y5 [a,b,c,n]).pts (es:=rJ (.mk a b c n f e p l)) (os:=[0,1,2,3]) ⟨rfl,rfl,rfl,rfl,trivial⟩;have w2:=(Mp y5 f (cs:=rJ) (fun x=>by cases x;rfl) ih).at (es:=rJ (.mk a b c n f e p l)) (off:=4) (p7 (fun q=>[C.sl q]) (sL f));have w3:=(Ii y5 [e]).pts (es:=rJ (.mk a b c n f e p l)) (os:=[5]) ⟨rfl,trivial⟩;have w4:=(nQ y5 p).at (es:=rJ (.mk a b c n f e p l)) (off:=6) rfl;have w5:=(nQ y5 l).at (es:=rJ (.mk a b c n f e p l)) (off:=7) rfl;refine ai Tryd.func95 u4 rfl fun hw ho=>?_;refine aR (fun y=>?_) (fun y=>?_)
  ·have w:(Ad (decide (0<d)||kW.deep)).2=true:=by show(decide (0<d)||false)=true;simp;exact y
   refine tU (sQ true) rfl (fun h=>by cases h) fun _=>?_;refine xX w1 (dR j) rfl rfl rfl (fun h=>⟨rfl,aP (dK h)⟩) fun o1=>?_;have s:=dG j;refine Fit.Ww (by omega) (by omega) ?_;refine jx (Pr (d-1)) rfl fun _=>?_;refine xX w2 (dR s) rfl rfl rfl (fun h=>⟨rfl,aP (aP (dK h))⟩) fun o2=>?_;have o:=dG s;refine ve w3 (dR o) rfl rfl (fun h=>⟨rfl,aP (aP (aP (dK h)))⟩) fun o3=>?_;have r:=dG o;refine ve w4 (dR r) rfl rfl (fun h=>⟨rfl,aP (aP (aP (aP (dK h))))⟩) fun o4=>?_;refine ve w5 (dG r) rfl rfl (fun h=>⟨rfl,aP (aP (aP (aP (aP h))))⟩) fun o5=>?_;exact cS [1000,1001] rfl rfl rfl rfl ⟨eS w (eS o1 (eS o2 (eS o3 (eS o4 o5)))),p7 (WB kW.tb) (NW _ _ _ _ _ _),rfl⟩
  ·refine tU (sQ false) rfl (fun _=>⟨rfl,dK (by show(decide (0<d)||false)=false;simp;omega)⟩) fun h=>by cases h
theorem Py:∀(m:Nat) (v:Vl),Fu v<=m->∀d:Int,-4611686018427387904+(m:Int)<=d->d<=4611686018427387904->eP kL 95 [.ifo none kL.t 1000 0,.pt (rJ v) 0,.pt [IC d] 0] (Az kL v d)
 | 0,.mk a b c n f e p l,u,d,y,h2=>by rw[Fu] at u;omega
 | m+1,.mk a b c n f e p l,u,d,y,h2=>by
  intro bs hb;have ih:∀x∈f,eP kL 95 [.ifo none kL.t 1000 0,.pt (rJ x) 0,.pt [IC (d-1)] 0] (Az kL x (d-1)):=fun x hx=>Py m x (by
   have:=wT hx;rw[Fu] at u;omega) (d-1) (by omega) (by omega)
  have hE:Az kL (.mk a b c n f e p l) d=bn (Ad (decide (0<d)||kL.deep)) (bn (aX kL.num [a,b,c,n]) (bn (bS kL (fun x=>Az kL x (d-1)) f) (bn (aX (qg kL) [e]) (bn (bS kL kL.num p) (bS kL kL.num l))))):=by
   rw[Az,tT];rfl
  rw[hE] at hb ⊢;have j:=dG hb;have j:bs.length+(bn (aX kL.num [a,b,c,n]) (bn (bS kL (fun x=>Az kL x (d-1)) f) (bn (aX (qg kL) [e]) (bn (bS kL kL.num p) (bS kL kL.num l))))).1.length<=70368744177664:=by simpa[Ad] using j
  have w1:=(Ak y7 [a,b,c,n]).pts (es:=rJ (.mk a b c n f e p l)) (os:=[0,1,2,3]) ⟨rfl,rfl,rfl,rfl,trivial⟩;have w2:=(Mp y7 f (cs:=rJ) (fun x=>by cases x;rfl) ih).at (es:=rJ (.mk a b c n f e p l)) (off:=4) (p7 (fun q=>[C.sl q]) (sL f));have w3:=(Ii y7 [e]).pts (es:=rJ (.mk a b c n f e p l)) (os:=[5]) ⟨rfl,trivial⟩;have w4:=(nQ y7 p).at (es:=rJ (.mk a b c n f e p l)) (off:=6) rfl;have w5:=(nQ y7 l).at (es:=rJ (.mk a b c n f e p l)) (off:=7) rfl;refine ai Tryd.func95 u4 rfl fun hw ho=>?_;have w:(Ad (decide (0<d)||kL.deep)).2=true:=by show(decide (0<d)||true)=true;simp
  refine aR (fun h0=>?_) (fun h0=>?_)
  all_goals
   refine tU (sQ true) rfl (fun h=>by cases h) fun _=>?_;refine xX w1 (dR j) rfl rfl rfl (fun h=>⟨rfl,aP (dK h)⟩) fun o1=>?_;have s:=dG j;refine Fit.Ww (by omega) (by omega) ?_;refine jx (Pr (d-1)) rfl fun _=>?_;refine xX w2 (dR s) rfl rfl rfl (fun h=>⟨rfl,aP (aP (dK h))⟩) fun o2=>?_;have o:=dG s;refine ve w3 (dR o) rfl rfl (fun h=>⟨rfl,aP (aP (aP (dK h)))⟩) fun z=>?_;have r:=dG o;refine ve w4 (dR r) rfl rfl (fun h=>⟨rfl,aP (aP (aP (aP (dK h))))⟩) fun o4=>?_;refine ve w5 (dG r) rfl rfl (fun h=>⟨rfl,aP (aP (aP (aP (aP h))))⟩) fun o5=>?_;exact cS [1000,1001] rfl rfl rfl rfl ⟨eS w (eS o1 (eS o2 (eS z (eS o4 o5)))),p7 (WB kL.tb) (NW _ _ _ _ _ _),rfl⟩
structure RH (k:Kd):Prop where
 toKdOk:rK k
 val:∀v:Vl,Fu v<=4611686018427387904->eP k 95 [.ifo none k.t 1000 0,.pt (rJ v) 0,.pt [IC 60] 0] (yY k v)
theorem RI:RH kW:={toKdOk:=y5,val:=fun v h=>Px _ v h 60 (by omega) (by omega)}
theorem RJ:RH kL:={toKdOk:=y7,val:=fun v h=>Py _ v h 60 (by omega) (by omega)}
def vsB (l:List Vl):Prop:=∀v∈l,Fu v<=4611686018427387904
def RM (x:Ce):Prop:=Fu x.value<=4611686018427387904
def RN (x:Ac):Prop:=vsB x.slots
def RO (x:Tk):Prop:=∀f∈x.frames,RN f
def FO (x:Wd):Prop:=(∀c∈x.cells,RM c)/\(∀t∈x.tasks,RO t)/\∀l∈x.channels,vsB l
section
variable {k:Kd}(hk:RH k)
include hk
theorem Pz (v:Vl) (a:Fu v<=4611686018427387904):eP k 65 [.ifo none k.t 1000 0,.pt (rJ v) 0] (yY k v):=by
 intro bs hb;refine ai Tryd.func65 D3 rfl fun b c=>?_;refine bO (Pr 60) rfl fun _=>?_;refine ve (hk.val v a) hb rfl rfl (fun h=>⟨rfl,h⟩) fun h=>?_;exact cS [1000,1001] rfl rfl rfl rfl ⟨h,rfl,rfl⟩
theorem PA (l:List Vl) (a:vsB l):eP k 52 [.ifo none k.t 1000 0,.pt (Me l) 0] (P9 k l):=by
 intro bs hb;refine ai Tryd.func52 DU rfl fun c d=>?_;refine ve (RD hk.toKdOk l (cs:=rJ) (fun x=>by cases x;rfl) fun x b=>Pz hk x (a x b)) hb rfl rfl (fun h=>⟨rfl,h⟩) fun h=>?_;exact cS [1000,1001] rfl rfl rfl rfl ⟨h,rfl,rfl⟩
theorem RP (x:Ce) (e:RM x):eP k 46 [.ifo none k.t 1000 0,.pt (Eb x) 0] (QE k x):=by
 intro bs hb;obtain⟨b,a,v⟩:=x;have m:=(Ii hk.toKdOk [b]).pts (es:=Eb ⟨b,a,v⟩) (os:=[0]) ⟨rfl,trivial⟩;have n:=(Ak hk.toKdOk [a]).pts (es:=Eb ⟨b,a,v⟩) (os:=[1]) ⟨rfl,trivial⟩;have l:=(Pz hk v e).at (es:=Eb ⟨b,a,v⟩) (off:=2) (by cases v;rfl);refine ai Tryd.func46 DN rfl fun o p=>?_;refine ve m (dR hb) rfl rfl (fun h=>⟨rfl,dK h⟩) fun d=>?_;have c:=dG hb;refine ve n (dR c) rfl rfl (fun h=>⟨rfl,aP (dK h)⟩) fun j=>?_;refine ve l (dG c) rfl rfl (fun h=>⟨rfl,aP (aP h)⟩) fun f=>?_;exact cS [1000,1001] rfl rfl rfl rfl ⟨eS d (eS j f),p7 (WB k.tb) (Pw _ _ _ _),rfl⟩
theorem RQ (x:Ac) (c:RN x):eP k 67 [.ifo none k.t 1000 0,.pt (FN x) 0] (QF k x):=by
 intro bs hb;have j:=(Ak hk.toKdOk [x.number,x.routine,x.block,x.index,x.dst]).pts (es:=FN x) (os:=[0,1,2,3,4]) ⟨rfl,rfl,rfl,rfl,rfl,trivial⟩;have l:=(PA hk x.slots c).at (es:=FN x) (off:=5) rfl;have f:=(nQ hk.toKdOk x.since).at (es:=FN x) (off:=6) rfl;refine ai Tryd.func67 D5 rfl fun m n=>?_;refine xX j (dR hb) rfl rfl rfl (fun h=>⟨rfl,dK h⟩) fun b=>?_;have a:=dG hb;refine ve l (dR a) rfl rfl (fun h=>⟨rfl,aP (dK h)⟩) fun e=>?_;refine ve f (dG a) rfl rfl (fun h=>⟨rfl,aP (aP h)⟩) fun d=>?_;exact cS [1000,1001] rfl rfl rfl rfl ⟨eS b (eS e d),p7 (WB k.tb) (Pw _ _ _ _),rfl⟩
theorem RS (x:Ln):eP k 69 [.ifo none k.t 1000 0,.pt (IL x) 0] (QG k x):=by
 intro bs hb;have c:=(Ak hk.toKdOk [x.frame,x.slot]).pts (es:=IL x) (os:=[0,1]) ⟨rfl,rfl,trivial⟩;have d:=(Ii hk.toKdOk [x.excl,x.re,x.over]).pts (es:=IL x) (os:=[2,3,4]) ⟨rfl,rfl,rfl,trivial⟩;refine ai Tryd.func69 D7 rfl fun e f=>?_;refine xX c (dR hb) rfl rfl rfl (fun h=>⟨rfl,dK h⟩) fun a=>?_;refine xX d (dG hb) rfl rfl rfl (fun h=>⟨rfl,aP h⟩) fun b=>?_;exact cS [1000,1001] rfl rfl rfl rfl ⟨eS a b,p7 (WB k.tb) (Pv _ _ _),rfl⟩
theorem RT (x:Tk) (p:RO x):eP k 50 [.ifo none k.t 1000 0,.pt (Ec x) 0] (QH k x):=by
 intro bs hb;have f:=(Ak hk.toKdOk [x.state]).pts (es:=Ec x) (os:=[0]) ⟨rfl,trivial⟩;have j:=(Rz hk.toKdOk x.frames (cs:=FN) (fun _=>rfl) fun y s=>RQ hk y (p y s)).at (es:=Ec x) (off:=1) rfl;have q:=(RA hk.toKdOk x.loans (cs:=IL) (fun _=>rfl) fun y _=>RS hk y).at (es:=Ec x) (off:=2) rfl;have m:=(Ak hk.toKdOk [x.allocs,x.clock,x.next]).pts (es:=Ec x) (os:=[3,4,5]) ⟨rfl,rfl,rfl,trivial⟩;have l:=(nQ hk.toKdOk x.cells).at (es:=Ec x) (off:=6) rfl;refine ai Tryd.func50 DS rfl fun u v=>?_;refine ve f (dR hb) rfl rfl (fun h=>⟨rfl,dK h⟩) fun o=>?_;have c:=dG hb;refine ve j (dR c) rfl rfl (fun h=>⟨rfl,aP (dK h)⟩) fun e=>?_;have a:=dG c;refine ve q (dR a) rfl rfl (fun h=>⟨rfl,aP (aP (dK h))⟩) fun d=>?_;have b:=dG a;refine xX m (dR b) rfl rfl rfl (fun h=>⟨rfl,aP (aP (aP (dK h)))⟩) fun r=>?_;refine ve l (dG b) rfl rfl (fun h=>⟨rfl,aP (aP (aP (aP h)))⟩) fun n=>?_;exact cS [1000,1001] rfl rfl rfl rfl ⟨eS o (eS e (eS d (eS r n))),p7 (WB k.tb) (NW _ _ _ _ _ _),rfl⟩
theorem RU (x:Ou):eP k 54 [.ifo none k.t 1000 0,.pt (Mf x) 0] (QI k x):=by
 intro bs hb;have b:=(Ak hk.toKdOk [x.task,x.number]).pts (es:=Mf x) (os:=[0,1]) ⟨rfl,rfl,trivial⟩;refine ai Tryd.func54 DW rfl fun c d=>?_;refine xX b hb rfl rfl rfl (fun h=>⟨rfl,h⟩) fun a=>?_;exact cS [1000,1001] rfl rfl rfl rfl ⟨a,rfl,rfl⟩
theorem PD (m n:List (List C)) (l:Int) (x:Wd) (j:FO x):eP k 33 [.ifo none k.t 1000 0,.pt (.sl m::.sl n::IC l::Om x) 0] (uy k x):=by
 intro bs hb;generalize a:(.sl m::.sl n::IC l::Om x:List C)=es;have q:=(Rv hk.toKdOk x.cells (cs:=Eb) (fun y=>by obtain⟨_,_,v⟩:=y;cases v;rfl) fun y f=>RP hk y (j.1 y f)).at (es:=es) (off:=3) (by rw[<-a];rfl);have r:=(Ru hk.toKdOk x.arenas (cs:=HV) (fun _=>rfl) fun y _=>RG hk.toKdOk y).at (es:=es) (off:=4) (by rw[<-a];rfl);have w3:=(Rw hk.toKdOk x.tasks (cs:=Ec) (fun _=>rfl) fun y f=>RT hk y (j.2.1 y f)).at (es:=es) (off:=5) (by rw[<-a];rfl);have u:=(Rx hk.toKdOk x.channels (cs:=Me) (fun _=>rfl) fun y f=>PA hk y (j.2.2 y f)).at (es:=es) (off:=6) (by rw[<-a];rfl);have s:=(Ry hk.toKdOk x.outputs (cs:=Mf) (fun _=>rfl) fun y _=>RU hk y).at (es:=es) (off:=7) (by rw[<-a];rfl);have w:=(Ak hk.toKdOk [x.made,x.dropped,x.closed]).pts (es:=es) (os:=[8,9,10]) (by rw[<-a];exact⟨rfl,rfl,rfl,trivial⟩);refine ai Tryd.func33 DK rfl fun hw ho=>?_;refine ve q (dR hb) rfl rfl (fun h=>⟨rfl,dK h⟩) fun o1=>?_;have e:=dG hb;refine ve r (dR e) rfl rfl (fun h=>⟨rfl,aP (dK h)⟩) fun p=>?_;have c:=dG e;refine ve w3 (dR c) rfl rfl (fun h=>⟨rfl,aP (aP (dK h))⟩) fun o=>?_;have d:=dG c;refine ve u (dR d) rfl rfl (fun h=>⟨rfl,aP (aP (aP (dK h)))⟩) fun o4=>?_;have b:=dG d;refine ve s (dR b) rfl rfl (fun h=>⟨rfl,aP (aP (aP (aP (dK h))))⟩) fun z=>?_;refine xX w (dG b) rfl rfl rfl (fun h=>⟨rfl,aP (aP (aP (aP (aP h))))⟩) fun o6=>?_;exact cS [1000,1001] rfl rfl rfl rfl ⟨eS o1 (eS p (eS o (eS o4 (eS z o6)))),p7 (WB k.tb) (RE _ _ _ _ _ _ _),rfl⟩
end
end Go.Fr.Tryd
namespace Go.Fr.Tryd
open Go Go.RowKit Go.Proofs Go.Fr Go.Fr.T Go.Fr.Api Go.Fr.Dm
theorem BW:∀(l:List Int) (h:Int),(∀x∈l,0<=x)->0<=h/\h<2147483647->0<=l.foldl qU h/\l.foldl qU h<2147483647
 | [],h,_,hb=>hb
 | x::l,h,a,hb=>BW l _ (fun y b=>a y (by simp[b])) (wZ hb.1 (a x (by simp)))
def jd (bs:List UInt8):Int:=PE (Al bs)
theorem jE (bs:List UInt8):0<=jd bs/\jd bs<2147483647:=BW _ _ (fun x a=>by
 simp only[Al,XI] at a;obtain⟨b,_,rfl⟩:=a;omega) (by omega)
theorem VW (b:UInt8):CallsT PZ 30 [iG b] [] (iZ [] (.int .i64 b.toNat)):=by
 refine au Tryd.func30 Ko rfl fun a _=>?_;refine Fit.Ww (by omega) (by have:=b.toNat_lt;omega) ?_;exact bD rfl rfl
theorem t29 (bs:List UInt8):CallsT PZ 29 [.sl (af bs),.fn 30 [] []] [] (iZ [] (IC (jd bs))):=by
 refine au Tryd.func29 Kn rfl fun n _=>?_;have r:=uW n.1;refine bX bs.length 10 [5] 7 (fun h=>[.int .i64 h]) (fun _=>[]) (fun k h=>0<=h/\h<2147483647/\(Al (bs.drop k)).foldl qU h=jd bs) ⟨by omega,by omega,rfl⟩
  (aq rfl) ⟨aq rfl,trivial⟩ trivial (fun _=>rfl) (fun _=>rfl) ?_
 rintro k h s ⟨l,q,d⟩ f _ e;refine aR (fun a=>?_) (fun c=>?_)
 ·have a:k<bs.length:=by simpa[af] using a
  obtain⟨b,hb,j⟩:=drop_cons a;rw[j] at d;obtain⟨m,p⟩:=wZ (x:=b.toNat) l (by omega);have o:=b.toNat_lt;refine Nf hb ?_;refine Fit.Ww (by omega) (by omega) ?_;refine bO (VW b) rfl fun _=>?_;refine Fit.Ww (by omega) (by omega) ?_;refine Fit.Ww (by omega) (by omega) ?_;refine mW.mk (by omega) ?_;refine Fit.Ww (by omega) (by omega) ?_;exact⟨(k+1,qU h b.toNat),⟨a,m,p,d⟩,⟨cG,aq rfl,trivial⟩,trivial,cH a⟩
 ·have c:¬k<bs.length:=by simpa[af] using c
  rw[fK c] at d;exact bD rfl (p7 (C.int .i64) d)
theorem t9 (bs:List UInt8):CallsT PZ 9 [.sl (af bs)] [] (iZ [] (IC (jd bs))):=by
 refine au Tryd.func9 NA rfl fun a _=>?_;refine bO (t29 bs) rfl fun _=>?_;exact bD rfl rfl
theorem VX (bs:List UInt8):CallsT PZ 37 [.sl (af bs)] [] (iZ [] (IC (jd bs))):=by
 refine au Tryd.func37 Kv rfl fun f _=>?_;have d:bs.length<=9223372036854775807:=uW f.1;refine bX bs.length 4 [3] (7:Int) (fun h=>[IC h]) (fun _=>[]) (fun k h=>(Al (bs.drop k)).foldl qU h=jd bs/\0<=h/\h<2147483647) ⟨rfl,by omega,by omega⟩ (aq rfl) ⟨aq rfl,trivial⟩ trivial (fun _=>rfl) (fun _=>rfl) ?_;rintro k h q ⟨a,m,p⟩ _ _ _;refine aR (fun b=>?_) (fun c=>?_)
 ·have b:k<bs.length:=by simpa[af] using b
  refine ef b fun x l n j=>?_;rw[j] at a;have o:=x.toNat_lt;refine Fit.Ww (by omega) (by omega) ?_;refine Nf l ?_;refine Fit.Ww (by omega) (by omega) ?_;refine Fit.Ww (by omega) (by omega) ?_;refine Fit.Ww (by omega) (by omega) ?_;refine mW.mk (by omega) ?_;have e:=wZ (x:=x.toNat) m (by omega);refine Fit.Ww (by omega) (by omega) ?_;exact⟨(k+1,qU h x.toNat),⟨b,a,e.1,e.2⟩,⟨cG,aq rfl,trivial⟩,trivial,cH b⟩
 ·have c:¬k<bs.length:=by simpa[af] using c
  rw[fK c] at a;exact bD rfl (p7 (C.int .i64) a)
theorem kO (a b:List UInt8):o9 ⟨a.toArray⟩ ⟨b.toArray⟩=decide (a=b):=by simp[o9]
theorem t22 (a b:List UInt8):CallsT PZ 22 [.sl (af a),.sl (af b)] [] (iZ [] (.bool (decide (a=b)))):=by
 refine au Tryd.func22 Kh rfl fun c _=>?_;refine jT.mk ⟨a,rfl,?_⟩;refine jT.mk ⟨b,rfl,?_⟩;exact bD rfl (p7 C.bool (kO a b))
def Ov (n:Int):UInt8:=UInt8.ofNat n.toNat
def rL (bs:List UInt8):List UInt8:=[Ov (jd bs / 16777216),Ov (jd bs / 65536),Ov (jd bs / 256),Ov (jd bs)]
def gG (b:List UInt8):List UInt8:=b++rL b
theorem kP {n m:Int}(h:0<=m) (e:n=m):IntKind.wrap .u8 n=((Ov m).toNat:Int):=by
 subst e;simp only[IntKind.wrap,IntKind.bits,IntKind.signed,Ov,UInt8.toNat_ofNat'];simp;omega
theorem RY:∀bs:List UInt8,bs.length<=70368744177664->CallsT PZ 56 [.sl (af bs)] [] (iZ [.row 5 1 (af bs)] (.rw 1000))
 | [],hb=>by
  refine au Tryd.func56 DY rfl fun c _=>?_;intro b _;refine aH (fun _=>?_) (fun _=>?_)
  ·exact Qm 2 5 1 rfl rfl
  ·refine qG 0 rfl (by simp) ?_;exact xN [5] rfl rfl rfl rfl
 | x::l,hb=>by
  refine au Tryd.func56 DY rfl fun c _=>?_;intro b a;refine aH (fun h=>?_) (fun _=>?_)
  ·rw[a (by simp[af])] at h;cases h
  ·refine qG 0 rfl (by omega) ?_;exact xN [5] rfl rfl rfl rfl
theorem PG (b:List UInt8):af b++af (rL b)=af (gG b):=by simp[af,gG]
theorem SB (bs:List UInt8) (hb:bs.length<=70368744177664):CallsT PZ 34 [.sl (af bs)] [] (iZ [.row 5 1 (af (gG bs))] (.rw 1000)):=by
 obtain⟨d,c⟩:=jE bs;refine au Tryd.func34 Ks rfl fun a _=>?_;refine bO (t9 bs) rfl fun _=>?_;refine callO [] [7] (RY bs hb) rfl rfl rfl rfl rfl fun _ _=>?_;refine⟨by decide,?_⟩;refine Fit.to (kP (m:=jd bs / 16777216) (by omega) (Int.fdiv_eq_ediv_of_nonneg (b:=16777216) _ (by omega))) ?_;refine⟨by decide,?_⟩;refine Fit.to (kP (m:=jd bs / 65536) (by omega) (Int.fdiv_eq_ediv_of_nonneg (b:=65536) _ (by omega))) ?_;refine⟨by decide,?_⟩;refine Fit.to (kP (m:=jd bs / 256) (by omega) (Int.fdiv_eq_ediv_of_nonneg (b:=256) _ (by omega))) ?_;refine Fit.to (kP (m:=jd bs) (by omega) rfl) ?_;refine qG (bs:=rL bs) bs.length aK (by simp[rL];omega) ?_;exact xN [7] rfl rfl (p7 (fun q=>[TO.row 5 1 q]) (PG bs)) rfl
theorem VY (bs:List UInt8):CallsT PZ 15 [.sl (af bs)] [] (iZ [] (.sl (af (rL bs)))):=by
 obtain⟨d,c⟩:=jE bs;refine au Tryd.func15 Ka rfl fun a _=>?_;refine bO (VX bs) rfl fun _=>?_;refine⟨by decide,?_⟩;refine Fit.to (kP (m:=jd bs / 16777216) (by omega) (Int.fdiv_eq_ediv_of_nonneg (b:=16777216) _ (by omega))) ?_;refine⟨by decide,?_⟩;refine Fit.to (kP (m:=jd bs / 65536) (by omega) (Int.fdiv_eq_ediv_of_nonneg (b:=65536) _ (by omega))) ?_;refine⟨by decide,?_⟩;refine Fit.to (kP (m:=jd bs / 256) (by omega) (Int.fdiv_eq_ediv_of_nonneg (b:=256) _ (by omega))) ?_;refine Fit.to (kP (m:=jd bs) (by omega) rfl) ?_;exact bD rfl rfl
def dL:List UInt8:=[76,83,1]
theorem t31:CallsT PZ 31 [] [] (iZ [] (.sl (af dL))):=by
 refine au Tryd.func31 Kq rfl fun a _=>?_;exact bD rfl rfl
theorem Ik (a b:List UInt8):decide ((a.take b.length)=b)=decide (b <+: a):=by
 congr 1;exact propext ⟨fun h=>h▸List.take_prefix _ _,fun⟨t,h⟩=>by rw[<-h];simp⟩
theorem SC (a b:List UInt8):CallsT PZ 24 [.sl (af a),.sl (af b)] [] (iZ [] (.bool (decide (b <+: a)))):=by
 refine au Tryd.func24 Kj rfl fun d _=>?_;have c:(af a).length=a.length:=aK;have hb:(af b).length=b.length:=aK;refine aR (fun h=>?_) (fun h=>?_)
 ·rw[c,hb] at h;refine xL.mk (XF 0) (by omega) (by rw[c,hb];exact h) eC ?_;refine bO (t22 (a.take b.length) b) (p7 (fun q=>[C.sl q,C.sl (af b)]) (?_:((af a).drop 0).take (((af b).length:Int).toNat-0)=af (a.take b.length))) fun _=>?_
  ·rw[eO,hb];simp
  ·exact bD rfl (p7 C.bool (Ik a b))
 ·rw[c,hb] at h;refine bD rfl (p7 C.bool (?_:false=_))
  symm
  exact decide_eq_false fun q=>h (by have:=q.length_le;omega)
theorem SD (n:Nat) (b:n<=4611686018427387904):CallsT PZ 23 [IC n] [] (iZ [] (IC ((n+31) / 32:Nat))):=by
 refine au Tryd.func23 Ki rfl fun a _=>?_;refine Fit.Ww (by omega) (by omega) ?_;refine mW.mk (by omega) ?_;refine Fit.to (m:=(((n+31) / 32:Nat):Int)) (by show IntKind.wrap .i64 (((n+31) / 32:Nat):Int)=_;exact bL (by omega) (by omega)) ?_;exact bD rfl rfl
def cg (b:List UInt8) (i:Nat):List UInt8:=(b.drop (32*i)).take 32
theorem LG (b:List UInt8) (i:Nat):((af b).drop (min (32*i) b.length)).take (min (32*i+32) b.length-min (32*i) b.length)=af (cg b i):=by
 rw[eO];congr 1;unfold cg
 by_cases h:32*i<=b.length
 ·rw[Nat.min_eq_left h]
  by_cases a:32*i+32<=b.length
  ·rw[Nat.min_eq_left a];congr 1;omega
  ·rw[Nat.min_eq_right (by omega),XS (by simp),XS (by simp;omega)]
 ·have e:min (32*i) b.length=b.length:=Nat.min_eq_right (by omega);rw[e,List.drop_eq_nil_of_le (Xy b.length),List.drop_eq_nil_of_le (by omega:b.length<=32*i)];simp
theorem RZ (b:List UInt8) (i:Nat) (hi:i<=1125899906842624):CallsT PZ 25 [.sl (af b),IC i] [] (iZ [] (.sl (af (cg b i)))):=by
 refine au Tryd.func25 DJ rfl fun d _=>?_;have hb:(af b).length=b.length:=aK;have k:=uW d.1;have a:(if((af b).length:Int)<32*(i:Int) then((af b).length:Int) else 32*(i:Int))=((min (32*i) b.length:Nat):Int):=by
  rw[hb];split<;>omega
 have c:(if((af b).length:Int)<32*(i:Int)+32 then((af b).length:Int) else 32*(i:Int)+32)=((min (32*i+32) b.length:Nat):Int):=by
  rw[hb];split<;>omega
 have j:0<=(if((af b).length:Int)<32*(i:Int) then((af b).length:Int) else 32*(i:Int)):=by rw[a];omega
 have f:(if((af b).length:Int)<32*(i:Int) then((af b).length:Int) else 32*(i:Int))<=(if((af b).length:Int)<32*(i:Int)+32 then((af b).length:Int) else 32*(i:Int)+32):=by rw[a,c];omega
 have e:(if((af b).length:Int)<32*(i:Int)+32 then((af b).length:Int) else 32*(i:Int)+32)<=((af b).length:Int):=by rw[c,hb];omega
 have h:((af b).drop (if((af b).length:Int)<32*(i:Int) then((af b).length:Int) else 32*(i:Int)).toNat).take ((if((af b).length:Int)<32*(i:Int)+32 then((af b).length:Int) else 32*(i:Int)+32).toNat-(if((af b).length:Int)<32*(i:Int) then((af b).length:Int) else 32*(i:Int)).toNat)=af (cg b i):=by
  rw[a,c];exact LG b i
 have wf:∀n:Nat,n<=b.length->(Lit.int .i64 (n:Int)).wf=true:=by
  intro n l;simp[Lit.wf,IntKind.min,IntKind.max,IntKind.bits,IntKind.signed];omega
 refine Fit.Ww (by omega) (by omega) ?_;refine⟨(p7 (fun q=>(Lit.int .i64 q).wf) a).trans (wf _ (Nat.min_le_right _ _)),?_⟩;refine Fit.Ww (by omega) (by omega) ?_;refine Fit.Ww (by omega) (by omega) ?_;refine⟨(p7 (fun q=>(Lit.int .i64 q).wf) c).trans (wf _ (Nat.min_le_right _ _)),?_⟩;refine xL.mk j f e eC ?_;exact bD rfl (p7 C.sl h)
end Go.Fr.Tryd
namespace Go.Fr.Tryd
open Go Go.RowKit Go.Proofs Go.Fr Go.Fr.T Go.Fr.Api
theorem Mr:∀{bs:List Own}{n:Nat},Ci bs [n]->∃g t cs,bs=[.box g (t+1) cs]/\cs.length=n
 | [],_,h=>h.elim
 | [o],n,h=>by
  cases o with
  | row=>exact h.1.elim
  | box g t cs =>
   cases t with
   | zero=>exact h.1.elim
   | succ t=>exact⟨g,t,cs,rfl,h.1⟩
 | _::_::_,_,h=>h.2.elim
theorem oO.mono {P:Program}{H:Nat}{PS PS':Value->Prop}{ns:List Nat}{out:Value->List (List Value)}(h:oO P H PS ns out) (b:∀v,PS' v->PS v):oO P H PS' ns out :=
 ⟨h.inv,h.idle,fun F bs v a w c=>h.caught F bs v a w (b v c)⟩
def Il (v:Value):List (List Value):=[[.bool false]]
theorem NY (bs:List Own) (w:World) (hb:Ci bs [1]):CallsD PZ 40 (bs.map mL).toArray .returning w fun e b w'=>e=.returned (.tuple #[])/\b=.returning/\w'=w:=by
 have d:Tryd.f40.ntmps=15:=by kernel_rfl
 have f:Tryd.f40.results=#[]:=by kernel_rfl
 obtain⟨g,t,cs,rfl,_⟩:=Mr hb;refine callsD_of_wpS Tryd.func40 rfl fun a cs c=>?_;apply wpS_seq;apply wpS_region;simp[wpOpsS,go_sem,recoverD,c,d,Exit.thenS,mL];apply wpS_seq;apply wpS_region;simp[wpOpsS,go_sem,Exit.thenS];refine wpS_cond (t:=false) (by simp[Act.eval,Array.replicate]) ?_;simp only[Xm,XM];refine wpS_of_wp (wp_skip ?_);cases a
 simp_all [bodyPostS,results]
theorem vg:oO PZ 40 (fun v=>v=eV) [1] Il:=by
 refine zY Tryd.func40 Ky rfl NY ?_;rintro F bs v rfl hb;obtain⟨g,t,cs,rfl,b⟩:=Mr hb
 match cs,b with
 | [a],_ =>
  (try intro d)<;>(try intro c)<;>exact rfl
def uI (b a:List (List C)) (c:Int) (x:Wd):List C:=.sl b::.sl a::IC c::Om x
section
variable {L:TL}{ρ:aU}
theorem Am (ks:List Nat) {f:Nat}{args a:List C}{K:TL->aU->C->Prop}{R:List TO->C->Prop}{Lin Lin':List TO}(h:CallsT PZ f a Lin' R) (m:L.sub ks=some Lin)
  (b:(T.bE ks&&T.lu L ks ks&&aQ Lin ks ks)=true) (l:(args.map fun c=>c.WA.ren (cn ks 1000))=a) (e:Lin.map (TO.Wv (C.ren (cn ks 1000)))=Lin')
  (k:∀v Mo,R Mo v->Wf v->(∀o∈Mo,o.Wf)->ks.length=Mo.length/\K (((L.Wu ks).kills (rowsOf L ks)).puts ks (Mo.map (TO.Wv (C.ren (aW ks))))) (eK (rowsOf L ks) ρ) (v.ren (aW ks)).slt):pR PZ f args L ρ K:=by
 subst l e;simp only[Xf] at b;obtain⟨⟨d,j⟩,c3⟩:=b;exact .mk ⟨[],ks,ks,L,Lin,_,.inl rfl,m,d,d,j,c3,h,k⟩
end
def EB (bs:List UInt8):List TO:=[.box 60 [.own 1001 0],.box 66 [.rw 1002,IC 0,.int .i8 0],.row 5 1 (af bs)]
theorem t32 (d f:List (List C)) (b:Int) (x:Wd) (l:FO x) (bs:List UInt8) (hb:bs.length+(uy kW x).1.length<=70368744177664) :
  CallsTX PZ 32 [.own 1000 0,.pt (uI d f b x) 0] (EB bs) (fun Mo c=>(uy kW x).2=true/\Mo=EB (bs++(uy kW x).1)/\c=.tup []) (fun v=>v=eV/\(uy kW x).2=false):=by
 have a:=PD RI d f b x l bs hb;generalize uy kW x=e at a ⊢;obtain⟨p,o⟩:=e;unfold uI;generalize m:(.sl d::.sl f::IC b::Om x:List C)=es at a ⊢;refine ai Tryd.func32 Kr rfl fun n k=>?_;refine bP [1001,1002] a rfl rfl rfl rfl (fun v h=>h) ?_;rintro v Mo ⟨j,rfl,rfl⟩ _ _;refine⟨rfl,?_⟩;exact cS [1000,1001,1002] rfl rfl rfl rfl ⟨j,rfl,rfl⟩
end Go.Fr.Tryd
