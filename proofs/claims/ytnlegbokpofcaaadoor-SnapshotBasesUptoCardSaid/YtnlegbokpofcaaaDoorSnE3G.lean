/- Part of the proofs of the statements of this seat. -/
import Derived.Test.YtnlegbokpofcaaaDoorSnT5G
import Derived.Test.YtnlegbokpofcaaaDoorSnT8G
import Derived.Test.YtnlegbokpofcaaaDoorSnW1G
import Derived.Test.YtnlegbokpofcaaaDoorFW3
set_option maxRecDepth 10000
set_option linter.unusedVariables false
set_option linter.unusedSimpArgs false
namespace Go.Fr.Tryd
open Go Go.RowKit Go.Proofs Go.Fr Go.Fr.T Go.Fr.Api
structure rF (k:Kd):Prop where
 num:∃f,m9 PZ k.t "leasehold/snapshot.num"=some f/\(∀n,eL k f [.own 1000 0,.pt [IC n] 0] (k.num n))/\∀n,QN k f n
 siz:∃f,m9 PZ k.t "leasehold/snapshot.size"=some f/\∀n:Nat,PW k f [.own 1000 0,IC n] (k.siz n) (IC n)
 mkn:LG Et k.t "leasehold/snapshot.num"=true
 mks:LG Et k.t "leasehold/snapshot.size"=true
theorem yX:rF kW:=⟨⟨116,by kernel_rfl,QL,O5⟩,⟨117,by kernel_rfl,QM⟩,rfl,rfl⟩
theorem yY:rF kL:=⟨⟨118,by kernel_rfl,O4,O6⟩,⟨119,by kernel_rfl,t119⟩,rfl,rfl⟩
theorem C3 {l:List C}(h:dm l=true) (n:Nat):dm (l.take n)=true:=ic.2 fun c a=>ic.1 h c (List.mem_of_mem_take a)
theorem C4 {l:List C}(h:dm l=true) (n:Nat):dm (l.drop n)=true:=ic.2 fun c a=>ic.1 h c (List.mem_of_mem_drop a)
theorem Ei {F:aA}{L:Loc}{es es':List C}{off:Nat}{v:Value}(e:(es.drop off).take es'.length=es') (h:Rel F L (.pt es off) v):Rel F L (.pt es' 0) v:=by
 simp only[Rel] at h ⊢;obtain⟨b,o,vs,rfl,⟨c,d,t,j,hb,n,m⟩,f,l⟩:=h;refine⟨b,o,(vs.drop off).take es'.length,rfl,⟨c+off,d,t,j,hb,by omega,fun i v a=>?_⟩,?_,?_⟩
 ·rw[XB] at a;split at a
  case isFalse=>cases a
  rw[Xy] at a;have:=m _ _ a
  rwa [<-Nat.add_assoc] at this
 ·rw[<-e];exact C3 (C4 f off) _
 ·have:=(l.drop off).take es'.length
  rwa [e] at this
theorem Ej {P:Program}{f:Nat}{args a:List C}{Lin:List TO}{R:List TO->C->Prop}{Pp:Value->Prop}(h:CallsTX P f args Lin R Pp) (b:∀F L vs,aB F L a vs->aB F L args vs):CallsTX P f a Lin R Pp :=
 ⟨fun F Li vs d c e=>h.out F Li vs d c (b _ _ _ e)⟩
theorem BM {F:aA}{L:Loc}{a b:List C}{c l:C}(n:∀v,Rel F L c v->Rel F L l v):∀{vs:List Value},aB F L (a++c::b) vs->aB F L (a++l::b) vs:=by
 induction a with
 | nil =>
  intro vs h;simp only[XD,aB] at h ⊢;obtain⟨v,e,rfl,j,f⟩:=h;exact⟨v,e,rfl,n v j,f⟩
 | cons d a m =>
  intro vs h;simp only[Xk,aB] at h ⊢;obtain⟨v,e,rfl,j,f⟩:=h;exact⟨v,e,rfl,j,m f⟩
theorem eL.at {k:Kd}{f:Nat}{b:C}{ca:List C}{es es':List C}{off:Nat}{e:Enc}(h:eL k f (b::.pt es' 0::ca) e) (c:(es.drop off).take es'.length=es'):eL k f (b::.pt es off::ca) e :=
 fun bs hb=>Ej (h bs hb) fun F L vs d=>BM (a:=[b]) (fun v j=>Ei c j) d
def Ek (es:List C):List Nat->List C->Prop
 | o::os,c::cs=>es[o]?=some c/\Ek es os cs
 | [],[]=>True
 | _,_=>False
theorem BN {F:aA}{a:Option Addr}{sz:Nat}{es:List C}:∀{os:List Nat}{cs:List C}{i:Nat},Ek es os cs->fE F a sz i (os.map fun o=>[.pt es o])->fE F a sz i (cs.map fun c=>[.pt [c] 0])
 | [],[],i,_,h=>by simp only[X0,fE]
 | o::os,c::cs,i,b,h=>by
  simp only[Xa,fE] at h ⊢;obtain⟨⟨vs,l,m,p,e⟩,n⟩:=h;refine⟨⟨vs,l,m,rfl,?_⟩,BN b.2 n⟩;simp only[aB] at e ⊢;obtain⟨v,d,rfl,j,f⟩:=e;refine⟨v,d,rfl,Ei (es':=[c]) ?_ j,f⟩;exact take_one b.1
 | [],_::_,i,b,h=>b.elim
 | _::_,[],i,b,h=>b.elim
theorem yZ {es:List C}:∀{os:List Nat}{cs:List C},Ek es os cs->os.length=cs.length
 | [],[],_=>rfl
 | o::os,c::cs,h=>by simp[yZ h.2]
theorem eL.pts {k:Kd}{f:Nat}{d:C}{es:List C}{os:List Nat}{cs:List C}{e:Enc}(h:eL k f [d,.sl (cs.map fun c=>[.pt [c] 0])] e) (m:Ek es os cs):eL k f [d,.sl (os.map fun o=>[.pt es o])] e :=
 fun bs hb=>Ej (h bs hb) fun F L vs p=>BM (a:=[d]) (b:=[]) (fun v n=>by
  simp only[Rel] at n ⊢;obtain⟨a,c,rfl,t,s,l,sz,u⟩:=n;have j:=yZ m;simp only[Xj] at t s l ⊢;refine⟨a,c,by rw[j],by omega,by omega,fun e=>?_,sz,BN m u⟩;obtain⟨q,r⟩:=l e;have:os=[]:=by simpa using q
  subst this;have:cs=[]:=Xu (by simpa using j.symm);subst this;exact⟨rfl,r⟩) p
theorem H7 {a b:Enc}(p:List UInt8) (h:a.2=true):bn (p,true) (bn a b)=bn (p++a.1,true) b:=by
 obtain⟨q,y⟩:=a;simp only at h;subst h;simp[bn]
theorem H8 {a b:Enc}(p:List UInt8) (h:a.2=false):(bn (p,true) (bn a b)).2=false:=by simp[bn,h]
theorem iL {b:Type}{f:b->Enc}{l:List b}{k:Nat}{x:b}{bs s p:List UInt8}(d:l.drop k=x::l.drop (k+1)) (c:s=bs++p) (a:aX f l=bn (p,true) (aX f (l.drop k))) (hb:bs.length+(aX f l).1.length<=70368744177664) :
  s.length+(f x).1.length<=70368744177664/\((f x).2=false->(aX f l).2=false)/\((f x).2=true->aX f l=bn (p++(f x).1,true) (aX f (l.drop (k+1)))):=by
 rw[d] at a;have e:aX f (x::l.drop (k+1))=bn (f x) (aX f (l.drop (k+1))):=rfl;rw[e] at a;refine⟨?_,fun h=>by rw[a];exact H8 p h,fun h=>by rw[a,H7 p h]⟩;rw[a] at hb;rw[c];simp only[bn,W8] at hb ⊢;omega
theorem kS {b:Type}{f:b->Enc}{l:List b}{k:Nat}{bs s p:List UInt8}(d:l.drop k=[]) (c:s=bs++p) (a:aX f l=bn (p,true) (aX f (l.drop k))):(aX f l).2=true/\s=bs++(aX f l).1:=by
 rw[d] at a;rw[a,c];simp[bn,aX,Oc]
section
variable {k:Kd}(hk:rF k)
include hk
theorem Af (ns:List Int):eL k 55 [.ifo none k.t 1000 0,.sl ((ns.map IC).map fun c=>[.pt [c] 0])] (aX k.num ns):=by
 intro bs hb;obtain⟨fn,m,j,_⟩:=hk.num;rw[XV];refine ai Tryd.func55 DT rfl fun w ho=>?_;have z:=zP w.2.1;have f:((ns.map ((fun c=>[C.pt [c] 0])∘IC)).length:Int)=ns.length:=by simp
 refine bW ns.length 8 [] bs (fun _=>[]) (fun s=>CW k.tb s) (fun i s=>∃p,s=bs++p/\aX k.num ns=bn (p,true) (aX k.num (ns.drop i))) ⟨[],by simp,by simp[bn]⟩ (aq rfl) trivial
  ⟨.inl ⟨_,rfl,.inl ⟨rfl,rfl⟩⟩,.inl ⟨_,rfl,.inl ⟨rfl,rfl⟩⟩,trivial⟩ (fun _=>rfl) (fun _=>rfl) ?_
 rintro i s hi ⟨p,n,b⟩ _ _ _;refine aV (fun a=>?_) (fun d=>?_)
 ·have a:i<ns.length:=by
   have h:(i:Int)<((ns.map ((fun c=>[C.pt [c] 0])∘IC)).length:Int):=a;rw[f] at h;omega
  refine d9 a fun x o q u=>?_;obtain⟨r,y,g3⟩:=iL u n b hb;refine js o rfl rfl ?_;refine⟨fn,m,?_⟩;refine bO [1000,1001] (j x s r) rfl rfl rfl rfl (fun v ⟨e,h⟩=>⟨e,y h⟩) ?_;rintro v Mo ⟨l,rfl,rfl⟩ _ _;refine⟨rfl,?_⟩;refine Fit.Wk (by omega) (by omega) ?_;exact⟨(i+1,s++(k.num x).1),⟨by omega,p++(k.num x).1,by rw[n,Xb],g3 l⟩,⟨cF,trivial⟩,⟨.inl ⟨_,rfl,.inl ⟨rfl,rfl⟩⟩,.inl ⟨_,rfl,.inl ⟨rfl,rfl⟩⟩,trivial⟩,cG a⟩
 ·have d:¬i<ns.length:=by
   have h:¬(i:Int)<((ns.map ((fun c=>[C.pt [c] 0])∘IC)).length:Int):=d;rw[f] at h;omega
  obtain⟨l,e2⟩:=kS (fG d) n b;exact cR [1000,1001] rfl rfl rfl rfl ⟨l,p7 (WB k.tb) e2,rfl⟩
theorem H9 (ns:List Bool):eL k 64 [.ifo none k.t 1000 0,.sl ((ns.map C.bool).map fun c=>[.pt [c] 0])] (aX (qb k) ns):=by
 intro bs hb;obtain⟨fn,o,_,n⟩:=hk.num;rw[XV];refine ai Tryd.func64 DV rfl fun z ho=>?_;have ab:=zP z.2.1;have j:((ns.map ((fun c=>[C.pt [c] 0])∘C.bool)).length:Int)=ns.length:=by simp
 refine bW ns.length 9 [] bs (fun _=>[]) (fun s=>CW k.tb s) (fun i s=>∃p,s=bs++p/\aX (qb k) ns=bn (p,true) (aX (qb k) (ns.drop i))) ⟨[],by simp,by simp[bn]⟩ (aq rfl) trivial
  ⟨.inl ⟨_,rfl,.inl ⟨rfl,rfl⟩⟩,.inl ⟨_,rfl,.inl ⟨rfl,rfl⟩⟩,trivial⟩ (fun _=>rfl) (fun _=>rfl) ?_
 rintro i s hi ⟨p,m,b⟩ _ _ _;refine aV (fun a=>?_) (fun d=>?_)
 ·have a:i<ns.length:=by
   have h:(i:Int)<((ns.map ((fun c=>[C.pt [c] 0])∘C.bool)).length:Int):=a;rw[j] at h;omega
  refine d9 a fun x r u y=>?_;obtain⟨w,g2,q⟩:=iL y m b hb;refine js r rfl rfl ?_;refine aF (fun f=>?_) (fun f=>?_)
  all_goals
   subst f;refine⟨fn,o,?_⟩;refine bO [1000,1001,6] (n _ s w) rfl rfl rfl rfl (fun v ⟨e,h⟩=>⟨e,g2 h⟩) ?_;rintro v Mo ⟨l,rfl,rfl⟩ _ _;refine⟨rfl,?_⟩
  ·refine tO (sN true) rfl (fun h=>by cases h) fun _=>?_;refine⟨rfl,?_⟩;refine Fit.Wk (by omega) (by omega) ?_;exact⟨(i+1,s++(qb k true).1),⟨by omega,p++(qb k true).1,by rw[m,Xb],q l⟩,⟨cF,trivial⟩,⟨.inl ⟨_,rfl,.inl ⟨rfl,rfl⟩⟩,.inl ⟨_,rfl,.inl ⟨rfl,rfl⟩⟩,trivial⟩,cG a⟩
  ·refine tO (sN true) rfl (fun h=>by cases h) fun _=>?_;refine⟨rfl,?_⟩;refine Fit.Wk (by omega) (by omega) ?_;exact⟨(i+1,s++(qb k false).1),⟨by omega,p++(qb k false).1,by rw[m,Xb],q l⟩,⟨cF,trivial⟩,⟨.inl ⟨_,rfl,.inl ⟨rfl,rfl⟩⟩,.inl ⟨_,rfl,.inl ⟨rfl,rfl⟩⟩,trivial⟩,cG a⟩
 ·have d:¬i<ns.length:=by
   have h:¬(i:Int)<((ns.map ((fun c=>[C.pt [c] 0])∘C.bool)).length:Int):=d;rw[j] at h;omega
  obtain⟨l,e2⟩:=kS (fG d) m b;exact cR [1000,1001] rfl rfl rfl rfl ⟨l,p7 (WB k.tb) e2,rfl⟩
end
theorem Rf {k:Kd}(hk:rF k) {z:Type}{f:Nat}{enc:z->Enc}{cs:z->List C}(l:List z) (hl:∀x,T.cT (cs x) 1=true) (hf:∀x∈l,eL k f (.ifo none k.t 1000 0::.pt (cs x) 0::[]) (enc x)) :
  eL k 70 [.ifo none k.t 1000 0,.pt [.sl (l.map cs)] 0,.fn f [] []] (bR k enc l):=by
 intro bs hb;obtain⟨fs,q,m⟩:=hk.siz;have hE:bR k enc l=bn (k.siz (l.map cs).length) (aX enc l):=by unfold bR;rw[Xj]
 rw[hE] at hb ⊢;have w:bs.length+(k.siz (l.map cs).length).1.length<=70368744177664:=by
  simp only[bn,W8] at hb;omega
 refine ai Tryd.func70 D4 rfl fun hw ho=>?_;have r:(l.map cs).length<=9223372036854775807:=by have h:=hw.2.1.1.1;simp only[maxLen] at h;exact h
 refine⟨hk.mks,?_⟩;refine⟨fs,q,?_⟩;refine bY [1000,1001] (m (l.map cs).length bs w) rfl rfl rfl rfl (fun v ⟨e,h⟩=>⟨e,by show(_&&_)=false;rw[h];rfl⟩) ?_;rintro v Mo ⟨e0,rfl,rfl⟩ _ _;refine⟨rfl,?_⟩;refine aF (fun h=>?_) (fun _=>?_)
 ·simp at h
 have d:(bs++(k.siz (l.map cs).length).1).length+(aX enc l).1.length<=70368744177664:=by
  simp only[bn,W8] at hb ⊢;omega
 generalize o:bs++(k.siz (l.map cs).length).1=b1 at d;have j:((l.map cs).length:Int)=l.length:=by simp
 refine bW l.length 31 [] b1 (fun _=>[]) (fun s=>CW k.tb s) (fun i s=>∃p,s=b1++p/\aX enc l=bn (p,true) (aX enc (l.drop i))) ⟨[],by simp,by simp[bn]⟩ (aq rfl) trivial
  ⟨.inl ⟨_,rfl,.inl ⟨rfl,rfl⟩⟩,.inl ⟨_,rfl,.inl ⟨rfl,rfl⟩⟩,trivial⟩ (fun _=>rfl) (fun _=>rfl) ?_
 rintro i s hi ⟨p,y,b⟩ _ _ _;refine aV (fun a=>?_) (fun c=>?_)
 ·have a:i<l.length:=by
   have h:(i:Int)<((l.map cs).length:Int):=a;rw[j] at h;omega
  refine d9 a fun x hx n hd=>?_;obtain⟨g1,g2,g3⟩:=iL hd y b d;refine js hx rfl (hl x) ?_;refine bO [1000,1001] (hf x n s g1) rfl rfl rfl rfl (fun v ⟨e,h⟩=>⟨e,by show(_&&_)=false;rw[g2 h,XG]⟩) ?_;rintro v Mo ⟨u,rfl,rfl⟩ _ _;refine⟨rfl,?_⟩;refine Fit.Wk (by omega) (by rw[Xj] at r;omega) ?_;exact⟨(i+1,s++(enc x).1),⟨by omega,p++(enc x).1,by rw[y,Xb],g3 u⟩,⟨cF,trivial⟩,⟨.inl ⟨_,rfl,.inl ⟨rfl,rfl⟩⟩,.inl ⟨_,rfl,.inl ⟨rfl,rfl⟩⟩,trivial⟩,cG a⟩
 ·have c:¬i<l.length:=by
   have h:¬(i:Int)<((l.map cs).length:Int):=c;rw[j] at h;omega
  obtain⟨u,e2⟩:=kS (fG c) y b;exact cR [1000,1001] rfl rfl rfl rfl ⟨by show(_&&_)=true;rw[e0,u];rfl,p7 (WB k.tb) (by rw[e2,<-o];show _=bs++(_++_);rw[Xb]),rfl⟩
theorem Rh {k:Kd}(hk:rF k) {z:Type}{f:Nat}{enc:z->Enc}{cs:z->List C}(l:List z) (hl:∀x,T.cT (cs x) 1=true) (hf:∀x∈l,eL k f (.ifo none k.t 1000 0::.pt (cs x) 0::[]) (enc x)) :
  eL k 47 [.ifo none k.t 1000 0,.pt [.sl (l.map cs)] 0,.fn f [] []] (bR k enc l):=by
 intro bs hb;obtain⟨fs,q,m⟩:=hk.siz;have hE:bR k enc l=bn (k.siz (l.map cs).length) (aX enc l):=by unfold bR;rw[Xj]
 rw[hE] at hb ⊢;have w:bs.length+(k.siz (l.map cs).length).1.length<=70368744177664:=by
  simp only[bn,W8] at hb;omega
 refine ai Tryd.func47 DK rfl fun hw ho=>?_;have r:(l.map cs).length<=9223372036854775807:=by have h:=hw.2.1.1.1;simp only[maxLen] at h;exact h
 refine⟨hk.mks,?_⟩;refine⟨fs,q,?_⟩;refine bY [1000,1001] (m (l.map cs).length bs w) rfl rfl rfl rfl (fun v ⟨e,h⟩=>⟨e,by show(_&&_)=false;rw[h];rfl⟩) ?_;rintro v Mo ⟨e0,rfl,rfl⟩ _ _;refine⟨rfl,?_⟩;refine aF (fun h=>?_) (fun _=>?_)
 ·simp at h
 have d:(bs++(k.siz (l.map cs).length).1).length+(aX enc l).1.length<=70368744177664:=by
  simp only[bn,W8] at hb ⊢;omega
 generalize o:bs++(k.siz (l.map cs).length).1=b1 at d;have j:((l.map cs).length:Int)=l.length:=by simp
 refine bW l.length 31 [] b1 (fun _=>[]) (fun s=>CW k.tb s) (fun i s=>∃p,s=b1++p/\aX enc l=bn (p,true) (aX enc (l.drop i))) ⟨[],by simp,by simp[bn]⟩ (aq rfl) trivial
  ⟨.inl ⟨_,rfl,.inl ⟨rfl,rfl⟩⟩,.inl ⟨_,rfl,.inl ⟨rfl,rfl⟩⟩,trivial⟩ (fun _=>rfl) (fun _=>rfl) ?_
 rintro i s hi ⟨p,y,b⟩ _ _ _;refine aV (fun a=>?_) (fun c=>?_)
 ·have a:i<l.length:=by
   have h:(i:Int)<((l.map cs).length:Int):=a;rw[j] at h;omega
  refine d9 a fun x hx n hd=>?_;obtain⟨g1,g2,g3⟩:=iL hd y b d;refine js hx rfl (hl x) ?_;refine bO [1000,1001] (hf x n s g1) rfl rfl rfl rfl (fun v ⟨e,h⟩=>⟨e,by show(_&&_)=false;rw[g2 h,XG]⟩) ?_;rintro v Mo ⟨u,rfl,rfl⟩ _ _;refine⟨rfl,?_⟩;refine Fit.Wk (by omega) (by rw[Xj] at r;omega) ?_;exact⟨(i+1,s++(enc x).1),⟨by omega,p++(enc x).1,by rw[y,Xb],g3 u⟩,⟨cF,trivial⟩,⟨.inl ⟨_,rfl,.inl ⟨rfl,rfl⟩⟩,.inl ⟨_,rfl,.inl ⟨rfl,rfl⟩⟩,trivial⟩,cG a⟩
 ·have c:¬i<l.length:=by
   have h:¬(i:Int)<((l.map cs).length:Int):=c;rw[j] at h;omega
  obtain⟨u,e2⟩:=kS (fG c) y b;exact cR [1000,1001] rfl rfl rfl rfl ⟨by show(_&&_)=true;rw[e0,u];rfl,p7 (WB k.tb) (by rw[e2,<-o];show _=bs++(_++_);rw[Xb]),rfl⟩
theorem Ri {k:Kd}(hk:rF k) {z:Type}{f:Nat}{enc:z->Enc}{cs:z->List C}(l:List z) (hl:∀x,T.cT (cs x) 10=true) (hf:∀x∈l,eL k f (.ifo none k.t 1000 0::.pt (cs x) 0::[]) (enc x)) :
  eL k 45 [.ifo none k.t 1000 0,.pt [.sl (l.map cs)] 0,.fn f [] []] (bR k enc l):=by
 intro bs hb;obtain⟨fs,q,m⟩:=hk.siz;have hE:bR k enc l=bn (k.siz (l.map cs).length) (aX enc l):=by unfold bR;rw[Xj]
 rw[hE] at hb ⊢;have w:bs.length+(k.siz (l.map cs).length).1.length<=70368744177664:=by
  simp only[bn,W8] at hb;omega
 refine ai Tryd.func45 DI rfl fun hw ho=>?_;have r:(l.map cs).length<=9223372036854775807:=by have h:=hw.2.1.1.1;simp only[maxLen] at h;exact h
 refine⟨hk.mks,?_⟩;refine⟨fs,q,?_⟩;refine bY [1000,1001] (m (l.map cs).length bs w) rfl rfl rfl rfl (fun v ⟨e,h⟩=>⟨e,by show(_&&_)=false;rw[h];rfl⟩) ?_;rintro v Mo ⟨e0,rfl,rfl⟩ _ _;refine⟨rfl,?_⟩;refine aF (fun h=>?_) (fun _=>?_)
 ·simp at h
 have d:(bs++(k.siz (l.map cs).length).1).length+(aX enc l).1.length<=70368744177664:=by
  simp only[bn,W8] at hb ⊢;omega
 generalize o:bs++(k.siz (l.map cs).length).1=b1 at d;have j:((l.map cs).length:Int)=l.length:=by simp
 refine bW l.length 31 [] b1 (fun _=>[]) (fun s=>CW k.tb s) (fun i s=>∃p,s=b1++p/\aX enc l=bn (p,true) (aX enc (l.drop i))) ⟨[],by simp,by simp[bn]⟩ (aq rfl) trivial
  ⟨.inl ⟨_,rfl,.inl ⟨rfl,rfl⟩⟩,.inl ⟨_,rfl,.inl ⟨rfl,rfl⟩⟩,trivial⟩ (fun _=>rfl) (fun _=>rfl) ?_
 rintro i s hi ⟨p,y,b⟩ _ _ _;refine aV (fun a=>?_) (fun c=>?_)
 ·have a:i<l.length:=by
   have h:(i:Int)<((l.map cs).length:Int):=a;rw[j] at h;omega
  refine d9 a fun x hx n hd=>?_;obtain⟨g1,g2,g3⟩:=iL hd y b d;refine js hx rfl (hl x) ?_;refine bO [1000,1001] (hf x n s g1) rfl rfl rfl rfl (fun v ⟨e,h⟩=>⟨e,by show(_&&_)=false;rw[g2 h,XG]⟩) ?_;rintro v Mo ⟨u,rfl,rfl⟩ _ _;refine⟨rfl,?_⟩;refine Fit.Wk (by omega) (by rw[Xj] at r;omega) ?_;exact⟨(i+1,s++(enc x).1),⟨by omega,p++(enc x).1,by rw[y,Xb],g3 u⟩,⟨cF,trivial⟩,⟨.inl ⟨_,rfl,.inl ⟨rfl,rfl⟩⟩,.inl ⟨_,rfl,.inl ⟨rfl,rfl⟩⟩,trivial⟩,cG a⟩
 ·have c:¬i<l.length:=by
   have h:¬(i:Int)<((l.map cs).length:Int):=c;rw[j] at h;omega
  obtain⟨u,e2⟩:=kS (fG c) y b;exact cR [1000,1001] rfl rfl rfl rfl ⟨by show(_&&_)=true;rw[e0,u];rfl,p7 (WB k.tb) (by rw[e2,<-o];show _=bs++(_++_);rw[Xb]),rfl⟩
theorem Rj {k:Kd}(hk:rF k) {z:Type}{f:Nat}{enc:z->Enc}{cs:z->List C}(l:List z) (hl:∀x,T.cT (cs x) 7=true) (hf:∀x∈l,eL k f (.ifo none k.t 1000 0::.pt (cs x) 0::[]) (enc x)) :
  eL k 49 [.ifo none k.t 1000 0,.pt [.sl (l.map cs)] 0,.fn f [] []] (bR k enc l):=by
 intro bs hb;obtain⟨fs,q,m⟩:=hk.siz;have hE:bR k enc l=bn (k.siz (l.map cs).length) (aX enc l):=by unfold bR;rw[Xj]
 rw[hE] at hb ⊢;have w:bs.length+(k.siz (l.map cs).length).1.length<=70368744177664:=by
  simp only[bn,W8] at hb;omega
 refine ai Tryd.func49 DM rfl fun hw ho=>?_;have r:(l.map cs).length<=9223372036854775807:=by have h:=hw.2.1.1.1;simp only[maxLen] at h;exact h
 refine⟨hk.mks,?_⟩;refine⟨fs,q,?_⟩;refine bY [1000,1001] (m (l.map cs).length bs w) rfl rfl rfl rfl (fun v ⟨e,h⟩=>⟨e,by show(_&&_)=false;rw[h];rfl⟩) ?_;rintro v Mo ⟨e0,rfl,rfl⟩ _ _;refine⟨rfl,?_⟩;refine aF (fun h=>?_) (fun _=>?_)
 ·simp at h
 have d:(bs++(k.siz (l.map cs).length).1).length+(aX enc l).1.length<=70368744177664:=by
  simp only[bn,W8] at hb ⊢;omega
 generalize o:bs++(k.siz (l.map cs).length).1=b1 at d;have j:((l.map cs).length:Int)=l.length:=by simp
 refine bW l.length 31 [] b1 (fun _=>[]) (fun s=>CW k.tb s) (fun i s=>∃p,s=b1++p/\aX enc l=bn (p,true) (aX enc (l.drop i))) ⟨[],by simp,by simp[bn]⟩ (aq rfl) trivial
  ⟨.inl ⟨_,rfl,.inl ⟨rfl,rfl⟩⟩,.inl ⟨_,rfl,.inl ⟨rfl,rfl⟩⟩,trivial⟩ (fun _=>rfl) (fun _=>rfl) ?_
 rintro i s hi ⟨p,y,b⟩ _ _ _;refine aV (fun a=>?_) (fun c=>?_)
 ·have a:i<l.length:=by
   have h:(i:Int)<((l.map cs).length:Int):=a;rw[j] at h;omega
  refine d9 a fun x hx n hd=>?_;obtain⟨g1,g2,g3⟩:=iL hd y b d;refine js hx rfl (hl x) ?_;refine bO [1000,1001] (hf x n s g1) rfl rfl rfl rfl (fun v ⟨e,h⟩=>⟨e,by show(_&&_)=false;rw[g2 h,XG]⟩) ?_;rintro v Mo ⟨u,rfl,rfl⟩ _ _;refine⟨rfl,?_⟩;refine Fit.Wk (by omega) (by rw[Xj] at r;omega) ?_;exact⟨(i+1,s++(enc x).1),⟨by omega,p++(enc x).1,by rw[y,Xb],g3 u⟩,⟨cF,trivial⟩,⟨.inl ⟨_,rfl,.inl ⟨rfl,rfl⟩⟩,.inl ⟨_,rfl,.inl ⟨rfl,rfl⟩⟩,trivial⟩,cG a⟩
 ·have c:¬i<l.length:=by
   have h:¬(i:Int)<((l.map cs).length:Int):=c;rw[j] at h;omega
  obtain⟨u,e2⟩:=kS (fG c) y b;exact cR [1000,1001] rfl rfl rfl rfl ⟨by show(_&&_)=true;rw[e0,u];rfl,p7 (WB k.tb) (by rw[e2,<-o];show _=bs++(_++_);rw[Xb]),rfl⟩
theorem Rk {k:Kd}(hk:rF k) {z:Type}{f:Nat}{enc:z->Enc}{cs:z->List C}(l:List z) (hl:∀x,T.cT (cs x) 1=true) (hf:∀x∈l,eL k f (.ifo none k.t 1000 0::.pt (cs x) 0::[]) (enc x)) :
  eL k 51 [.ifo none k.t 1000 0,.pt [.sl (l.map cs)] 0,.fn f [] []] (bR k enc l):=by
 intro bs hb;obtain⟨fs,q,m⟩:=hk.siz;have hE:bR k enc l=bn (k.siz (l.map cs).length) (aX enc l):=by unfold bR;rw[Xj]
 rw[hE] at hb ⊢;have w:bs.length+(k.siz (l.map cs).length).1.length<=70368744177664:=by
  simp only[bn,W8] at hb;omega
 refine ai Tryd.func51 DP rfl fun hw ho=>?_;have r:(l.map cs).length<=9223372036854775807:=by have h:=hw.2.1.1.1;simp only[maxLen] at h;exact h
 refine⟨hk.mks,?_⟩;refine⟨fs,q,?_⟩;refine bY [1000,1001] (m (l.map cs).length bs w) rfl rfl rfl rfl (fun v ⟨e,h⟩=>⟨e,by show(_&&_)=false;rw[h];rfl⟩) ?_;rintro v Mo ⟨e0,rfl,rfl⟩ _ _;refine⟨rfl,?_⟩;refine aF (fun h=>?_) (fun _=>?_)
 ·simp at h
 have d:(bs++(k.siz (l.map cs).length).1).length+(aX enc l).1.length<=70368744177664:=by
  simp only[bn,W8] at hb ⊢;omega
 generalize o:bs++(k.siz (l.map cs).length).1=b1 at d;have j:((l.map cs).length:Int)=l.length:=by simp
 refine bW l.length 31 [] b1 (fun _=>[]) (fun s=>CW k.tb s) (fun i s=>∃p,s=b1++p/\aX enc l=bn (p,true) (aX enc (l.drop i))) ⟨[],by simp,by simp[bn]⟩ (aq rfl) trivial
  ⟨.inl ⟨_,rfl,.inl ⟨rfl,rfl⟩⟩,.inl ⟨_,rfl,.inl ⟨rfl,rfl⟩⟩,trivial⟩ (fun _=>rfl) (fun _=>rfl) ?_
 rintro i s hi ⟨p,y,b⟩ _ _ _;refine aV (fun a=>?_) (fun c=>?_)
 ·have a:i<l.length:=by
   have h:(i:Int)<((l.map cs).length:Int):=a;rw[j] at h;omega
  refine d9 a fun x hx n hd=>?_;obtain⟨g1,g2,g3⟩:=iL hd y b d;refine js hx rfl (hl x) ?_;refine bO [1000,1001] (hf x n s g1) rfl rfl rfl rfl (fun v ⟨e,h⟩=>⟨e,by show(_&&_)=false;rw[g2 h,XG]⟩) ?_;rintro v Mo ⟨u,rfl,rfl⟩ _ _;refine⟨rfl,?_⟩;refine Fit.Wk (by omega) (by rw[Xj] at r;omega) ?_;exact⟨(i+1,s++(enc x).1),⟨by omega,p++(enc x).1,by rw[y,Xb],g3 u⟩,⟨cF,trivial⟩,⟨.inl ⟨_,rfl,.inl ⟨rfl,rfl⟩⟩,.inl ⟨_,rfl,.inl ⟨rfl,rfl⟩⟩,trivial⟩,cG a⟩
 ·have c:¬i<l.length:=by
   have h:¬(i:Int)<((l.map cs).length:Int):=c;rw[j] at h;omega
  obtain⟨u,e2⟩:=kS (fG c) y b;exact cR [1000,1001] rfl rfl rfl rfl ⟨by show(_&&_)=true;rw[e0,u];rfl,p7 (WB k.tb) (by rw[e2,<-o];show _=bs++(_++_);rw[Xb]),rfl⟩
theorem Rl {k:Kd}(hk:rF k) {z:Type}{f:Nat}{enc:z->Enc}{cs:z->List C}(l:List z) (hl:∀x,T.cT (cs x) 2=true) (hf:∀x∈l,eL k f (.ifo none k.t 1000 0::.pt (cs x) 0::[]) (enc x)) :
  eL k 53 [.ifo none k.t 1000 0,.pt [.sl (l.map cs)] 0,.fn f [] []] (bR k enc l):=by
 intro bs hb;obtain⟨fs,q,m⟩:=hk.siz;have hE:bR k enc l=bn (k.siz (l.map cs).length) (aX enc l):=by unfold bR;rw[Xj]
 rw[hE] at hb ⊢;have w:bs.length+(k.siz (l.map cs).length).1.length<=70368744177664:=by
  simp only[bn,W8] at hb;omega
 refine ai Tryd.func53 DR rfl fun hw ho=>?_;have r:(l.map cs).length<=9223372036854775807:=by have h:=hw.2.1.1.1;simp only[maxLen] at h;exact h
 refine⟨hk.mks,?_⟩;refine⟨fs,q,?_⟩;refine bY [1000,1001] (m (l.map cs).length bs w) rfl rfl rfl rfl (fun v ⟨e,h⟩=>⟨e,by show(_&&_)=false;rw[h];rfl⟩) ?_;rintro v Mo ⟨e0,rfl,rfl⟩ _ _;refine⟨rfl,?_⟩;refine aF (fun h=>?_) (fun _=>?_)
 ·simp at h
 have d:(bs++(k.siz (l.map cs).length).1).length+(aX enc l).1.length<=70368744177664:=by
  simp only[bn,W8] at hb ⊢;omega
 generalize o:bs++(k.siz (l.map cs).length).1=b1 at d;have j:((l.map cs).length:Int)=l.length:=by simp
 refine bW l.length 31 [] b1 (fun _=>[]) (fun s=>CW k.tb s) (fun i s=>∃p,s=b1++p/\aX enc l=bn (p,true) (aX enc (l.drop i))) ⟨[],by simp,by simp[bn]⟩ (aq rfl) trivial
  ⟨.inl ⟨_,rfl,.inl ⟨rfl,rfl⟩⟩,.inl ⟨_,rfl,.inl ⟨rfl,rfl⟩⟩,trivial⟩ (fun _=>rfl) (fun _=>rfl) ?_
 rintro i s hi ⟨p,y,b⟩ _ _ _;refine aV (fun a=>?_) (fun c=>?_)
 ·have a:i<l.length:=by
   have h:(i:Int)<((l.map cs).length:Int):=a;rw[j] at h;omega
  refine d9 a fun x hx n hd=>?_;obtain⟨g1,g2,g3⟩:=iL hd y b d;refine js hx rfl (hl x) ?_;refine bO [1000,1001] (hf x n s g1) rfl rfl rfl rfl (fun v ⟨e,h⟩=>⟨e,by show(_&&_)=false;rw[g2 h,XG]⟩) ?_;rintro v Mo ⟨u,rfl,rfl⟩ _ _;refine⟨rfl,?_⟩;refine Fit.Wk (by omega) (by rw[Xj] at r;omega) ?_;exact⟨(i+1,s++(enc x).1),⟨by omega,p++(enc x).1,by rw[y,Xb],g3 u⟩,⟨cF,trivial⟩,⟨.inl ⟨_,rfl,.inl ⟨rfl,rfl⟩⟩,.inl ⟨_,rfl,.inl ⟨rfl,rfl⟩⟩,trivial⟩,cG a⟩
 ·have c:¬i<l.length:=by
   have h:¬(i:Int)<((l.map cs).length:Int):=c;rw[j] at h;omega
  obtain⟨u,e2⟩:=kS (fG c) y b;exact cR [1000,1001] rfl rfl rfl rfl ⟨by show(_&&_)=true;rw[e0,u];rfl,p7 (WB k.tb) (by rw[e2,<-o];show _=bs++(_++_);rw[Xb]),rfl⟩
theorem Rm {k:Kd}(hk:rF k) {z:Type}{f:Nat}{enc:z->Enc}{cs:z->List C}(l:List z) (hl:∀x,T.cT (cs x) 7=true) (hf:∀x∈l,eL k f (.ifo none k.t 1000 0::.pt (cs x) 0::[]) (enc x)) :
  eL k 66 [.ifo none k.t 1000 0,.pt [.sl (l.map cs)] 0,.fn f [] []] (bR k enc l):=by
 intro bs hb;obtain⟨fs,q,m⟩:=hk.siz;have hE:bR k enc l=bn (k.siz (l.map cs).length) (aX enc l):=by unfold bR;rw[Xj]
 rw[hE] at hb ⊢;have w:bs.length+(k.siz (l.map cs).length).1.length<=70368744177664:=by
  simp only[bn,W8] at hb;omega
 refine ai Tryd.func66 DX rfl fun hw ho=>?_;have r:(l.map cs).length<=9223372036854775807:=by have h:=hw.2.1.1.1;simp only[maxLen] at h;exact h
 refine⟨hk.mks,?_⟩;refine⟨fs,q,?_⟩;refine bY [1000,1001] (m (l.map cs).length bs w) rfl rfl rfl rfl (fun v ⟨e,h⟩=>⟨e,by show(_&&_)=false;rw[h];rfl⟩) ?_;rintro v Mo ⟨e0,rfl,rfl⟩ _ _;refine⟨rfl,?_⟩;refine aF (fun h=>?_) (fun _=>?_)
 ·simp at h
 have d:(bs++(k.siz (l.map cs).length).1).length+(aX enc l).1.length<=70368744177664:=by
  simp only[bn,W8] at hb ⊢;omega
 generalize o:bs++(k.siz (l.map cs).length).1=b1 at d;have j:((l.map cs).length:Int)=l.length:=by simp
 refine bW l.length 31 [] b1 (fun _=>[]) (fun s=>CW k.tb s) (fun i s=>∃p,s=b1++p/\aX enc l=bn (p,true) (aX enc (l.drop i))) ⟨[],by simp,by simp[bn]⟩ (aq rfl) trivial
  ⟨.inl ⟨_,rfl,.inl ⟨rfl,rfl⟩⟩,.inl ⟨_,rfl,.inl ⟨rfl,rfl⟩⟩,trivial⟩ (fun _=>rfl) (fun _=>rfl) ?_
 rintro i s hi ⟨p,y,b⟩ _ _ _;refine aV (fun a=>?_) (fun c=>?_)
 ·have a:i<l.length:=by
   have h:(i:Int)<((l.map cs).length:Int):=a;rw[j] at h;omega
  refine d9 a fun x hx n hd=>?_;obtain⟨g1,g2,g3⟩:=iL hd y b d;refine js hx rfl (hl x) ?_;refine bO [1000,1001] (hf x n s g1) rfl rfl rfl rfl (fun v ⟨e,h⟩=>⟨e,by show(_&&_)=false;rw[g2 h,XG]⟩) ?_;rintro v Mo ⟨u,rfl,rfl⟩ _ _;refine⟨rfl,?_⟩;refine Fit.Wk (by omega) (by rw[Xj] at r;omega) ?_;exact⟨(i+1,s++(enc x).1),⟨by omega,p++(enc x).1,by rw[y,Xb],g3 u⟩,⟨cF,trivial⟩,⟨.inl ⟨_,rfl,.inl ⟨rfl,rfl⟩⟩,.inl ⟨_,rfl,.inl ⟨rfl,rfl⟩⟩,trivial⟩,cG a⟩
 ·have c:¬i<l.length:=by
   have h:¬(i:Int)<((l.map cs).length:Int):=c;rw[j] at h;omega
  obtain⟨u,e2⟩:=kS (fG c) y b;exact cR [1000,1001] rfl rfl rfl rfl ⟨by show(_&&_)=true;rw[e0,u];rfl,p7 (WB k.tb) (by rw[e2,<-o];show _=bs++(_++_);rw[Xb]),rfl⟩
theorem Rn {k:Kd}(hk:rF k) {z:Type}{f:Nat}{enc:z->Enc}{cs:z->List C}(l:List z) (hl:∀x,T.cT (cs x) 5=true) (hf:∀x∈l,eL k f (.ifo none k.t 1000 0::.pt (cs x) 0::[]) (enc x)) :
  eL k 68 [.ifo none k.t 1000 0,.pt [.sl (l.map cs)] 0,.fn f [] []] (bR k enc l):=by
 intro bs hb;obtain⟨fs,q,m⟩:=hk.siz;have hE:bR k enc l=bn (k.siz (l.map cs).length) (aX enc l):=by unfold bR;rw[Xj]
 rw[hE] at hb ⊢;have w:bs.length+(k.siz (l.map cs).length).1.length<=70368744177664:=by
  simp only[bn,W8] at hb;omega
 refine ai Tryd.func68 DZ rfl fun hw ho=>?_;have r:(l.map cs).length<=9223372036854775807:=by have h:=hw.2.1.1.1;simp only[maxLen] at h;exact h
 refine⟨hk.mks,?_⟩;refine⟨fs,q,?_⟩;refine bY [1000,1001] (m (l.map cs).length bs w) rfl rfl rfl rfl (fun v ⟨e,h⟩=>⟨e,by show(_&&_)=false;rw[h];rfl⟩) ?_;rintro v Mo ⟨e0,rfl,rfl⟩ _ _;refine⟨rfl,?_⟩;refine aF (fun h=>?_) (fun _=>?_)
 ·simp at h
 have d:(bs++(k.siz (l.map cs).length).1).length+(aX enc l).1.length<=70368744177664:=by
  simp only[bn,W8] at hb ⊢;omega
 generalize o:bs++(k.siz (l.map cs).length).1=b1 at d;have j:((l.map cs).length:Int)=l.length:=by simp
 refine bW l.length 31 [] b1 (fun _=>[]) (fun s=>CW k.tb s) (fun i s=>∃p,s=b1++p/\aX enc l=bn (p,true) (aX enc (l.drop i))) ⟨[],by simp,by simp[bn]⟩ (aq rfl) trivial
  ⟨.inl ⟨_,rfl,.inl ⟨rfl,rfl⟩⟩,.inl ⟨_,rfl,.inl ⟨rfl,rfl⟩⟩,trivial⟩ (fun _=>rfl) (fun _=>rfl) ?_
 rintro i s hi ⟨p,y,b⟩ _ _ _;refine aV (fun a=>?_) (fun c=>?_)
 ·have a:i<l.length:=by
   have h:(i:Int)<((l.map cs).length:Int):=a;rw[j] at h;omega
  refine d9 a fun x hx n hd=>?_;obtain⟨g1,g2,g3⟩:=iL hd y b d;refine js hx rfl (hl x) ?_;refine bO [1000,1001] (hf x n s g1) rfl rfl rfl rfl (fun v ⟨e,h⟩=>⟨e,by show(_&&_)=false;rw[g2 h,XG]⟩) ?_;rintro v Mo ⟨u,rfl,rfl⟩ _ _;refine⟨rfl,?_⟩;refine Fit.Wk (by omega) (by rw[Xj] at r;omega) ?_;exact⟨(i+1,s++(enc x).1),⟨by omega,p++(enc x).1,by rw[y,Xb],g3 u⟩,⟨cF,trivial⟩,⟨.inl ⟨_,rfl,.inl ⟨rfl,rfl⟩⟩,.inl ⟨_,rfl,.inl ⟨rfl,rfl⟩⟩,trivial⟩,cG a⟩
 ·have c:¬i<l.length:=by
   have h:¬(i:Int)<((l.map cs).length:Int):=c;rw[j] at h;omega
  obtain⟨u,e2⟩:=kS (fG c) y b;exact cR [1000,1001] rfl rfl rfl rfl ⟨by show(_&&_)=true;rw[e0,u];rfl,p7 (WB k.tb) (by rw[e2,<-o];show _=bs++(_++_);rw[Xb]),rfl⟩
theorem Ro {k:Kd}(hk:rF k) {z:Type}{f:Nat}{enc:z->Enc}{cs:z->List C}(l:List z) (hl:∀x,T.cT (cs x) 8=true) (hf:∀x∈l,eL k f (.ifo none k.t 1000 0::.pt (cs x) 0::[]) (enc x)) :
  eL k 72 [.ifo none k.t 1000 0,.pt [.sl (l.map cs)] 0,.fn f [] []] (bR k enc l):=by
 intro bs hb;obtain⟨fs,q,m⟩:=hk.siz;have hE:bR k enc l=bn (k.siz (l.map cs).length) (aX enc l):=by unfold bR;rw[Xj]
 rw[hE] at hb ⊢;have w:bs.length+(k.siz (l.map cs).length).1.length<=70368744177664:=by
  simp only[bn,W8] at hb;omega
 refine ai Tryd.func72 uW rfl fun hw ho=>?_;have r:(l.map cs).length<=9223372036854775807:=by have h:=hw.2.1.1.1;simp only[maxLen] at h;exact h
 refine⟨hk.mks,?_⟩;refine⟨fs,q,?_⟩;refine bY [1000,1001] (m (l.map cs).length bs w) rfl rfl rfl rfl (fun v ⟨e,h⟩=>⟨e,by show(_&&_)=false;rw[h];rfl⟩) ?_;rintro v Mo ⟨e0,rfl,rfl⟩ _ _;refine⟨rfl,?_⟩;refine aF (fun h=>?_) (fun _=>?_)
 ·simp at h
 have d:(bs++(k.siz (l.map cs).length).1).length+(aX enc l).1.length<=70368744177664:=by
  simp only[bn,W8] at hb ⊢;omega
 generalize o:bs++(k.siz (l.map cs).length).1=b1 at d;have j:((l.map cs).length:Int)=l.length:=by simp
 refine bW l.length 31 [] b1 (fun _=>[]) (fun s=>CW k.tb s) (fun i s=>∃p,s=b1++p/\aX enc l=bn (p,true) (aX enc (l.drop i))) ⟨[],by simp,by simp[bn]⟩ (aq rfl) trivial
  ⟨.inl ⟨_,rfl,.inl ⟨rfl,rfl⟩⟩,.inl ⟨_,rfl,.inl ⟨rfl,rfl⟩⟩,trivial⟩ (fun _=>rfl) (fun _=>rfl) ?_
 rintro i s hi ⟨p,y,b⟩ _ _ _;refine aV (fun a=>?_) (fun c=>?_)
 ·have a:i<l.length:=by
   have h:(i:Int)<((l.map cs).length:Int):=a;rw[j] at h;omega
  refine d9 a fun x hx n hd=>?_;obtain⟨g1,g2,g3⟩:=iL hd y b d;refine js hx rfl (hl x) ?_;refine bO [1000,1001] (hf x n s g1) rfl rfl rfl rfl (fun v ⟨e,h⟩=>⟨e,by show(_&&_)=false;rw[g2 h,XG]⟩) ?_;rintro v Mo ⟨u,rfl,rfl⟩ _ _;refine⟨rfl,?_⟩;refine Fit.Wk (by omega) (by rw[Xj] at r;omega) ?_;exact⟨(i+1,s++(enc x).1),⟨by omega,p++(enc x).1,by rw[y,Xb],g3 u⟩,⟨cF,trivial⟩,⟨.inl ⟨_,rfl,.inl ⟨rfl,rfl⟩⟩,.inl ⟨_,rfl,.inl ⟨rfl,rfl⟩⟩,trivial⟩,cG a⟩
 ·have c:¬i<l.length:=by
   have h:¬(i:Int)<((l.map cs).length:Int):=c;rw[j] at h;omega
  obtain⟨u,e2⟩:=kS (fG c) y b;exact cR [1000,1001] rfl rfl rfl rfl ⟨by show(_&&_)=true;rw[e0,u];rfl,p7 (WB k.tb) (by rw[e2,<-o];show _=bs++(_++_);rw[Xb]),rfl⟩
theorem Mc {k:Kd}(hk:rF k) {α:Type}{f:Nat}{d:Int}{enc:α->Enc}{cs:α->List C}(l:List α) (hl:∀x,T.cT (cs x) 8=true) (hf:∀x∈l,eL k f (.ifo none k.t 1000 0::.pt (cs x) 0::[.pt [IC d] 0]) (enc x)) :
  eL k 72 [.ifo none k.t 1000 0,.pt [.sl (l.map cs)] 0,.fn f [] [.pt [IC d] 0]] (bR k enc l):=by
 intro bs hb;obtain⟨fs,r,n⟩:=hk.siz;have hE:bR k enc l=bn (k.siz (l.map cs).length) (aX enc l):=by unfold bR;rw[Xj]
 rw[hE] at hb ⊢;have y:bs.length+(k.siz (l.map cs).length).1.length<=70368744177664:=by
  simp only[bn,W8] at hb;omega
 refine ai Tryd.func72 uW rfl fun hw ho=>?_;have u:(l.map cs).length<=9223372036854775807:=by have h:=hw.2.1.1.1;simp only[maxLen] at h;exact h
 refine⟨hk.mks,?_⟩;refine⟨fs,r,?_⟩;refine bY [1000,1001] (n (l.map cs).length bs y) rfl rfl rfl rfl (fun v ⟨e,h⟩=>⟨e,by show(_&&_)=false;rw[h];rfl⟩) ?_;rintro v Mo ⟨e0,rfl,rfl⟩ _ _;refine⟨rfl,?_⟩;refine aF (fun h=>?_) (fun _=>?_)
 ·simp at h
 have j:(bs++(k.siz (l.map cs).length).1).length+(aX enc l).1.length<=70368744177664:=by
  simp only[bn,W8] at hb ⊢;omega
 generalize q:bs++(k.siz (l.map cs).length).1=b1 at j;have m:((l.map cs).length:Int)=l.length:=by simp
 refine bW l.length 31 [] b1 (fun _=>[]) (fun s=>CW k.tb s) (fun i s=>∃p,s=b1++p/\aX enc l=bn (p,true) (aX enc (l.drop i))) ⟨[],by simp,by simp[bn]⟩ (aq rfl) trivial
  ⟨.inl ⟨_,rfl,.inl ⟨rfl,rfl⟩⟩,.inl ⟨_,rfl,.inl ⟨rfl,rfl⟩⟩,trivial⟩ (fun _=>rfl) (fun _=>rfl) ?_
 rintro i s hi ⟨p,z,b⟩ _ _ _;refine aV (fun a=>?_) (fun c=>?_)
 ·have a:i<l.length:=by
   have h:(i:Int)<((l.map cs).length:Int):=a;rw[m] at h;omega
  refine d9 a fun x hx o hd=>?_;obtain⟨g1,g2,g3⟩:=iL hd z b j;refine js hx rfl (hl x) ?_;refine bO [1000,1001] (hf x o s g1) rfl rfl rfl rfl (fun v ⟨e,h⟩=>⟨e,by show(_&&_)=false;rw[g2 h,XG]⟩) ?_;rintro v Mo ⟨w,rfl,rfl⟩ _ _;refine⟨rfl,?_⟩;refine Fit.Wk (by omega) (by rw[Xj] at u;omega) ?_;exact⟨(i+1,s++(enc x).1),⟨by omega,p++(enc x).1,by rw[z,Xb],g3 w⟩,⟨cF,trivial⟩,⟨.inl ⟨_,rfl,.inl ⟨rfl,rfl⟩⟩,.inl ⟨_,rfl,.inl ⟨rfl,rfl⟩⟩,trivial⟩,cG a⟩
 ·have c:¬i<l.length:=by
   have h:¬(i:Int)<((l.map cs).length:Int):=c;rw[m] at h;omega
  obtain⟨w,e2⟩:=kS (fG c) z b;exact cR [1000,1001] rfl rfl rfl rfl ⟨by show(_&&_)=true;rw[e0,w];rfl,p7 (WB k.tb) (by rw[e2,<-q];show _=bs++(_++_);rw[Xb]),rfl⟩
theorem dI {a b:Enc}(h:a.2=false):(bn a b).2=false:=by show(_&&_)=false;rw[h];rfl
theorem aP {a b:Enc}(h:b.2=false):(bn a b).2=false:=by show(_&&_)=false;rw[h,XG]
theorem eM {a b:Enc}(h:a.2=true) (c:b.2=true):(bn a b).2=true:=by show(_&&_)=true;rw[h,c];rfl
theorem dQ {bs:List UInt8}{a b:Enc}{B:Nat}(h:bs.length+(bn a b).1.length<=B):bs.length+a.1.length<=B:=by
 simp only[bn,W8] at h;omega
theorem dD {bs:List UInt8}{a b:Enc}{B:Nat}(h:bs.length+(bn a b).1.length<=B):(bs++a.1).length+b.1.length<=B:=by
 simp only[bn,W8] at h ⊢;omega
theorem Pg (bs a b:List UInt8):(bs++a)++b=bs++(a++b):=by simp
theorem Ph (bs a b c:List UInt8):((bs++a)++b)++c=bs++(a++(b++c)):=by simp
theorem NJ (bs a b c d e:List UInt8):((((bs++a)++b)++c)++d)++e=bs++(a++(b++(c++(d++e)))):=by simp
theorem Rp (bs a b c d e f:List UInt8):(((((bs++a)++b)++c)++d)++e)++f=bs++(a++(b++(c++(d++(e++f))))):=by simp
section
variable {L:TL}{ρ:aT}{k:Kd}
theorem u6 {PS:oV}{f:Nat}{args a:List C}{bs:List UInt8}{e:Enc}{K:TL->aT->C->Prop}(h:eL k f a e) (hb:bs.length+e.1.length<=70368744177664)
  (l:L.sub [1000,1001]=some (WB k.tb bs)) (b:(args.map fun c=>c.Wo.ren (cj [1000,1001] 1000))=a) (p:e.2=false->PS.ps eS)
  (m:e.2=true->K (((L.Wi [1000,1001]).kills (rowsOf L [1000,1001])).puts [1000,1001] (WB k.tb (bs++e.1))) (eI (rowsOf L [1000,1001]) ρ) (.tup [])) (n:kR L [1000,1001] PS.hb=true:=by rfl):n9 PZ PS f args L ρ K :=
 bO [1000,1001] (h bs hb) l rfl b rfl (fun v ⟨e,h⟩=>e▸p h) (fun v Mo ⟨d,j,o⟩ _ _=>by subst j o;exact⟨rfl,m d⟩) n
theorem xU {PS:oV}{d:List Nat}{f:Nat}{args a:List C}{bs:List UInt8}{e:Enc}{K:TL->aT->C->Prop}(h:eL k f a e) (hb:bs.length+e.1.length<=70368744177664)
  (n:L.sub [1000,1001]=some (WB k.tb bs)) (b:vR [1000,1001] d=true) (j:(args.map fun c=>c.Wo.ren (cj [1000,1001] 1000))=a) (r:e.2=false->PS.ps eS)
  (o:e.2=true->K (((L.Wi [1000,1001]).kills (rowsOf L [1000,1001])).puts [1000,1001] (WB k.tb (bs++e.1))) (eI (rowsOf L [1000,1001]) ρ) (.tup [])) (p:kR L [1000,1001] PS.hb=true:=by rfl):mN PZ PS d f args L ρ K :=
 bY [1000,1001] (h bs hb) n (by simp only[W6];exact⟨⟨rfl,b⟩,rfl⟩) j rfl (fun v ⟨e,h⟩=>e▸r h) (fun v Mo ⟨l,m,q⟩ _ _=>by subst m q;exact⟨rfl,o l⟩) p
end
section
variable {k:Kd}(hk:rF k)
include hk
theorem Rq (n:Int):eL k 71 [.ifo none k.t 1000 0,.pt [IC n] 0] (k.num n):=by
 intro bs hb;obtain⟨fn,b,a,_⟩:=hk.num;refine ai Tryd.func71 D5 rfl fun d c=>?_;refine⟨fn,b,?_⟩;refine u6 (a n) hb rfl rfl (fun h=>⟨rfl,h⟩) fun h=>?_;exact cR [1000,1001] rfl rfl rfl rfl ⟨h,rfl,rfl⟩
theorem Rs (b:Bool):eL k 48 [.ifo none k.t 1000 0,.pt (HL b) 0] (Qw k b):=by
 intro bs hb;have a:=(H9 hk [b]).pts (es:=HL b) (os:=[0]) ⟨rfl,trivial⟩;refine ai Tryd.func48 DL rfl fun d c=>?_;refine u6 a hb rfl rfl (fun h=>⟨rfl,h⟩) fun h=>?_;exact cR [1000,1001] rfl rfl rfl rfl ⟨h,rfl,rfl⟩
theorem nN (p:List Int):eL k 70 [.ifo none k.t 1000 0,.pt [.sl (wL p)] 0,.fn 71 [] []] (bR k k.num p):=Rf hk p (cs:=fun n=>[IC n]) (fun _=>rfl) fun x _=>Rq hk x
end
theorem Pj:∀(m:Nat) (v:Vl),Fq v<=m->∀d:Int,-4611686018427387904+(m:Int)<=d->d<=4611686018427387904->eL kW 95 [.ifo none kW.t 1000 0,.pt (rE v) 0,.pt [IC d] 0] (Aq kW v d)
 | 0,.mk a b c n f e p l,w,d,h1,h2=>by rw[Fq] at w;omega
 | m+1,.mk a b c n f e p l,w,d,h1,h2=>by
  intro bs hb;have ih:∀x∈f,eL kW 95 [.ifo none kW.t 1000 0,.pt (rE x) 0,.pt [IC (d-1)] 0] (Aq kW x (d-1)):=fun x hx=>Pj m x (by
   have:=wS hx;rw[Fq] at w;omega) (d-1) (by omega) (by omega)
  have hE:Aq kW (.mk a b c n f e p l) d=bn (z7 (decide (0<d)||kW.deep)) (bn (aX kW.num [a,b,c,n]) (bn (bR kW (fun x=>Aq kW x (d-1)) f) (bn (aX (qb kW) [e]) (bn (bR kW kW.num p) (bR kW kW.num l))))):=by
   rw[Aq,tN];rfl
  rw[hE] at hb ⊢;have j:=dD hb;have j:bs.length+(bn (aX kW.num [a,b,c,n]) (bn (bR kW (fun x=>Aq kW x (d-1)) f) (bn (aX (qb kW) [e]) (bn (bR kW kW.num p) (bR kW kW.num l))))).1.length<=70368744177664:=by simpa[z7] using j
  have w1:=(Af yX [a,b,c,n]).pts (es:=rE (.mk a b c n f e p l)) (os:=[0,1,2,3]) ⟨rfl,rfl,rfl,rfl,trivial⟩;have w2:=(Mc yX f (cs:=rE) (fun x=>by cases x;rfl) ih).at (es:=rE (.mk a b c n f e p l)) (off:=4) (p7 (fun q=>[C.sl q]) (sH f));have w3:=(H9 yX [e]).pts (es:=rE (.mk a b c n f e p l)) (os:=[5]) ⟨rfl,trivial⟩;have w4:=(nN yX p).at (es:=rE (.mk a b c n f e p l)) (off:=6) rfl;have z:=(nN yX l).at (es:=rE (.mk a b c n f e p l)) (off:=7) rfl;refine ai Tryd.func95 uX rfl fun hw ho=>?_;refine aV (fun y=>?_) (fun y=>?_)
  ·have u:(z7 (decide (0<d)||kW.deep)).2=true:=by show(decide (0<d)||false)=true;simp;exact y
   refine tO (sN true) rfl (fun h=>by cases h) fun _=>?_;refine xU w1 (dQ j) rfl rfl rfl (fun h=>⟨rfl,aP (dI h)⟩) fun o1=>?_;have s:=dD j;refine Fit.Wk (by omega) (by omega) ?_;refine gW (Pc (d-1)) rfl fun _=>?_;refine xU w2 (dQ s) rfl rfl rfl (fun h=>⟨rfl,aP (aP (dI h))⟩) fun o2=>?_;have r:=dD s;refine u6 w3 (dQ r) rfl rfl (fun h=>⟨rfl,aP (aP (aP (dI h)))⟩) fun o3=>?_;have o:=dD r;refine u6 w4 (dQ o) rfl rfl (fun h=>⟨rfl,aP (aP (aP (aP (dI h))))⟩) fun o4=>?_;refine u6 z (dD o) rfl rfl (fun h=>⟨rfl,aP (aP (aP (aP (aP h))))⟩) fun o5=>?_;exact cR [1000,1001] rfl rfl rfl rfl ⟨eM u (eM o1 (eM o2 (eM o3 (eM o4 o5)))),p7 (WB kW.tb) (NJ _ _ _ _ _ _),rfl⟩
  ·refine tO (sN false) rfl (fun _=>⟨rfl,dI (by show(decide (0<d)||false)=false;simp;omega)⟩) fun h=>by cases h
theorem Pk:∀(m:Nat) (v:Vl),Fq v<=m->∀d:Int,-4611686018427387904+(m:Int)<=d->d<=4611686018427387904->eL kL 95 [.ifo none kL.t 1000 0,.pt (rE v) 0,.pt [IC d] 0] (Aq kL v d)
 | 0,.mk a b c n f e p l,w,d,h1,h2=>by rw[Fq] at w;omega
 | m+1,.mk a b c n f e p l,w,d,h1,h2=>by
  intro bs hb;have ih:∀x∈f,eL kL 95 [.ifo none kL.t 1000 0,.pt (rE x) 0,.pt [IC (d-1)] 0] (Aq kL x (d-1)):=fun x z=>Pk m x (by
   have:=wS z;rw[Fq] at w;omega) (d-1) (by omega) (by omega)
  have hE:Aq kL (.mk a b c n f e p l) d=bn (z7 (decide (0<d)||kL.deep)) (bn (aX kL.num [a,b,c,n]) (bn (bR kL (fun x=>Aq kL x (d-1)) f) (bn (aX (qb kL) [e]) (bn (bR kL kL.num p) (bR kL kL.num l))))):=by
   rw[Aq,tN];rfl
  rw[hE] at hb ⊢;have j:=dD hb;have j:bs.length+(bn (aX kL.num [a,b,c,n]) (bn (bR kL (fun x=>Aq kL x (d-1)) f) (bn (aX (qb kL) [e]) (bn (bR kL kL.num p) (bR kL kL.num l))))).1.length<=70368744177664:=by simpa[z7] using j
  have w1:=(Af yY [a,b,c,n]).pts (es:=rE (.mk a b c n f e p l)) (os:=[0,1,2,3]) ⟨rfl,rfl,rfl,rfl,trivial⟩;have w2:=(Mc yY f (cs:=rE) (fun x=>by cases x;rfl) ih).at (es:=rE (.mk a b c n f e p l)) (off:=4) (p7 (fun q=>[C.sl q]) (sH f));have w3:=(H9 yY [e]).pts (es:=rE (.mk a b c n f e p l)) (os:=[5]) ⟨rfl,trivial⟩;have w4:=(nN yY p).at (es:=rE (.mk a b c n f e p l)) (off:=6) rfl;have y:=(nN yY l).at (es:=rE (.mk a b c n f e p l)) (off:=7) rfl;refine ai Tryd.func95 uX rfl fun hw ho=>?_;have u:(z7 (decide (0<d)||kL.deep)).2=true:=by show(decide (0<d)||true)=true;simp
  refine aV (fun h0=>?_) (fun h0=>?_)
  all_goals
   refine tO (sN true) rfl (fun h=>by cases h) fun _=>?_;refine xU w1 (dQ j) rfl rfl rfl (fun h=>⟨rfl,aP (dI h)⟩) fun o1=>?_;have s:=dD j;refine Fit.Wk (by omega) (by omega) ?_;refine gW (Pc (d-1)) rfl fun _=>?_;refine xU w2 (dQ s) rfl rfl rfl (fun h=>⟨rfl,aP (aP (dI h))⟩) fun o2=>?_;have r:=dD s;refine u6 w3 (dQ r) rfl rfl (fun h=>⟨rfl,aP (aP (aP (dI h)))⟩) fun o3=>?_;have o:=dD r;refine u6 w4 (dQ o) rfl rfl (fun h=>⟨rfl,aP (aP (aP (aP (dI h))))⟩) fun o4=>?_;refine u6 y (dD o) rfl rfl (fun h=>⟨rfl,aP (aP (aP (aP (aP h))))⟩) fun o5=>?_;exact cR [1000,1001] rfl rfl rfl rfl ⟨eM u (eM o1 (eM o2 (eM o3 (eM o4 o5)))),p7 (WB kL.tb) (NJ _ _ _ _ _ _),rfl⟩
structure Rt (k:Kd):Prop where
 toKdOk:rF k
 val:∀v:Vl,Fq v<=4611686018427387904->eL k 95 [.ifo none k.t 1000 0,.pt (rE v) 0,.pt [IC 60] 0] (yU k v)
theorem Ru:Rt kW:={toKdOk:=yX,val:=fun v h=>Pj _ v h 60 (by omega) (by omega)}
theorem Rv:Rt kL:={toKdOk:=yY,val:=fun v h=>Pk _ v h 60 (by omega) (by omega)}
def vsB (l:List Vl):Prop:=∀v∈l,Fq v<=4611686018427387904
def Rw (x:Ce):Prop:=Fq x.value<=4611686018427387904
def Rx (x:Ac):Prop:=vsB x.slots
def Ry (x:Tk):Prop:=∀f∈x.frames,Rx f
def FM (x:Wd):Prop:=(∀c∈x.cells,Rw c)/\(∀t∈x.tasks,Ry t)/\∀l∈x.channels,vsB l
section
variable {k:Kd}(hk:Rt k)
include hk
theorem Pm (v:Vl) (a:Fq v<=4611686018427387904):eL k 65 [.ifo none k.t 1000 0,.pt (rE v) 0] (yU k v):=by
 intro bs hb;refine ai Tryd.func65 DW rfl fun c b=>?_;refine bK (Pc 60) rfl fun _=>?_;refine u6 (hk.val v a) hb rfl rfl (fun h=>⟨rfl,h⟩) fun h=>?_;exact cR [1000,1001] rfl rfl rfl rfl ⟨h,rfl,rfl⟩
theorem Pn (l:List Vl) (b:vsB l):eL k 52 [.ifo none k.t 1000 0,.pt (LX l) 0] (PV k l):=by
 intro bs hb;refine ai Tryd.func52 DQ rfl fun d c=>?_;refine u6 (Ro hk.toKdOk l (cs:=rE) (fun x=>by cases x;rfl) fun x a=>Pm hk x (b x a)) hb rfl rfl (fun h=>⟨rfl,h⟩) fun h=>?_;exact cR [1000,1001] rfl rfl rfl rfl ⟨h,rfl,rfl⟩
theorem Rz (x:Ce) (f:Rw x):eL k 46 [.ifo none k.t 1000 0,.pt (D7 x) 0] (Qr k x):=by
 intro bs hb;obtain⟨b,a,v⟩:=x;have n:=(H9 hk.toKdOk [b]).pts (es:=D7 ⟨b,a,v⟩) (os:=[0]) ⟨rfl,trivial⟩;have d:=(Af hk.toKdOk [a]).pts (es:=D7 ⟨b,a,v⟩) (os:=[1]) ⟨rfl,trivial⟩;have j:=(Pm hk v f).at (es:=D7 ⟨b,a,v⟩) (off:=2) (by cases v;rfl);refine ai Tryd.func46 DJ rfl fun p o=>?_;refine u6 n (dQ hb) rfl rfl (fun h=>⟨rfl,dI h⟩) fun e=>?_;have c:=dD hb;refine u6 d (dQ c) rfl rfl (fun h=>⟨rfl,aP (dI h)⟩) fun l=>?_;refine u6 j (dD c) rfl rfl (fun h=>⟨rfl,aP (aP h)⟩) fun m=>?_;exact cR [1000,1001] rfl rfl rfl rfl ⟨eM e (eM l m),p7 (WB k.tb) (Ph _ _ _ _),rfl⟩
theorem RA (x:Ac) (d:Rx x):eL k 67 [.ifo none k.t 1000 0,.pt (FL x) 0] (Qs k x):=by
 intro bs hb;have l:=(Af hk.toKdOk [x.number,x.routine,x.block,x.index,x.dst]).pts (es:=FL x) (os:=[0,1,2,3,4]) ⟨rfl,rfl,rfl,rfl,rfl,trivial⟩;have b:=(Pn hk x.slots d).at (es:=FL x) (off:=5) rfl;have e:=(nN hk.toKdOk x.since).at (es:=FL x) (off:=6) rfl;refine ai Tryd.func67 DY rfl fun n m=>?_;refine xU l (dQ hb) rfl rfl rfl (fun h=>⟨rfl,dI h⟩) fun c=>?_;have a:=dD hb;refine u6 b (dQ a) rfl rfl (fun h=>⟨rfl,aP (dI h)⟩) fun f=>?_;refine u6 e (dD a) rfl rfl (fun h=>⟨rfl,aP (aP h)⟩) fun j=>?_;exact cR [1000,1001] rfl rfl rfl rfl ⟨eM c (eM f j),p7 (WB k.tb) (Ph _ _ _ _),rfl⟩
theorem RD (x:Ln):eL k 69 [.ifo none k.t 1000 0,.pt (Iu x) 0] (Qt k x):=by
 intro bs hb;have d:=(Af hk.toKdOk [x.frame,x.slot]).pts (es:=Iu x) (os:=[0,1]) ⟨rfl,rfl,trivial⟩;have a:=(H9 hk.toKdOk [x.excl,x.re,x.over]).pts (es:=Iu x) (os:=[2,3,4]) ⟨rfl,rfl,rfl,trivial⟩;refine ai Tryd.func69 D3 rfl fun f e=>?_;refine xU d (dQ hb) rfl rfl rfl (fun h=>⟨rfl,dI h⟩) fun b=>?_;refine xU a (dD hb) rfl rfl rfl (fun h=>⟨rfl,aP h⟩) fun c=>?_;exact cR [1000,1001] rfl rfl rfl rfl ⟨eM b c,p7 (WB k.tb) (Pg _ _ _),rfl⟩
theorem RE (x:Tk) (e:Ry x):eL k 50 [.ifo none k.t 1000 0,.pt (D8 x) 0] (Qu k x):=by
 intro bs hb;have r:=(Af hk.toKdOk [x.state]).pts (es:=D8 x) (os:=[0]) ⟨rfl,trivial⟩;have j:=(Rm hk.toKdOk x.frames (cs:=FL) (fun _=>rfl) fun y l=>RA hk y (e y l)).at (es:=D8 x) (off:=1) rfl;have m:=(Rn hk.toKdOk x.loans (cs:=Iu) (fun _=>rfl) fun y _=>RD hk y).at (es:=D8 x) (off:=2) rfl;have o:=(Af hk.toKdOk [x.allocs,x.clock,x.next]).pts (es:=D8 x) (os:=[3,4,5]) ⟨rfl,rfl,rfl,trivial⟩;have d:=(nN hk.toKdOk x.cells).at (es:=D8 x) (off:=6) rfl;refine ai Tryd.func50 DN rfl fun u v=>?_;refine u6 r (dQ hb) rfl rfl (fun h=>⟨rfl,dI h⟩) fun q=>?_;have c:=dD hb;refine u6 j (dQ c) rfl rfl (fun h=>⟨rfl,aP (dI h)⟩) fun n=>?_;have b:=dD c;refine u6 m (dQ b) rfl rfl (fun h=>⟨rfl,aP (aP (dI h))⟩) fun p=>?_;have a:=dD b;refine xU o (dQ a) rfl rfl rfl (fun h=>⟨rfl,aP (aP (aP (dI h)))⟩) fun s=>?_;refine u6 d (dD a) rfl rfl (fun h=>⟨rfl,aP (aP (aP (aP h)))⟩) fun f=>?_;exact cR [1000,1001] rfl rfl rfl rfl ⟨eM q (eM n (eM p (eM s f))),p7 (WB k.tb) (NJ _ _ _ _ _ _),rfl⟩
theorem RF (x:Ou):eL k 54 [.ifo none k.t 1000 0,.pt (LY x) 0] (Qv k x):=by
 intro bs hb;have b:=(Af hk.toKdOk [x.task,x.number]).pts (es:=LY x) (os:=[0,1]) ⟨rfl,rfl,trivial⟩;refine ai Tryd.func54 DS rfl fun d c=>?_;refine xU b hb rfl rfl rfl (fun h=>⟨rfl,h⟩) fun a=>?_;exact cR [1000,1001] rfl rfl rfl rfl ⟨a,rfl,rfl⟩
theorem Po (l m:List (List C)) (n:Int) (x:Wd) (j:FM x):eL k 33 [.ifo none k.t 1000 0,.pt (.sl l::.sl m::IC n::N9 x) 0] (uo k x):=by
 intro bs hb;generalize a:(.sl l::.sl m::IC n::N9 x:List C)=es;have w1:=(Ri hk.toKdOk x.cells (cs:=D7) (fun y=>by obtain⟨_,_,v⟩:=y;cases v;rfl) fun y c=>Rz hk y (j.1 y c)).at (es:=es) (off:=3) (by rw[<-a];rfl);have q:=(Rh hk.toKdOk x.arenas (cs:=HL) (fun _=>rfl) fun y _=>Rs hk.toKdOk y).at (es:=es) (off:=4) (by rw[<-a];rfl);have r:=(Rj hk.toKdOk x.tasks (cs:=D8) (fun _=>rfl) fun y c=>RE hk y (j.2.1 y c)).at (es:=es) (off:=5) (by rw[<-a];rfl);have u:=(Rk hk.toKdOk x.channels (cs:=LX) (fun _=>rfl) fun y c=>Pn hk y (j.2.2 y c)).at (es:=es) (off:=6) (by rw[<-a];rfl);have o:=(Rl hk.toKdOk x.outputs (cs:=LY) (fun _=>rfl) fun y _=>RF hk y).at (es:=es) (off:=7) (by rw[<-a];rfl);have w:=(Af hk.toKdOk [x.made,x.dropped,x.closed]).pts (es:=es) (os:=[8,9,10]) (by rw[<-a];exact⟨rfl,rfl,rfl,trivial⟩);refine ai Tryd.func33 DG rfl fun hw ho=>?_;refine u6 w1 (dQ hb) rfl rfl (fun h=>⟨rfl,dI h⟩) fun o1=>?_;have e:=dD hb;refine u6 q (dQ e) rfl rfl (fun h=>⟨rfl,aP (dI h)⟩) fun s=>?_;have d:=dD e;refine u6 r (dQ d) rfl rfl (fun h=>⟨rfl,aP (aP (dI h))⟩) fun z=>?_;have b:=dD d;refine u6 u (dQ b) rfl rfl (fun h=>⟨rfl,aP (aP (aP (dI h)))⟩) fun o4=>?_;have f:=dD b;refine u6 o (dQ f) rfl rfl (fun h=>⟨rfl,aP (aP (aP (aP (dI h))))⟩) fun p=>?_;refine xU w (dD f) rfl rfl rfl (fun h=>⟨rfl,aP (aP (aP (aP (aP h))))⟩) fun o6=>?_;exact cR [1000,1001] rfl rfl rfl rfl ⟨eM o1 (eM s (eM z (eM o4 (eM p o6)))),p7 (WB k.tb) (Rp _ _ _ _ _ _ _),rfl⟩
end
end Go.Fr.Tryd
namespace Go.Fr.Tryd
open Go Go.RowKit Go.Proofs Go.Fr Go.Fr.T Go.Fr.Api Go.Fr.Dm
theorem BP:∀(l:List Int) (h:Int),(∀x∈l,0<=x)->0<=h/\h<2147483647->0<=l.foldl qN h/\l.foldl qN h<2147483647
 | [],h,_,hb=>hb
 | x::l,h,a,hb=>BP l _ (fun y b=>a y (by simp[b])) (wY hb.1 (a x (by simp)))
def iW (bs:List UInt8):Int:=Pq (Ag bs)
theorem jv (bs:List UInt8):0<=iW bs/\iW bs<2147483647:=BP _ _ (fun x a=>by
 simp only[Ag,Xz] at a;obtain⟨b,_,rfl⟩:=a;omega) (by omega)
theorem VI (b:UInt8):CallsT PZ 30 [iF b] [] (iK [] (.int .i64 b.toNat)):=by
 refine au Tryd.func30 Kg rfl fun a _=>?_;refine Fit.Wk (by omega) (by have:=b.toNat_lt;omega) ?_;exact bC rfl rfl
theorem t29 (bs:List UInt8):CallsT PZ 29 [.sl (af bs),.fn 30 [] []] [] (iK [] (IC (iW bs))):=by
 refine au Tryd.func29 Kf rfl fun l _=>?_;have s:=uT l.1;refine bW bs.length 10 [5] 7 (fun h=>[.int .i64 h]) (fun _=>[]) (fun k h=>0<=h/\h<2147483647/\(Ag (bs.drop k)).foldl qN h=iW bs) ⟨by omega,by omega,rfl⟩
  (aq rfl) ⟨aq rfl,trivial⟩ trivial (fun _=>rfl) (fun _=>rfl) ?_
 rintro k h q ⟨m,r,d⟩ o _ e;refine aV (fun a=>?_) (fun c=>?_)
 ·have a:k<bs.length:=by simpa[af] using a
  obtain⟨b,hb,j⟩:=drop_cons a;rw[j] at d;obtain⟨f,p⟩:=wY (x:=b.toNat) m (by omega);have n:=b.toNat_lt;refine M0 hb ?_;refine Fit.Wk (by omega) (by omega) ?_;refine bK (VI b) rfl fun _=>?_;refine Fit.Wk (by omega) (by omega) ?_;refine Fit.Wk (by omega) (by omega) ?_;refine mT.mk (by omega) ?_;refine Fit.Wk (by omega) (by omega) ?_;exact⟨(k+1,qN h b.toNat),⟨a,f,p,d⟩,⟨cF,aq rfl,trivial⟩,trivial,cG a⟩
 ·have c:¬k<bs.length:=by simpa[af] using c
  rw[fG c] at d;exact bC rfl (p7 (C.int .i64) d)
theorem t9 (bs:List UInt8):CallsT PZ 9 [.sl (af bs)] [] (iK [] (IC (iW bs))):=by
 refine au Tryd.func9 Np rfl fun a _=>?_;refine bK (t29 bs) rfl fun _=>?_;exact bC rfl rfl
theorem VJ (bs:List UInt8):CallsT PZ 37 [.sl (af bs)] [] (iK [] (IC (iW bs))):=by
 refine au Tryd.func37 Km rfl fun o _=>?_;have e:bs.length<=9223372036854775807:=uT o.1;refine bW bs.length 4 [3] (7:Int) (fun h=>[IC h]) (fun _=>[]) (fun k h=>(Ag (bs.drop k)).foldl qN h=iW bs/\0<=h/\h<2147483647) ⟨rfl,by omega,by omega⟩ (aq rfl) ⟨aq rfl,trivial⟩ trivial (fun _=>rfl) (fun _=>rfl) ?_;rintro k h p ⟨a,f,q⟩ _ _ _;refine aV (fun b=>?_) (fun c=>?_)
 ·have b:k<bs.length:=by simpa[af] using b
  refine d9 b fun x j l m=>?_;rw[m] at a;have n:=x.toNat_lt;refine Fit.Wk (by omega) (by omega) ?_;refine M0 j ?_;refine Fit.Wk (by omega) (by omega) ?_;refine Fit.Wk (by omega) (by omega) ?_;refine Fit.Wk (by omega) (by omega) ?_;refine mT.mk (by omega) ?_;have d:=wY (x:=x.toNat) f (by omega);refine Fit.Wk (by omega) (by omega) ?_;exact⟨(k+1,qN h x.toNat),⟨b,a,d.1,d.2⟩,⟨cF,aq rfl,trivial⟩,trivial,cG b⟩
 ·have c:¬k<bs.length:=by simpa[af] using c
  rw[fG c] at a;exact bC rfl (p7 (C.int .i64) a)
theorem mR (a b:List UInt8):qC ⟨a.toArray⟩ ⟨b.toArray⟩=decide (a=b):=by simp[qC]
theorem t22 (a b:List UInt8):CallsT PZ 22 [.sl (af a),.sl (af b)] [] (iK [] (.bool (decide (a=b)))):=by
 refine au Tryd.func22 J8 rfl fun c _=>?_;refine gR.mk ⟨a,rfl,?_⟩;refine gR.mk ⟨b,rfl,?_⟩;exact bC rfl (p7 C.bool (mR a b))
def Od (n:Int):UInt8:=UInt8.ofNat n.toNat
def rG (bs:List UInt8):List UInt8:=[Od (iW bs / 16777216),Od (iW bs / 65536),Od (iW bs / 256),Od (iW bs)]
def gC (b:List UInt8):List UInt8:=b++rG b
theorem kM {n m:Int}(h:0<=m) (e:n=m):IntKind.wrap .u8 n=((Od m).toNat:Int):=by
 subst e;simp only[IntKind.wrap,IntKind.bits,IntKind.signed,Od,UInt8.toNat_ofNat'];simp;omega
theorem RH:∀bs:List UInt8,bs.length<=70368744177664->CallsT PZ 56 [.sl (af bs)] [] (iK [.row 5 1 (af bs)] (.rw 1000))
 | [],hb=>by
  refine au Tryd.func56 DU rfl fun c _=>?_;intro b _;refine aF (fun _=>?_) (fun _=>?_)
  ·exact Qa 2 5 1 rfl rfl
  ·refine qA 0 rfl (by simp) ?_;exact xJ [5] rfl rfl rfl rfl
 | x::l,hb=>by
  refine au Tryd.func56 DU rfl fun c _=>?_;intro b a;refine aF (fun h=>?_) (fun _=>?_)
  ·rw[a (by simp[af])] at h;cases h
  ·refine qA 0 rfl (by omega) ?_;exact xJ [5] rfl rfl rfl rfl
theorem Ps (b:List UInt8):af b++af (rG b)=af (gC b):=by simp[af,gC]
theorem Si (bs:List UInt8) (hb:bs.length<=70368744177664):CallsT PZ 34 [.sl (af bs)] [] (iK [.row 5 1 (af (gC bs))] (.rw 1000)):=by
 obtain⟨a,c⟩:=jv bs;refine au Tryd.func34 Kj rfl fun d _=>?_;refine bK (t9 bs) rfl fun _=>?_;refine callO [] [7] (RH bs hb) rfl rfl rfl rfl rfl fun _ _=>?_;refine⟨by decide,?_⟩;refine Fit.to (kM (m:=iW bs / 16777216) (by omega) (Int.fdiv_eq_ediv_of_nonneg (b:=16777216) _ (by omega))) ?_;refine⟨by decide,?_⟩;refine Fit.to (kM (m:=iW bs / 65536) (by omega) (Int.fdiv_eq_ediv_of_nonneg (b:=65536) _ (by omega))) ?_;refine⟨by decide,?_⟩;refine Fit.to (kM (m:=iW bs / 256) (by omega) (Int.fdiv_eq_ediv_of_nonneg (b:=256) _ (by omega))) ?_;refine Fit.to (kM (m:=iW bs) (by omega) rfl) ?_;refine qA (bs:=rG bs) bs.length aK (by simp[rG];omega) ?_;exact xJ [7] rfl rfl (p7 (fun q=>[TO.row 5 1 q]) (Ps bs)) rfl
theorem VK (bs:List UInt8):CallsT PZ 15 [.sl (af bs)] [] (iK [] (.sl (af (rG bs)))):=by
 obtain⟨a,c⟩:=jv bs;refine au Tryd.func15 J2 rfl fun d _=>?_;refine bK (VJ bs) rfl fun _=>?_;refine⟨by decide,?_⟩;refine Fit.to (kM (m:=iW bs / 16777216) (by omega) (Int.fdiv_eq_ediv_of_nonneg (b:=16777216) _ (by omega))) ?_;refine⟨by decide,?_⟩;refine Fit.to (kM (m:=iW bs / 65536) (by omega) (Int.fdiv_eq_ediv_of_nonneg (b:=65536) _ (by omega))) ?_;refine⟨by decide,?_⟩;refine Fit.to (kM (m:=iW bs / 256) (by omega) (Int.fdiv_eq_ediv_of_nonneg (b:=256) _ (by omega))) ?_;refine Fit.to (kM (m:=iW bs) (by omega) rfl) ?_;exact bC rfl rfl
def dJ:List UInt8:=[76,83,1]
theorem t31:CallsT PZ 31 [] [] (iK [] (.sl (af dJ))):=by
 refine au Tryd.func31 Kh rfl fun a _=>?_;exact bC rfl rfl
theorem Ib (a b:List UInt8):decide ((a.take b.length)=b)=decide (b <+: a):=by
 congr 1;exact propext ⟨fun h=>h▸List.take_prefix _ _,fun⟨t,h⟩=>by rw[<-h];simp⟩
theorem Sj (a b:List UInt8):CallsT PZ 24 [.sl (af a),.sl (af b)] [] (iK [] (.bool (decide (b <+: a)))):=by
 refine au Tryd.func24 Ka rfl fun d _=>?_;have c:(af a).length=a.length:=aK;have hb:(af b).length=b.length:=aK;refine aV (fun h=>?_) (fun h=>?_)
 ·rw[c,hb] at h;refine AZ.mk (Xw 0) (by omega) (by rw[c,hb];exact h) fA ?_;refine bK (t22 (a.take b.length) b) (p7 (fun q=>[C.sl q,C.sl (af b)]) (?_:((af a).drop 0).take (((af b).length:Int).toNat-0)=af (a.take b.length))) fun _=>?_
  ·rw[gq,hb];simp
  ·exact bC rfl (p7 C.bool (Ib a b))
 ·rw[c,hb] at h;refine bC rfl (p7 C.bool (?_:false=_))
  symm
  exact decide_eq_false fun q=>h (by have:=q.length_le;omega)
theorem Sk (n:Nat) (b:n<=4611686018427387904):CallsT PZ 23 [IC n] [] (iK [] (IC ((n+31) / 32:Nat))):=by
 refine au Tryd.func23 J9 rfl fun a _=>?_;refine Fit.Wk (by omega) (by omega) ?_;refine mT.mk (by omega) ?_;refine Fit.to (m:=(((n+31) / 32:Nat):Int)) (by show IntKind.wrap .i64 (((n+31) / 32:Nat):Int)=_;exact bM (by omega) (by omega)) ?_;exact bC rfl rfl
def ct (b:List UInt8) (i:Nat):List UInt8:=(b.drop (32*i)).take 32
theorem Lu (b:List UInt8) (i:Nat):((af b).drop (min (32*i) b.length)).take (min (32*i+32) b.length-min (32*i) b.length)=af (ct b i):=by
 rw[gq];congr 1;unfold ct
 by_cases h:32*i<=b.length
 ·rw[Nat.min_eq_left h]
  by_cases a:32*i+32<=b.length
  ·rw[Nat.min_eq_left a];congr 1;omega
  ·rw[Nat.min_eq_right (by omega),XO (by simp),XO (by simp;omega)]
 ·have e:min (32*i) b.length=b.length:=Nat.min_eq_right (by omega);rw[e,List.drop_eq_nil_of_le (Xn b.length),List.drop_eq_nil_of_le (by omega:b.length<=32*i)];simp
theorem RI (b:List UInt8) (i:Nat) (hi:i<=1125899906842624):CallsT PZ 25 [.sl (af b),IC i] [] (iK [] (.sl (af (ct b i)))):=by
 refine au Tryd.func25 DF rfl fun h _=>?_;have hb:(af b).length=b.length:=aK;have k:=uT h.1;have a:(if((af b).length:Int)<32*(i:Int) then((af b).length:Int) else 32*(i:Int))=((min (32*i) b.length:Nat):Int):=by
  rw[hb];split<;>omega
 have c:(if((af b).length:Int)<32*(i:Int)+32 then((af b).length:Int) else 32*(i:Int)+32)=((min (32*i+32) b.length:Nat):Int):=by
  rw[hb];split<;>omega
 have e:0<=(if((af b).length:Int)<32*(i:Int) then((af b).length:Int) else 32*(i:Int)):=by rw[a];omega
 have d:(if((af b).length:Int)<32*(i:Int) then((af b).length:Int) else 32*(i:Int))<=(if((af b).length:Int)<32*(i:Int)+32 then((af b).length:Int) else 32*(i:Int)+32):=by rw[a,c];omega
 have f:(if((af b).length:Int)<32*(i:Int)+32 then((af b).length:Int) else 32*(i:Int)+32)<=((af b).length:Int):=by rw[c,hb];omega
 have j:((af b).drop (if((af b).length:Int)<32*(i:Int) then((af b).length:Int) else 32*(i:Int)).toNat).take ((if((af b).length:Int)<32*(i:Int)+32 then((af b).length:Int) else 32*(i:Int)+32).toNat-(if((af b).length:Int)<32*(i:Int) then((af b).length:Int) else 32*(i:Int)).toNat)=af (ct b i):=by
  rw[a,c];exact Lu b i
 have wf:∀n:Nat,n<=b.length->(Lit.int .i64 (n:Int)).wf=true:=by
  intro n l;simp[Lit.wf,IntKind.min,IntKind.max,IntKind.bits,IntKind.signed];omega
 refine Fit.Wk (by omega) (by omega) ?_;refine⟨(p7 (fun q=>(Lit.int .i64 q).wf) a).trans (wf _ (Nat.min_le_right _ _)),?_⟩;refine Fit.Wk (by omega) (by omega) ?_;refine Fit.Wk (by omega) (by omega) ?_;refine⟨(p7 (fun q=>(Lit.int .i64 q).wf) c).trans (wf _ (Nat.min_le_right _ _)),?_⟩;refine AZ.mk e d f fA ?_;exact bC rfl (p7 C.sl j)
end Go.Fr.Tryd
namespace Go.Fr.Tryd
open Go Go.RowKit Go.Proofs Go.Fr Go.Fr.T Go.Fr.Api
theorem Me:∀{bs:List Own}{n:Nat},Cc bs [n]->∃g t cs,bs=[.box g (t+1) cs]/\cs.length=n
 | [],_,h=>h.elim
 | [o],n,h=>by
  cases o with
  | row=>exact h.1.elim
  | box g t cs =>
   cases t with
   | zero=>exact h.1.elim
   | succ t=>exact⟨g,t,cs,rfl,h.1⟩
 | _::_::_,_,h=>h.2.elim
theorem oL.mono {P:Program}{H:Nat}{PS PS':Value->Prop}{ns:List Nat}{out:Value->List (List Value)}(h:oL P H PS ns out) (b:∀v,PS' v->PS v):oL P H PS' ns out :=
 ⟨h.inv,h.idle,fun F bs v a w c=>h.caught F bs v a w (b v c)⟩
def Ic (v:Value):List (List Value):=[[.bool false]]
theorem NM (bs:List Own) (w:World) (hb:Cc bs [1]):CallsD PZ 40 (bs.map mG).toArray .returning w fun e d w'=>e=.returned (.tuple #[])/\d=.returning/\w'=w:=by
 have c:Tryd.f40.ntmps=15:=by kernel_rfl
 have f:Tryd.f40.results=#[]:=by kernel_rfl
 obtain⟨g,t,cs,rfl,_⟩:=Me hb;refine callsD_of_wpS Tryd.func40 rfl fun a cs b=>?_;apply wpS_seq;apply wpS_region;simp[wpOpsS,go_sem,recoverD,b,c,Exit.thenS,mG];apply wpS_seq;apply wpS_region;simp[wpOpsS,go_sem,Exit.thenS];refine wpS_cond (t:=false) (by simp[Act.eval,Array.replicate]) ?_;simp only[Xd,XC];refine wpS_of_wp (wp_skip ?_);cases a
 simp_all [bodyPostS,results]
theorem u7:oL PZ 40 (fun v=>v=eS) [1] Ic:=by
 refine zT Tryd.func40 Kq rfl NM ?_;rintro F bs v rfl hb;obtain⟨g,t,cs,rfl,b⟩:=Me hb
 match cs,b with
 | [a],_ =>
  (try intro d)<;>(try intro c)<;>exact rfl
def uF (a c:List (List C)) (b:Int) (x:Wd):List C:=.sl a::.sl c::IC b::N9 x
section
variable {L:TL}{ρ:aT}
theorem Ah (ks:List Nat) {f:Nat}{args a:List C}{K:TL->aT->C->Prop}{R:List TO->C->Prop}{Lin Lin':List TO}(h:CallsT PZ f a Lin' R) (m:L.sub ks=some Lin)
  (d:(T.bE ks&&T.lm L ks ks&&aQ Lin ks ks)=true) (e:(args.map fun c=>c.Wo.ren (cj ks 1000))=a) (j:Lin.map (TO.Wj (C.ren (cj ks 1000)))=Lin')
  (k:∀v Mo,R Mo v->Wf v->(∀o∈Mo,o.Wf)->ks.length=Mo.length/\K (((L.Wi ks).kills (rowsOf L ks)).puts ks (Mo.map (TO.Wj (C.ren (aW ks))))) (eI (rowsOf L ks) ρ) (v.ren (aW ks)).slt):pL PZ f args L ρ K:=by
 subst e j;simp only[W6] at d;obtain⟨⟨b,l⟩,c3⟩:=d;exact .mk ⟨[],ks,ks,L,Lin,_,.inl rfl,m,b,b,l,c3,h,k⟩
end
def EB (bs:List UInt8):List TO:=[.box 60 [.own 1001 0],.box 66 [.rw 1002,IC 0,.int .i8 0],.row 5 1 (af bs)]
theorem t32 (b d:List (List C)) (f:Int) (x:Wd) (j:FM x) (bs:List UInt8) (hb:bs.length+(uo kW x).1.length<=70368744177664) :
  CallsTX PZ 32 [.own 1000 0,.pt (uF b d f x) 0] (EB bs) (fun Mo c=>(uo kW x).2=true/\Mo=EB (bs++(uo kW x).1)/\c=.tup []) (fun v=>v=eS/\(uo kW x).2=false):=by
 have a:=Po Ru b d f x j bs hb;generalize uo kW x=e at a ⊢;obtain⟨o,p⟩:=e;unfold uF;generalize l:(.sl b::.sl d::IC f::N9 x:List C)=es at a ⊢;refine ai Tryd.func32 Ki rfl fun n m=>?_;refine bO [1001,1002] a rfl rfl rfl rfl (fun v h=>h) ?_;rintro v Mo ⟨k,rfl,rfl⟩ _ _;refine⟨rfl,?_⟩;exact cR [1000,1001,1002] rfl rfl rfl rfl ⟨k,rfl,rfl⟩
end Go.Fr.Tryd
