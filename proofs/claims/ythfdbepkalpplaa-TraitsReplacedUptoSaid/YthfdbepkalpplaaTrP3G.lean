/- Part of the proofs of the statements of this seat. -/
import Derived.Test.YthfdbepkalpplaaTrR2G
import Derived.Test.YthfdbepkalpplaaFW3
import Derived.Test.YthfdbepkalpplaaTrO2G
import Derived.Test.YthfdbepkalpplaaUnM6G
set_option maxRecDepth 10000
set_option linter.unusedVariables false
set_option linter.unusedSimpArgs false
namespace Go.Fr.Try
open Go Go.RowKit Go.Proofs Go.Fr Go.Fr.T Go.Fr.Api
def vA (p:Prog) (x:Impl):Bool:=eC x.trait p.traits.length&&(!decide (x.module<0)&&(!decide (x.params<0)&&(!decide (x.params>4)&&(je x.type&&jg p x.params x.type))))
theorem ZH (p:Prog) (x:Impl) (V v3:Bool) (u:Int->Bool) (l:aS->Bool) (e3:jg p x.params x.type=v3)
  (ac:CallsT P 72 [nD p,IC x.params,aK x.type] [] (aQ [] (.bool v3)))
  (aa:∀k:Int,CallsT P 73 [IC k,aK x.type] [] (aQ [] (.bool (u k))))
  (hb:0<=x.params->∀b,l b=!(eC b.param x.params.toNat&&eC b.trait p.traits.length))
  (o:vA p x=false->V=false) (v:vA p x=true->∀k:Int,0<=k->k<x.params->u k=false->V=false)
  (s:vA p x=true->(∀k:Int,0<=k->k<x.params->u k=true)->V=!x.bounds.any l) :
  CallsT P 31 [nD p,Aw x] [] (aQ [] (.bool V)):=by
 have t:=t17 x.type;have d:vA p x=(eC x.trait p.traits.length&&(!decide (x.module<0)&&(!decide (x.params<0)&&(!decide (x.params>4)&&(je x.type&&v3))))):=by rw[<-e3];rfl
 generalize je x.type=v2 at t d;generalize vA p x=pre at d o v s;have i1:∀(a:Int) (n:Nat),¬a<0->¬a>=n->eC a n=true:=fun a n h1 h2=>dN.2 ⟨by omega,by omega⟩;have i2:∀(a:Int) (n:Nat),(a<0\/a>=n)->eC a n=false:=fun a n h=>by
  rw[<-acj,dN];omega
 have w:(Mq p.traits).length=p.traits.length:=by simp[Mq]
 have r:(x.bounds.map aV).length=x.bounds.length:=vz _;refine af Try.func31 PA rfl fun hw _=>?_;have ag:x.bounds.length<=9223372036854775807:=by have:=gJ hw.2.1.2.2.2.1;rwa [r] at this
 refine ah (fun q=>ay rfl (vv C.bool (o (by rw[d,i2 _ _ (.inl q)];rfl)).symm)) (fun q1=>?_);refine ah (fun q=>ay rfl (vv C.bool (o (by rw[d,i2 _ _ (.inr (by rw[<-w];exact q))];rfl)).symm)) (fun q2=>?_);have q2:¬x.trait>=p.traits.length:=by rw[<-w];exact q2
 have d:=d;rw[i1 _ _ q1 q2,aa7] at d;refine ah (fun q=>ay rfl (vv C.bool (o (by rw[d,aa2 (show x.module<0 from q)];rfl)).symm)) (fun q3=>?_);rw[aa3 (show¬x.module<0 from q3),ach,aa7] at d;refine ah (fun q=>ay rfl (vv C.bool (o (by rw[d,aa2 (show x.params<0 from q)];rfl)).symm)) (fun y=>?_);have y:¬x.params<0:=y;rw[aa3 y,ach,aa7] at d;refine ah (fun q=>ay rfl (vv C.bool (o (by rw[d,aa2 (show x.params>4 from q)];rfl)).symm)) (fun z=>?_);have z:¬x.params>4:=z;rw[aa3 z,ach,aa7] at d;refine aF t rfl fun _=>?_;refine aq (fun q=>?_) (fun q6=>?_)
 ·exact ay rfl (vv C.bool (o (by rw[d,show v2=false by simpa using q];rfl)).symm)
 rw[show v2=true by simpa using q6,aa7] at d;refine aF ac rfl fun _=>?_;refine aq (fun q=>?_) (fun q7=>?_)
 ·exact ay rfl (vv C.bool (o (by rw[d,show v3=false by simpa using q])).symm)
 have d:pre=true:=by rw[d];simpa using q7
 have v:=v d;have s:=s d;have hb:=hb (by omega);refine bA x.params.toNat 5 [] () (fun _=>[]) (fun _=>[]) (fun k _=>∀i:Int,0<=i->i<k->u i=true) (fun i h1 h2=>o5 h2 (by omega)) (aj rfl) trivial trivial (fun _=>rfl) (fun _=>rfl) ?_;rintro k _ hk m _ _ _;refine ah (fun e=>?_) (fun f=>?_)
 ·have e:(k:Int)<x.params:=e;refine aF (aa k) rfl fun _=>?_;refine aq (fun q=>?_) (fun q=>?_)
  ·exact ay rfl (vv C.bool (v k (by omega) e (by simpa using q)).symm)
  ·refine Fit.aar (by omega) (by omega) ?_;refine⟨(k+1,()),⟨by omega,fun i h1 h2=>?_⟩,⟨aZ,trivial⟩,trivial,by show x.params.toNat-(k+1)<x.params.toNat-k;omega⟩
   by_cases hi:i=k
   ·rw[hi];simpa using q
   ·exact m i h1 (by have:i<((k+1:Nat):Int):=h2;omega)
 ·have f:¬(k:Int)<x.params:=f;have s:=s fun i h1 h2=>m i h1 (by omega);refine bA x.bounds.length 6 [] () (fun _=>[]) (fun _=>[]) (fun k _=>(!(x.bounds.drop k).any l)=V) s.symm (aj rfl) trivial trivial (fun _=>rfl) (fun _=>rfl) ?_;rintro j _ hj c _ _ _;have c:(!(x.bounds.drop j).any l)=V:=c;refine ah (fun e=>?_) (fun f=>?_)
  ·have e:j<x.bounds.length:=by rw[r] at e;omega
   refine aX e fun b ab av ae=>?_;rw[ae,abQ,hb] at c;refine wZ (by omega) (show x.bounds[((j:Int)).toNat]?=some b from ab) ?_;refine ah (fun q=>?_) (fun r1=>?_)
   ·rw[i2 b.param _ (.inl q)] at c;exact ay rfl (vv C.bool c)
   refine ah (fun q=>?_) (fun r2=>?_)
   ·rw[i2 b.param _ (.inr (show b.param>=((x.params.toNat:Nat):Int) by have:b.param>=x.params:=q;omega))] at c;exact ay rfl (vv C.bool c)
   rw[i1 b.param x.params.toNat r1 (by have:¬b.param>=x.params:=r2;omega)] at c;refine ah (fun q=>?_) (fun r3=>?_)
   ·rw[i2 b.trait _ (.inl q)] at c;exact ay rfl (vv C.bool c)
   refine ah (fun q=>?_) (fun r4=>?_)
   ·rw[i2 b.trait _ (.inr (by rw[<-w];exact q))] at c;exact ay rfl (vv C.bool c)
   rw[i1 b.trait p.traits.length r3 (by rw[<-w];exact r4)] at c;refine Fit.aar (by omega) (by omega) ?_;exact⟨(j+1,()),⟨e,c⟩,⟨aZ,trivial⟩,trivial,bf e⟩
  ·have f:¬j<x.bounds.length:=by rw[r] at f;omega
   rw[bU f] at c;exact ay rfl (vv C.bool c)
theorem Ab (ds:List Api.Data) (n:Nat):∀(t:Ty) (o:List Bool),wT ds n t=true->o.length=n->∀k:Nat,k<n->(mark t o)[k]?=some (rB k t||(o[k]?).getD false):=cL (p:=fun t=>∀o:List Bool,wT ds n t=true->o.length=n->∀k:Nat,k<n->(mark t o)[k]?=some (rB k t||(o[k]?).getD false)) fun t u o j f k m=>by
 have r:∀(l:List Ty),(∀x∈l,∀o:List Bool,wT ds n x=true->o.length=n->∀k:Nat,k<n->(mark x o)[k]?=some (rB k x||(o[k]?).getD false))->(∀x∈l,wT ds n x=true)->∀o:List Bool,o.length=n->(oV l o)[k]?=some (l.any (rB k)||(o[k]?).getD false):=by
  intro l
  induction l with
  | nil =>
   intro _ _ o f;rw[oV];obtain⟨b,hb⟩:=fK (l:=o) (k:=k) (by omega);rw[hb];rfl
  | cons x l h =>
   intro h1 h2 o f;rw[oV,h (fun y d=>h1 y (.tail _ d)) (fun y d=>h2 y (.tail _ d)) _ (by rw[ru,f]),h1 x (.head _) o (h2 x (.head _)) f k m,abQ];cases l.any (rB k)<;>cases rB k x<;>simp
 rw[mark_eq,vw]
 by_cases h5:t.kind=5
 ·obtain⟨a,b,c⟩:=vg j h5;rw[eu h5,eu h5,c,oV,List.getElem?_set];have v:t.id.toNat<o.length:=by omega
  by_cases e:t.id.toNat=k
  ·rw[eu e,eu v,aa2 (by omega),Bool.true_or]
  ·obtain⟨y,d⟩:=fK (l:=o) (k:=k) (by omega);rw[fo e,aa3 (by omega),d];rfl
 ·obtain⟨_,_,_,q⟩:=vh j h5;rw[fo h5,fo h5];exact r t.args u (fun x s=>(q x s).2) o f
theorem t31 (p:Prog) (x:Impl):CallsT P 31 [nD p,Aw x] [] (aQ [] (.bool (gY p x))):=by
 have n:vA p x=false->gY p x=false:=fun h=>by
  unfold vA at h;unfold gY;have:jg p x.params x.type=true->decide (x.params<0)=false/\decide (x.params>4)=false:=fun r=>by
   obtain⟨a,b,_⟩:=rA r;exact⟨aa3 (by omega),aa3 (by omega)⟩
  cases h1:eC x.trait p.traits.length<;>rw[h1] at h<;>cases h2:decide (x.module<0)<;>rw[h2] at h<;>cases h3:je x.type<;>rw[h3] at h<;>cases h4:jg p x.params x.type<;>rw[h4] at h<;>(try rfl);have:=this h4;rw[this.1,this.2] at h;cases h
 have f:vA p x=true->eC x.trait p.traits.length=true/\decide (x.module<0)=false/\je x.type=true/\jg p x.params x.type=true:=fun h=>by
  unfold vA at h;simp only[xo,Bool.not_eq_true'] at h;exact⟨h.1,h.2.1,h.2.2.2.2.1,h.2.2.2.2.2⟩
 refine ZH p x _ _ (fun k=>rB k x.type) (vu p x.params.toNat) rfl (t72 p x.params x.type) (fun k=>t73 k x.type) (fun _ b=>by unfold vu;rw[Bool.not_and]) n (fun h k h0 h1 u=>?_) fun h e=>?_
 ·obtain⟨a,b,c,d⟩:=f h;obtain⟨s,q,t,o⟩:=rA d;have:(mark x.type (List.replicate x.params.toNat false)).any (fun b=>!b)=true:=by
   have:=Ab p.datas x.params.toNat x.type (List.replicate x.params.toNat false) (by rw[show((x.params.toNat:Nat):Int)=x.params by omega];exact o) abD k.toNat (by omega);rw[show((k.toNat:Nat):Int)=k by omega,u,aci,eu (by omega)] at this;rw[ab0];exact⟨false,aa8 this,rfl⟩
  unfold gY;rw[this];simp
 ·obtain⟨a,b,c,d⟩:=f h;obtain⟨s,q,t,o⟩:=rA d;have:(mark x.type (List.replicate x.params.toNat false)).any (fun b=>!b)=false:=by
   rw[acf];intro b hb;obtain⟨k,j,l⟩:=List.mem_iff_getElem.1 hb;have m:k<x.params.toNat:=by rw[ru,abD] at j;exact j
   have:=Ab p.datas x.params.toNat x.type (List.replicate x.params.toNat false) (by rw[show((x.params.toNat:Nat):Int)=x.params by omega];exact o) abD k m;rw[e k (by omega) (by omega),aa4 j,l] at this;have:b=true:=by simpa using this
   rw[this];simp
  unfold gY;rw[a,b,c,d,this];simp
theorem Q0 (p:Prog) (x:Impl):(ownB p x=true↔x.type.kind=2/\0<=x.type.id/\x.type.id<p.datas.length/\(p.datas[x.type.id.toNat]?).map (·.module)=some x.module):=by
 unfold ownB;rw[xo,xo,dN,abf,abf];exact⟨fun⟨a,⟨b,c⟩,d⟩=>⟨a,b,c,d⟩,fun⟨a,b,c,d⟩=>⟨a,⟨b,c⟩,d⟩⟩
theorem Nw (p:Prog) (x:Impl):(Fb p x=true↔0<=x.trait/\x.trait<p.homes.length/\p.homes[x.trait.toNat]?=some x.module):=by
 unfold Fb;rw[xo,dN,abf];exact⟨fun⟨⟨a,b⟩,d⟩=>⟨a,b,d⟩,fun⟨a,b,d⟩=>⟨⟨a,b⟩,d⟩⟩
theorem Dr {b:Bool}{p:Prop}(h:b=true↔p):(p->b=true)/\(¬p->b=false):=⟨h.2,fun n=>by rw[<-acj];exact fun q=>n (h.1 q)⟩
theorem ZI (p:Prog) (x:Impl) (r m V:Bool) (h1:r=true↔0<=x.trait/\x.trait<p.homes.length/\p.homes[x.trait.toNat]?=some x.module)
  (h2:m=true↔x.type.kind=2/\0<=x.type.id/\x.type.id<p.datas.length/\(p.datas[x.type.id.toNat]?).map (·.module)=some x.module) (hV:(!r&&!m)=V):CallsT P 41 [nD p,Aw x] [] (aQ [] (.bool V)):=by
 obtain⟨a1,v⟩:=Dr h1;obtain⟨b1,o⟩:=Dr h2;have z:(uS p.homes).length=p.homes.length:=by simp[uS]
 have s:(p.datas.map lG).length=p.datas.length:=vz _;have n:∀q:Bool,r=false->m=q->(!q)=V:=fun q a b=>by rw[<-hV,a,b];rfl
 have k1:r=true->false=V:=fun a=>by rw[<-hV,a];rfl
 have hC:∀y,0<=x.trait->x.trait<p.homes.length->p.homes[x.trait.toNat]?=some y->r=decide (y=x.module):=fun y a b c=>by
  by_cases e:y=x.module
  ·rw[a1 ⟨a,b,by rw[c,e]⟩,aa2 e]
  ·rw[v (fun q=>e (abK (c.symm.trans q.2.2))),aa3 e]
 have hD:∀d:Api.Data,x.type.kind=2->0<=x.type.id->x.type.id<p.datas.length->p.datas[x.type.id.toNat]?=some d->m=decide (d.module=x.module):=fun d k a b c=>by
  by_cases e:d.module=x.module
  ·rw[b1 ⟨k,a,b,by rw[c,<-e];rfl⟩,aa2 e]
  ·rw[o (fun q=>e (by have:=q.2.2.2;rw[c] at this;exact abK this)),aa3 e]
 refine af Try.func41 PL rfl fun hw _=>?_;refine ah (fun u=>ah (fun t=>oP (fK (l:=p.homes) (k:=x.trait.toNat) (by have:x.trait<((uS p.homes).length:Int):=t;omega)) fun y w=>Sw u w ?_) (fun t=>?_)) (fun u=>?_)
 ·have h:=hC y u (by rw[<-z];exact t) w;refine ah (fun k=>ah (fun i0=>ah (fun i1=>oP (fK (l:=p.datas) (k:=x.type.id.toNat) (by have:x.type.id<((p.datas.map lG).length:Int):=i1;omega)) fun d hd=>Gs i0 hd ?_) (fun i1=>?_)) (fun i0=>?_)) (fun k=>?_)
  ·have f:=hD d k i0 (by rw[<-s];exact i1) hd;refine aT (fun j=>?_) (fun j=>?_)
   ·exact ay rfl (vv C.bool (n _ (by rw[h,aa3 (show¬y=x.module from j)]) f))
   ·exact ay rfl (vv C.bool (k1 (by rw[h,aa2 (show y=x.module from j)])))
  ·have f:m=false:=o fun q=>i1 (by rw[s];exact q.2.2.1);refine aT (fun j=>?_) (fun j=>?_)
   ·exact ay rfl (vv C.bool (n _ (by rw[h,aa3 (show¬y=x.module from j)]) f))
   ·exact ay rfl (vv C.bool (k1 (by rw[h,aa2 (show y=x.module from j)])))
  ·have f:m=false:=o fun q=>i0 q.2.1;refine aT (fun j=>?_) (fun j=>?_)
   ·exact ay rfl (vv C.bool (n _ (by rw[h,aa3 (show¬y=x.module from j)]) f))
   ·exact ay rfl (vv C.bool (k1 (by rw[h,aa2 (show y=x.module from j)])))
  ·have f:m=false:=o fun q=>k q.1;refine aT (fun j=>?_) (fun j=>?_)
   ·exact ay rfl (vv C.bool (n _ (by rw[h,aa3 (show¬y=x.module from j)]) f))
   ·exact ay rfl (vv C.bool (k1 (by rw[h,aa2 (show y=x.module from j)])))
 ·have h:r=false:=v fun q=>t (by rw[z];exact q.2.1);refine ah (fun k=>ah (fun i0=>ah (fun i1=>oP (fK (l:=p.datas) (k:=x.type.id.toNat) (by have:x.type.id<((p.datas.map lG).length:Int):=i1;omega)) fun d hd=>Gs i0 hd ?_) (fun i1=>?_)) (fun i0=>?_)) (fun k=>?_)
  ·have f:=hD d k i0 (by rw[<-s];exact i1) hd;exact ay rfl (vv C.bool (n _ h f))
  ·have f:m=false:=o fun q=>i1 (by rw[s];exact q.2.2.1);exact ay rfl (vv C.bool (n _ h f))
  ·have f:m=false:=o fun q=>i0 q.2.1;exact ay rfl (vv C.bool (n _ h f))
  ·have f:m=false:=o fun q=>k q.1;exact ay rfl (vv C.bool (n _ h f))
 ·have h:r=false:=v fun q=>u q.1;refine ah (fun k=>ah (fun i0=>ah (fun i1=>oP (fK (l:=p.datas) (k:=x.type.id.toNat) (by have:x.type.id<((p.datas.map lG).length:Int):=i1;omega)) fun d hd=>Gs i0 hd ?_) (fun i1=>?_)) (fun i0=>?_)) (fun k=>?_)
  ·have f:=hD d k i0 (by rw[<-s];exact i1) hd;exact ay rfl (vv C.bool (n _ h f))
  ·have f:m=false:=o fun q=>i1 (by rw[s];exact q.2.2.1);exact ay rfl (vv C.bool (n _ h f))
  ·have f:m=false:=o fun q=>i0 q.2.1;exact ay rfl (vv C.bool (n _ h f))
  ·have f:m=false:=o fun q=>k q.1;exact ay rfl (vv C.bool (n _ h f))
theorem t41 (p:Prog) (x:Impl):CallsT P 41 [nD p,Aw x] [] (aQ [] (.bool (Cg p x))):=ZI p x _ _ _ (Nw p x) (Q0 p x) rfl
theorem Un (t:Ty):CallsT P 12 [.sl [[IC t.kind,IC t.id,.sl (t.args.map aD)]]] [] (aQ [] (.bool (jd [t]))):=by
 have:=t12 [t];rw[abe,abX,iP] at this;exact this
def vB (p:Prog) (bs:List aS):Bool:=!decide (20<p.datas.length)&&(!decide (12<p.impls.length)&&(!decide (10<bs.length)&&p.impls.all fun x=>!decide (6<x.bounds.length)&&jd [x.type]))
theorem t30 (p:Prog) (bs:List aS):CallsT P 30 [nD p,.sl (bs.map aV)] [] (aQ [] (.bool (vB p bs))):=by
 have h12:=fun x:Impl=>Un x.type;have e:vB p bs=(!decide (20<p.datas.length)&&(!decide (12<p.impls.length)&&(!decide (10<bs.length)&&p.impls.all fun x=>!decide (6<x.bounds.length)&&jd [x.type]))):=rfl;have j:∀x:Impl,(fun x:Impl=>!decide (6<x.bounds.length)&&jd [x.type]) x=(!decide (6<x.bounds.length)&&jd [x.type]):=fun x=>rfl;generalize(fun x:Impl=>!decide (6<x.bounds.length)&&jd [x.type])=g at e j;generalize jd=sm at h12 j;generalize vB p bs=V at e ⊢;have y:(p.datas.map lG).length=p.datas.length:=vz _;have d:(p.impls.map dS).length=p.impls.length:=vz _;have w:(bs.map aV).length=bs.length:=vz _;have f:∀x:Impl,(x.bounds.map aV).length=x.bounds.length:=fun x=>vz _;refine af Try.func30 Pz rfl fun s _=>?_;have r:p.impls.length<=9223372036854775807:=by have:=gJ s.1.2.2.2.2.2.1;rwa [d] at this
 refine ah (fun q=>?_) (fun m=>?_)
 ·have q:((p.datas.map lG).length:Int)>20:=q;exact ay rfl (vv C.bool (by rw[e,aa2 (by omega)];rfl))
 have m:¬((p.datas.map lG).length:Int)>20:=m;refine ah (fun q=>?_) (fun n=>?_)
 ·have q:((p.impls.map dS).length:Int)>12:=q;exact ay rfl (vv C.bool (by rw[e,aa2 (show 12<p.impls.length by omega)];simp))
 have n:¬((p.impls.map dS).length:Int)>12:=n;refine ah (fun q=>?_) (fun l=>?_)
 ·have q:((bs.map aV).length:Int)>10:=q;exact ay rfl (vv C.bool (by rw[e,aa2 (show 10<bs.length by omega)];simp))
 have l:¬((bs.map aV).length:Int)>10:=l;have e:p.impls.all g=V:=by
  rw[e,aa3 (show¬20<p.datas.length by omega),aa3 (show¬12<p.impls.length by omega),aa3 (show¬10<bs.length by omega)];rfl
 refine bA p.impls.length 5 [] () (fun _=>[]) (fun _=>[]) (fun k _=>(p.impls.drop k).all g=V) e (aj rfl) trivial trivial (fun _=>rfl) (fun _=>rfl) ?_;rintro k _ v a _ _ _;have a:(p.impls.drop k).all g=V:=a;refine ah (fun b=>?_) (fun c=>?_)
 ·have b:k<p.impls.length:=by rw[d] at b;omega
  refine aX b fun x o t h=>?_;have u:=f x;rw[h,abu,j] at a;refine rq (by omega) (show p.impls[((k:Int)).toNat]?=some x from o) ?_;refine ah (fun q=>?_) (fun q=>?_)
  ·have q:((x.bounds.map aV).length:Int)>6:=q;rw[aa2 (show 6<x.bounds.length by omega)] at a;exact ay rfl (vv C.bool (by rw[<-a];rfl))
  have q:¬((x.bounds.map aV).length:Int)>6:=q;rw[aa3 (show¬6<x.bounds.length by omega),ach,aa7] at a;refine rq (by omega) (show p.impls[((k:Int)).toNat]?=some x from o) ?_;refine aF (h12 x) rfl fun _=>?_;refine aq (fun q=>?_) (fun q=>?_)
  ·rw[show sm [x.type]=false by simpa using q] at a;exact ay rfl (vv C.bool (by rw[<-a];rfl))
  rw[show sm [x.type]=true by simpa using q,aa7] at a;refine Fit.aar (by omega) (by omega) ?_;exact⟨(k+1,()),⟨b,a⟩,⟨aZ,trivial⟩,trivial,bf b⟩
 ·have c:¬k<p.impls.length:=by rw[d] at c;omega
  rw[bU c] at a;exact ay rfl (vv C.bool a)
structure ct where
 tr:Int
 t:Ty
def kH (g:ct):List C:=[IC g.tr,IC g.t.kind,IC g.t.id,.sl (g.t.args.map aD)]
inductive gR where
 | mk (assumed:Bool) (index:Int) (types:List Ty) (proofs:List gR)
def gR.assumed:gR->Bool | .mk b _ _ _=>b
def gR.index:gR->Int | .mk _ i _ _=>i
def gR.types:gR->List Ty | .mk _ _ l _=>l
def gR.proofs:gR->List gR | .mk _ _ _ l=>l
mutual
def iE:gR->List C
 | .mk b i l ps=>[.bool b,IC i,.sl (l.map aD),.sl (Q5 ps)]
def Q5:List gR->List (List C)
 | []=>[]
 | p::l=>iE p::Q5 l
end
theorem Ff:∀l:List gR,Q5 l=l.map iE
 | []=>rfl
 | p::l=>by rw[Q5,Ff l,abe]
theorem jz (p:gR):iE p=[.bool p.assumed,IC p.index,.sl (p.types.map aD),.sl (p.proofs.map iE)]:=by
 cases p;rw[iE,Ff];rfl
noncomputable def ig (h g:ct):Bool:=decide (h.tr=g.tr)&&Ar (h.t=g.t)
theorem t79 (h g:ct):CallsT P 79 [.agg (kH h),.pt (kH g) 0] [] (aQ [] (.bool (ig h g))):=by
 have a:=t80 h.t g.t;rw[qZ] at a;unfold ig;generalize Ar (h.t=g.t)=b at a ⊢;refine af Try.func79 Qc rfl fun c _=>?_;refine ah (fun q=>?_) (fun q=>?_)
 ·refine aF a rfl fun _=>?_;exact ay rfl (vv C.bool (by rw[aa2 (show h.tr=g.tr from q),aa7]))
 ·exact ay rfl (vv C.bool (by rw[aa3 (show¬h.tr=g.tr from q),abb]))
theorem Wn {l:List ct}{k:Nat}{x:ct}{K:List C->Prop}(a:l[k]?=some x) (h:K (kH x)):FU (l.map kH) k 0 4 K :=
 ⟨kH x,by rw[abk,a];rfl,rfl,h⟩
theorem Q6:vq Try.f101 0=true:=by kernel_rfl
theorem Uo:vq Try.f78 0=true:=by kernel_rfl
abbrev AU (gs:List ct):TO:=.row 110 4 (gs.map kH)
theorem ZJ (gs:List ct) (g:ct) (l:gs.length<=400):iB P 101 [.rw 1000,.fn 79 [] [.pt (kH g) 0]] [AU gs] (aQ [AU gs] (IC (bG (fun h=>ig h g) gs 0))):=by
 have c:=fun h=>t79 h g;generalize j:(fun h=>ig h g)=q;have c:∀h:ct,CallsT P 79 [.agg (kH h),.pt (kH g) 0] [] (aQ [] (.bool (q h))):=fun h=>by rw[<-j];exact c h
 have e:(gs.map kH).length=gs.length:=vz _;refine sO 0 (.rw 1000) Try.func101 LL rfl Q6 rfl rfl rfl fun r o=>?_;refine bA gs.length 8 [0] () (fun _=>[.rw 1000]) (fun _=>[(1000,AU gs)]) (fun k _=>bG q (gs.drop k) k=bG q gs 0) rfl (aj rfl) ⟨aj rfl,trivial⟩ ⟨.inl ⟨_,rfl,.inl ⟨rfl,rfl⟩⟩,trivial⟩ (fun _=>rfl) (fun _=>rfl) ?_;rintro k _ p a _ _ _;refine ah (fun b=>?_) (fun d=>?_)
 ·have b:k<gs.length:=by rw[e] at b;omega
  refine aX b fun x n m f=>?_;refine Ao.mk (by omega) (by omega) ?_;refine Wn n ?_;refine aF (c x) rfl fun _=>?_;refine aq (fun j=>?_) (fun j=>?_)
  ·exact Uk rfl rfl rfl rfl (vv IC (oZ f a j))
  ·refine Fit.aar (by omega) (by omega) ?_;exact⟨(k+1,()),⟨b,rz f a j⟩,⟨aZ,aj rfl,trivial⟩,⟨.inl ⟨_,rfl,.inl ⟨rfl,rfl⟩⟩,trivial⟩,bf b⟩
 ·have d:¬k<gs.length:=by rw[e] at d;omega
  exact Uk rfl rfl rfl rfl (vv IC (o4 d a))
theorem t78 (gs:List ct) (g:ct) (a:gs.length<=400):iB P 78 [.rw 1000,.fn 79 [] [.pt (kH g) 0]] [AU gs] (aQ [AU gs] (.bool (gs.any fun h=>ig h g))):=by
 have h1:=ZJ gs g a;have e:=r9 (fun h=>ig h g) gs;generalize bG (fun h=>ig h g) gs 0=n at h1 e;refine sO 0 (.rw 1000) Try.func78 Qb rfl Uo rfl rfl rfl fun b _=>?_;refine z7 [1000] h1 rfl rfl rfl rfl rfl ?_;exact Uk rfl rfl rfl rfl (vv C.bool e)
def lQ (g:ct) (b:aS):Bool:=decide (g.t.kind=5)&&(decide (b.param=g.t.id)&&decide (b.trait=g.tr))
theorem t82 (g:ct) (b:aS):CallsT P 82 [.agg (aV b),.pt (kH g) 0] [] (aQ [] (.bool (lQ g b))):=by
 unfold lQ;refine af Try.func82 Qe rfl fun a _=>?_;refine ah (fun q=>?_) (fun q=>?_)
 ·refine ay rfl (vv C.bool ?_);rw[aa2 (show g.t.kind=5 from q),aa7]
  first | rfl | trace_state
 ·exact ay rfl (vv C.bool (by rw[aa3 (show¬g.t.kind=5 from q),abb]))
noncomputable def vC:Code:=Try.f77.body.getD .skip
noncomputable def kq0:Code:=xD vC
noncomputable def kq1:Code:=xD (gk vC)
noncomputable def kq2:Code:=xD (gk (gk vC))
noncomputable def kq4:Code:=xD (gk (gk (gk vC)))
noncomputable def kq6:Code:=xD (gk (gk (gk (gk vC))))
noncomputable def kq7:Code:=xD (gk (gk (gk (gk (gk vC)))))
noncomputable def kq9:Code:=xD (gk (gk (gk (gk (gk (gk vC))))))
noncomputable def kqB:Code:=gk (gk (gk (gk (gk (gk (gk (gk vC)))))))
noncomputable def ZK:Code:=xD (gk (gk (gk (gk (gk (gk (gk vC)))))))
theorem Fg:Try.f77.body=some (kq0.seq (kq1.seq (kq2.seq (kq4.seq (kq6.seq (kq7.seq (kq9.seq (ZK.seq kqB)))))))):=by kernel_rfl
def Q7:cJ:={n:=97,own:=[6],frz:=[(26,0,[91])],ord:=[(24,[0,1,2,3,4,5,6,7,8,9,10,11],[[],[0],[],[],[3],[],[3,4,5],[2,3,4,5,6],[2,3,4,5,6,7],[0,1,2,3,4,5,6,7,8],[0,1,2,3,4,5,6,7,8,9],[0,1,2,3,4,5,6,7,8,9,10]])],pan:=[(3,1),(5,1),(28,1)],px:=[89],bk:=[(82,13)]}
def zq0:ax:=(.reg [.op (some 6) (.boxF 110 (.t 0)) none,
  .op (some 7) (.alloc 64 [(.bool false),(.int .i64 0),(.slice none 0 0),(.slice none 0 0)]) none])
def ZL:ax:=(.reg [.op (some 17) (.load false 1 (.t 1)) none,
  .op (some 18) (.bin .add (.t 17) (.c (.int .i64 1))) none,
  .op none (.store 1 (.t 1) (.t 18)) none])
def Xd:ax:=(.seq (.reg [.op (some 19) (.load false 1 (.t 1)) none,
  .op (some 20) (.bin .gtr (.t 19) (.c (.int .i64 400))) none])
 (.cond (.t 20)
 (.reg [.op (some 21) (.mkif 45 (.c (.int .i64 2))) none,
   .pc none (.pan (.t 21)) none])
 .skip))
def Wo:ax:=(.seq (.reg [.op (some 22) (.load false 1 (.t 2)) none,
  .op (some 23) (.mkfn 79 [] [(.t 6)]) none,
  .op (some 24) (.call 78 [(.t 22),(.t 23)]) none])
 (.cond (.t 24)
 (.reg [.op (some 25) (.mkif 45 (.c (.int .i64 15))) none,
   .pc none (.pan (.t 25)) none])
 .skip))
def UX:ax:=(.reg [.op (some 26) (.load false 1 (.t 3)) none,
  .op (some 27) (.mkfn 82 [] [(.t 6)]) none,
  .op (some 28) (.call 81 [(.t 26),(.t 27)]) none,
  .op (some 8) (.mov (.t 28)) none])
def Uq:ax:=(.seq (.reg [.op (some 29) (.mov (.t 8)) none,
  .op (some 30) (.bin .geq (.t 29) (.c (.int .i64 0))) none])
 (.cond (.t 30)
 (.seq (.reg [.op (some 31) (.mov (.t 8)) none,
   .op (some 32) (.build [(.bool false),(.int .i64 0),(.slice none 0 0),(.slice none 0 0)] [(0,1,(.c (.bool true))),(1,1,(.t 31))]) none,
   .op none (.store 4 (.t 7) (.t 32)) none])
  .ret)
 .skip))
def Sy:ax:=(.reg [.op (some 33) (.load false 1 (.t 2)) none,
  .op (some 34) (.load true 4 (.t 6)) none,
  .op (some 35) (.mkF 110 1 4 [(.t 34)]) none,
  .op (some 36) (.app 110 4 48 [(.int .i64 0),(.int .i64 0),(.int .i64 0),(.slice none 0 0)] (.t 33) (.t 35)) none,
  .op none (.store 1 (.t 2) (.t 36)) none])
def ZM:ax:=(.seq (.seq (.reg [.op (some 38) (.fieldA 5 (.t 4)) none,
  .op (some 39) (.load false 1 (.t 38)) none,
  .op (some 40) (.len (.t 39)) none,
  .op (some 41) (.mov (.c (.int .i64 0))) none])
 (.block 0
 (.loop [42,43,44,45,10,9,46,47,48,49,50,52,53,54,55,56,57,58,51,59,60,11,12,61,62,63,64,65,13,66,67,68,69,70,71,72,15,16,73,74,75,76,77,78,79,80,81,82,83,84,85,86,87,88,89,90,91,92,93,69,94,95,41]
  (.seq (.reg [.op (some 42) (.bin .lss (.t 41) (.t 40)) none])
   (.seq (.cond (.t 42)
   .skip
   (.exit 0))
   (.seq (.block 1
   (.seq (.reg [.op (some 43) (.mov (.t 41)) none,
     .op (some 44) (.idxA 8 (.t 39) (.t 41)) none,
     .op (some 45) (.load true 8 (.t 44)) none,
     .op (some 10) (.alloc 56 [(.int .i64 0),(.int .i64 0),(.int .i64 0),(.slice none 0 0),(.int .i64 0),(.int .i64 0),(.slice none 0 0),(.int .i64 0)]) none,
     .op (some 9) (.mov (.t 43)) none,
     .op none (.store 8 (.t 10) (.t 45)) none])
    (.seq (.seq (.reg [.op (some 46) (.fieldA 0 (.t 10)) none,
     .op (some 47) (.load false 1 (.t 46)) none,
     .op (some 48) (.fieldA 0 (.t 6)) none,
     .op (some 49) (.load false 1 (.t 48)) none,
     .op (some 50) (.bin .neq (.t 47) (.t 49)) none])
    (.cond (.t 50)
    (.exit 1)
    .skip))
    (.seq (.reg [.op (some 52) (.fieldA 4 (.t 10)) none,
     .op (some 53) (.load true 3 (.t 52)) none,
     .op (some 54) (.fieldA 1 (.t 6)) none,
     .op (some 55) (.load true 3 (.t 54)) none,
     .op (some 56) (.fieldA 2 (.t 10)) none,
     .op (some 57) (.load false 1 (.t 56)) none,
     .op (some 58) (.call 24 [(.t 53),(.t 55),(.t 57)]) none,
     .op (some 51) (.mov (.t 58)) none,
     .op (some 59) (.extr (.t 51) 0) none,
     .op (some 60) (.extr (.t 51) 1) none,
     .op (some 11) (.mov (.t 59)) none,
     .op (some 12) (.mov (.t 60)) none])
    (.seq (.seq (.reg [.op (some 61) (.mov (.t 12)) none,
     .op (some 62) (.un .not (.t 61)) none])
    (.cond (.t 62)
    (.exit 1)
    .skip))
    (.seq (.reg [.op (some 63) (.mov (.t 9)) none,
     .op (some 64) (.mov (.t 11)) none,
     .op (some 65) (.build [(.bool false),(.int .i64 0),(.slice none 0 0),(.slice none 0 0)] [(1,1,(.t 63)),(2,1,(.t 64))]) none,
     .op (some 13) (.alloc 64 [(.bool false),(.int .i64 0),(.slice none 0 0),(.slice none 0 0)]) none,
     .op none (.store 4 (.t 13) (.t 65)) none])
    (.seq (.seq (.reg [.op (some 66) (.fieldA 3 (.t 10)) none,
     .op (some 67) (.load false 1 (.t 66)) none,
     .op (some 68) (.len (.t 67)) none,
     .op (some 69) (.mov (.c (.int .i64 0))) none])
    (.block 2
    (.loop [70,71,72,15,16,73,74,75,76,77,78,79,80,81,82,83,84,85,86,87,88,89,90,91,92,93,69]
     (.seq (.reg [.op (some 70) (.bin .lss (.t 69) (.t 68)) none])
      (.seq (.cond (.t 70)
      .skip
      (.exit 2))
      (.seq (.block 3
      (.seq (.reg [.op (some 71) (.idxA 2 (.t 67) (.t 69)) none,
        .op (some 72) (.load true 2 (.t 71)) none,
        .op (some 15) (.alloc 72 [(.int .i64 0),(.int .i64 0)]) none,
        .op none (.store 2 (.t 15) (.t 72)) none])
       (.seq (.reg [.op (some 16) (.alloc 32 [(.int .i64 0),(.int .i64 0),(.slice none 0 0)]) none])
       (.seq (.seq (.reg [.op (some 73) (.mov (.t 11)) none,
        .op (some 74) (.fieldA 0 (.t 15)) none,
        .op (some 75) (.load false 1 (.t 74)) none,
        .op (some 76) (.call 84 [(.t 73),(.t 75)]) none])
       (.cond (.t 76)
       (.reg [.op (some 77) (.mov (.t 11)) none,
         .op (some 78) (.fieldA 0 (.t 15)) none,
         .op (some 79) (.load false 1 (.t 78)) none,
         .op (some 80) (.idxA 3 (.t 77) (.t 79)) none,
         .op (some 81) (.load true 3 (.t 80)) none,
         .op none (.store 3 (.t 16) (.t 81)) none])
       .skip))
       (.regX [.op (some 82) (.fieldA 3 (.t 13)) none,
        .op (some 83) (.loadK 13 false 1 (.t 82)) none,
        .op (some 84) (.loadD false 1 (.t 5)) none,
        .op (some 85) (.fieldA 1 (.t 15)) none,
        .op (some 86) (.loadD false 1 (.t 85)) none,
        .op (some 87) (.loadD true 3 (.t 16)) none,
        .op (some 88) (.build [(.int .i64 0),(.int .i64 0),(.int .i64 0),(.slice none 0 0)] [(0,1,(.t 86)),(1,3,(.t 87))]) none,
        .pc (some 89) (.callV (.t 84) [(.t 88)]) none,
        .op (some 90) (.mkFD 64 1 4 [(.t 89)]) none,
        .op (some 91) (.appD 64 4 64 [(.bool false),(.int .i64 0),(.slice none 0 0),(.slice none 0 0)] (.t 83) (.t 90)) none,
        .op (some 92) (.fieldA 3 (.t 13)) none,
        .op none (.storeD 1 (.t 92) (.t 91)) none])))))
      (.reg [.op (some 93) (.bin .add (.t 69) (.c (.int .i64 1))) none,
       .op (some 69) (.mov (.t 93)) none])))))))
    (.seq (.reg [.frz 91,
     .op (some 94) (.load true 4 (.t 13)) none,
     .op none (.store 4 (.t 7) (.t 94)) none])
    .ret))))))))
   (.reg [.op (some 95) (.bin .add (.t 41) (.c (.int .i64 1))) none,
    .op (some 41) (.mov (.t 95)) none])))))))
 (.reg [.op (some 96) (.mkif 45 (.c (.int .i64 9))) none,
  .pc none (.pan (.t 96)) none]))
theorem Wp:low Try.prog Q7 kq0=some zq0:=by kernel_rfl
theorem Wq:low Try.prog Q7 kq1=some ZL:=by kernel_rfl
theorem Wr:low Try.prog Q7 kq2=some Xd:=by kernel_rfl
theorem Ws:low Try.prog Q7 kq4=some Wo:=by kernel_rfl
theorem Wt:low Try.prog Q7 kq6=some UX:=by kernel_rfl
theorem Wu:low Try.prog Q7 kq7=some Uq:=by kernel_rfl
theorem Wv:low Try.prog Q7 kq9=some Sy:=by kernel_rfl
theorem Ww:low Try.prog Q7 kqB=some ZM:=by kernel_rfl
def iz (x:Impl) (t:Ty):List Ty×Bool:=if x.params<0\/x.params>4 then([],false) else zS x.params.toNat x.type t
def nB (g:ct):List Impl->Nat->Option (Nat×Impl×List Ty)
 | [],_=>none
 | x::l,k=>if x.trait=g.tr/\(iz x g.t).2=true then some (k,x,(iz x g.t).1) else nB g l (k+1)
def kT (ts:List Ty) (b:aS):ct:=⟨b.trait,if eC b.param ts.length then(ts[b.param.toNat]?).getD zT else zT⟩
abbrev qu:=Except Int gR×Int
def fQ (f:Int->ct->qu):List ct->Int->List gR->Except Int (List gR)×Int
 | [],c,a=>(.ok a,c)
 | g::gs,c,a=>match f c g with
  | (.ok r,b)=>fQ f gs b (a++[r])
  | (.error e,b)=>(.error e,b)
noncomputable def cN (p:Prog) (bs:List aS):Nat->List ct->Int->ct->qu
 | 0,_,c,_=>(.error 2,c+1)
 | n+1,b,c,g=>if c+1>400 then(.error 2,c+1) else if(b.any fun h=>ig h g)=true then(.error 15,c+1) else
  if bG (lQ g) bs 0>=0 then(.ok (.mk true (bG (lQ g) bs 0) [] []),c+1) else
  match nB g p.impls 0 with
  | none=>(.error 9,c+1)
  | some (k,x,ts)=>match fQ (cN p bs n (b++[g])) (x.bounds.map (kT ts)) (c+1) [] with
   | (.ok ps,a)=>(.ok (.mk false k ts ps),a)
   | (.error e,a)=>(.error e,a)
def Ac (e:Int):Value:=.iface 45 (.int .i64 e)
abbrev Wx (p:Prog) (bs:List aS):List C:=[.own 1000 0,.own 1001 0,.pt [.sl (bs.map aV)] 0,.pt (kG p) 0,.own 1002 0]
abbrev Nx (p:Prog) (bs:List aS):C:=.fn 77 [] (Wx p bs)
abbrev PB (p:Prog) (bs:List aS) (c:Int) (gs:List ct):List TO:=[.box 3 [IC c],.box 107 [.rw 1003],.box 108 [Nx p bs],AU gs]
abbrev AV (p:Prog) (bs:List aS) (g:ct):List C:=.agg (kH g)::Wx p bs
def RQ (p:Prog) (bs:List aS) (gs:List ct) (res:qu) (Mo:List TO) (v:C):Prop:=∃r a,res=(.ok r,a)/\Mo=PB p bs a gs/\v=.agg (iE r)
def PQ (p:Prog) (bs:List aS) (gs:List ct) (res:qu) (Mo:List TO) (v:Value):Prop:=∃e a,res=(.error e,a)/\Mo=PB p bs a gs/\v=Ac e
def Ur (p:Prog) (bs:List aS) (c:Int) (gs:List ct) (g:ct) (res:qu):Prop:=CallsTS P 77 (AV p bs g) (PB p bs c gs) (RQ p bs gs res) (PQ p bs gs res)
def AW (p:Prog) (bs:List aS) (gs:List ct) (res:qu) (M':TL) (v:Value):Prop:=∃Mo,M'.sub [1000,1001,1002,1003]=some Mo/\PQ p bs gs res Mo v
def MB (p:Prog) (bs:List aS) (c:Int) (gs:List ct):TL:=[(7,.box 64 [.bool false,IC 0,.nils,.nils]),(1000,.box 3 [IC c]),(1001,.box 107 [.rw 1003]),(1002,.box 108 [Nx p bs]),(1003,AU gs)]
def HB (p:Prog) (g:ct) (τ:aG):Prop:=τ 1=.own 1000 0/\τ 2=.own 1001 0/\τ 4=.pt (kG p) 0/\τ 5=.own 1002 0/\τ 6=.pt (kH g) 0/\τ 7=.own 7 0
abbrev zqA:ax:=.seq zq0 (.seq ZL (.seq Xd (.seq Wo (.seq UX (.seq Uq Sy)))))
theorem JQ (gs:List ct) (g:ct):gs.map kH++[[IC g.tr,IC g.t.kind,IC g.t.id,.sl (g.t.args.map aD)]]=(gs++[g]).map kH:=by rw[abC];rfl
theorem Wy (p:Prog) (bs:List aS) (c:Int) (gs:List ct) (g:ct) (res:qu) (n:0<=c/\c<=400) (o:(gs.length:Int)<=c)
  (h1:c+1>400->res=(.error 2,c+1)) (h2:¬c+1>400->(gs.any fun h=>ig h g)=true->res=(.error 15,c+1))
  (h3:¬c+1>400->(gs.any fun h=>ig h g)=false->bG (lQ g) bs 0>=0->res=(.ok (.mk true (bG (lQ g) bs 0) [] []),c+1)) :
  evalTC P ⟨fun _=>True,[],some (AW p bs gs res)⟩ zqA (fun _ _ _=>False) (fun L ρ=>hU L ρ [(7,some (true,4))] fun m=>fe (PB p bs c gs) L (gZ m) (RQ p bs gs res))
   (fun M τ=>(c+1<=400/\(gs.any fun h=>ig h g)=false/\¬bG (lQ g) bs 0>=0)/\M=MB p bs (c+1) (gs++[g])/\HB p g τ) (cT (PB p bs c gs)) (ku 0 (AV p bs g)):=by
 have a:=t78 gs g (by omega);have d:=QX g.tr g.t bs (lQ g) fun b _=>t82 g b;have j:=JQ gs g;generalize(gs.any fun h=>ig h g)=an at a h2 h3 ⊢;generalize bG (lQ g) bs 0=ix at d h3 ⊢;have k:(gs.map kH).length=gs.length:=vz _;refine Fit.aar (by omega) (by omega) ?_;refine ah (fun q=>?_) (fun e=>?_)
 ·exact⟨Ac 2,rfl,rfl,trivial,_,rfl,2,c+1,h1 q,rfl,rfl⟩
 have e:¬c+1>400:=e;refine z7 [1003] a rfl rfl rfl rfl rfl ?_;refine Cb (fun f=>?_) (fun f=>?_)
 ·exact⟨Ac 15,rfl,rfl,trivial,_,rfl,15,c+1,h2 e f,rfl,rfl⟩
 refine aF d rfl fun _=>?_;refine ah (fun l=>?_) (fun l=>?_)
 ·exact qa [1000,1001,1002,1003] rfl rfl rfl rfl ⟨_,_,h3 e f l,rfl,by rw[jz];rfl⟩
 refine jN gs.length rfl k (by decide) (by omega) ?_;exact⟨⟨by omega,f,l⟩,vv (fun r=>([(7,.box 64 [.bool false,IC 0,.nils,.nils]),(1000,.box 3 [IC (c+1)]),(1001,.box 107 [.rw 1003]),(1002,.box 108 [Nx p bs]),(1003,.row 110 4 r)]:TL)) j,rfl,rfl,rfl,rfl,rfl,rfl⟩
theorem wD {n:Int}{x y:Ty}{l a:List Ty}{m c:TM}(h:nG n (x::l) (y::a) m=(c,true)):∃m1,j9 n x y m=(m1,true)/\nG n l a m1=(c,true):=by
 rw[nG] at h;cases hf:j9 n x y m with
 | mk m1 b =>
  rw[hf] at h;cases b with
  | true=>exact⟨m1,rfl,h⟩
  | false=>cases h
def Q8 (m a:TM):Prop:=∀i x,bw m i=some x->bw a i=some x
theorem Q8.set {m:TM}{i:Int}{x:Ty}(h:bw m i=none):Q8 m (eX m i x):=fun j y a=>by
 rw[iQ];split
 ·rename_i e;rw[e,h] at a;cases a
 ·exact a
theorem Ny (n:Int):∀(p t:Ty) (m a:TM),j9 n p t m=(a,true)->Q8 m a:=fun p=>cL (p:=fun p=>∀(t:Ty) (m a:TM),j9 n p t m=(a,true)->Q8 m a) (fun p j t m a h=>by
 have c:∀(l:List Ty),(∀x∈l,∀(t:Ty) (m a:TM),j9 n x t m=(a,true)->Q8 m a)->∀(b:List Ty) (m a:TM),nG n l b m=(a,true)->Q8 m a:=by
  intro l
  induction l with
  | nil=>intro _ b m a h;rw[nG] at h;injection h with h _;subst h;exact fun i x h=>h
  | cons x l d =>
   intro e b m a h;cases b with
   | nil=>rw[nG] at h;injection h with _ h;cases h
   | cons y b =>
    obtain⟨m1,h1,h2⟩:=wD h;exact fun i z c=>d (fun z c=>e z (by simp[c])) b m1 a h2 i z (e x (by simp) y m m1 h1 i z c)
 rw[u4,Jy] at h;split at h
 ·split at h
  ·cases h
  ·split at h
   ·injection h with h _;subst h;exact fun i x h=>h
   ·rename_i f;injection h with h _;subst h;exact Q8.set f
 ·split at h
  ·split at h
   ·exact c p.args j t.args m a h
   ·cases h
  ·cases h) p
theorem JR (n:Nat) (out:List Ty) (u:out.length=n):∀(p t:Ty) (m a:TM),j9 n p t m=(a,true)->(∀(i:Int) (x:Ty),0<=i->bw a i=some x->out[i.toNat]?=some x)->subst out p=t:=fun p=>cL (p:=fun p=>∀(t:Ty) (m a:TM),j9 n p t m=(a,true)->(∀(i:Int) (x:Ty),0<=i->bw a i=some x->out[i.toNat]?=some x)->subst out p=t) (fun p r t m a h c=>by
 have e:∀(l:List Ty),(∀x∈l,∀(t:Ty) (m a:TM),j9 n x t m=(a,true)->(∀(i:Int) (x:Ty),0<=i->bw a i=some x->out[i.toNat]?=some x)->subst out x=t)->∀(b:List Ty) (m a:TM),l.length=b.length->nG n l b m=(a,true)->(∀(i:Int) (x:Ty),0<=i->bw a i=some x->out[i.toNat]?=some x)->l.map (subst out)=b:=by
  intro l
  induction l with
  | nil=>intro _ b m a f h c;exact(abO f.symm).symm
  | cons x l d =>
   intro j b m a f h c;cases b with
   | nil=>cases f
   | cons y b =>
    obtain⟨m1,h1,h2⟩:=wD h;have k:Q8 m1 a:=by
     have o:∀(l b:List Ty) (m a:TM),nG n l b m=(a,true)->Q8 m a:=by
      intro l
      induction l with
      | nil=>intro b m a h;rw[nG] at h;injection h with h _;subst h;exact fun i x h=>h
      | cons x l d =>
       intro b m a h;cases b with
       | nil=>rw[nG] at h;injection h with _ h;cases h
       | cons y b =>
        obtain⟨m1,h1,h2⟩:=wD h;exact fun i z e=>d b m1 a h2 i z (Ny n x y m m1 h1 i z e)
     exact o l b m1 a h2
    rw[abe,j x (by simp) y m m1 h1 (fun i z h0 e=>c i z h0 (k i z e)),d (fun z e=>j z (by simp[e])) b m1 a (by simpa using f) h2 c]
 rw[u4,Jy] at h;rw[subst_eq];split at h
 ·rename_i h5;split at h
  ·cases h
  ·rename_i s;rw[eu ⟨h5,by omega,by omega⟩];split at h
   ·rename_i x j;injection h with h1 h2
    subst h1;rw[c _ _ (by omega) j];exact(pX x t).1 h2
   ·injection h with h1 h2
    subst h1;rw[c p.id t (by omega) (by rw[iQ,eu rfl])];rfl
 ·rename_i h5;rw[fo fun q=>h5 q.1];split at h
  ·rename_i he;split at h
   ·rename_i f;exact uW he.1 he.2 (e p.args r t.args m a f h c)
   ·cases h
  ·cases h) p
theorem JS {n:Int}{p:Ty}(h:qY n p=true) (h5:p.kind=5):0<=p.id/\p.id<n/\p.args=[]:=by
 rw[zD,eu h5] at h;simp only[xo,abf] at h;exact⟨h.1.1,h.1.2,abO h.2⟩
theorem JT {n:Int}{p:Ty}(h:qY n p=true) (h5:¬p.kind=5):∀x∈p.args,qY n x=true:=by
 rw[zD,fo h5,abg] at h;exact h
def Fr (l:List Ty) (m:TM):Prop:=∀(i:Int) (x:Ty),bw m i=some x->l[i.toNat]?=some x
def Kn (m a:TM) (q:Int->Bool):Prop:=∀i,bw a i≠none↔(bw m i≠none\/q i=true)
theorem Nz (l:List Ty):∀p:Ty,qY l.length p=true->∀m,Fr l m->∃b,j9 l.length p (subst l p) m=(b,true)/\Fr l b/\Kn m b (fun i=>hasB i p):=cL fun p w hb m f=>by
 have o:∀(a:List Ty),(∀x∈a,∀m,Fr l m->∃b,j9 l.length x (subst l x) m=(b,true)/\Fr l b/\Kn m b (fun i=>hasB i x))->∀m,Fr l m->∃b,nG l.length a (a.map (subst l)) m=(b,true)/\Fr l b/\Kn m b (fun i=>a.any (hasB i)):=by
  intro a
  induction a with
  | nil=>exact fun _ m f=>⟨m,by rw[nG],f,fun i=>by simp⟩
  | cons x a n =>
   intro d m f;obtain⟨m1,h1,h2,h3⟩:=d x (by simp) m f;obtain⟨m2,h4,h5,h6⟩:=n (fun z o=>d z (by simp[o])) m1 h2;refine⟨m2,by rw[abe,nG,h1];exact h4,h5,fun i=>?_⟩;have a6:bw m2 i≠none↔(bw m1 i≠none\/a.any (hasB i)=true):=h6 i;have r:bw m1 i≠none↔(bw m i≠none\/hasB i x=true):=h3 i;show bw m2 i≠none↔(bw m i≠none\/(x::a).any (hasB i)=true);rw[a6,r,abQ,abH,or_assoc]
 rw[u4,Jy]
 by_cases h5:p.kind=5
 ·obtain⟨t,v,u⟩:=JS hb h5;obtain⟨x,d⟩:=fK (l:=l) (k:=p.id.toNat) (by omega);have c:subst l p=x:=by rw[subst_eq,eu ⟨h5,t,v⟩,d];rfl
  have h:∀i,hasB i p=decide (p.id=i):=fun i=>by
   rw[C3,u,List.any_nil]
   by_cases e:p.id=i
   ·rw[eu ⟨h5,e⟩,aa2 e]
   ·rw[fo fun q=>e q.2,aa3 e]
  rw[eu h5,fo (by omega),c];cases s:bw m p.id with
  | some y =>
   have e:=f _ _ s;rw[d] at e;injection e with e
   subst e;refine⟨m,by simp only;rw[(pX x x).2 rfl],f,fun i=>?_⟩;show bw m i≠none↔(bw m i≠none\/hasB i p=true);rw[h];constructor
   ·exact fun q=>.inl q
   ·rintro(q | q)
    ·exact q
    ·have q:=abJ q;rw[<-q,s];simp
  | none =>
   refine⟨eX m p.id x,rfl,fun i y j=>?_,fun i=>?_⟩
   ·rw[iQ] at j;split at j
    ·rename_i e;injection j with j;rw[e,<-j];exact d
    ·exact f i y j
   ·show bw (eX m p.id x) i≠none↔(bw m i≠none\/hasB i p=true);rw[h,iQ]
    by_cases e:i=p.id
    ·rw[eu e,aa2 e.symm];simp
    ·rw[fo e,aa3 (fun q=>e q.symm)];simp
 ·have c:subst l p=.mk p.kind p.id (p.args.map (subst l)):=by rw[subst_eq,fo fun q=>h5 q.1]
  obtain⟨b,h1,h2,h3⟩:=o p.args (fun x d=>w x d (JT hb h5 x d)) m f;refine⟨b,?_,h2,fun i=>?_⟩
  ·rw[fo h5,c,eu ⟨rfl,rfl⟩,eu (by show p.args.length=(p.args.map _).length;rw[vz])];exact h1
  ·have r:bw b i≠none↔(bw m i≠none\/p.args.any (hasB i)=true):=h3 i;show bw b i≠none↔(bw m i≠none\/hasB i p=true);rw[r,C3,fo fun q=>h5 q.1]
theorem Ad {n:Nat}{m:TM}{i:Nat}(h:i<n):(lH n m)[i]?=some ((bw m (i:Int)).getD Ud):=by
 rw[lH,abk,List.getElem?_range h];rfl
theorem Fh {n:Nat}{p t:Ty}{m:TM}(h:j9 n p t []=(m,true)):(lH n m).length=n/\subst (lH n m) p=t:=by
 have b:(lH n m).length=n:=by simp[lH]
 refine⟨b,JR n _ b p t [] m h fun i x h0 c=>?_⟩;have a:=fit_keys n p t [] ⟨by simp,by simp⟩;rw[h] at a;have d:=a.1 _ (EV c);rw[Ad (by omega),show((i.toNat:Nat):Int)=i by omega,c];rfl
theorem Fj {l:List Ty}{p:Ty}(h:qY l.length p=true):∃m,j9 l.length p (subst l p) []=(m,true)/\∀i<l.length,(hasB i p=true->(lH l.length m)[i]?=l[i]?)/\(hasB i p=false->(lH l.length m)[i]?=some Ud):=by
 obtain⟨m,h1,h2,h3⟩:=Nz l p h [] fun i x q=>by cases q
 refine⟨m,h1,fun i hi=>⟨fun b=>?_,fun b=>?_⟩⟩
 ·have:=(h3 i).2 (.inr b);cases a:bw m (i:Int) with
  | none=>exact o5 a this
  | some x =>
   rw[Ad hi,a];have:=h2 _ _ a;rw[show((i:Int)).toNat=i by omega] at this;rw[this];rfl
 ·have:¬bw m (i:Int)≠none:=fun q=>by
   rcases(h3 i).1 q with q | q
   ·exact q rfl
   ·have q:hasB (i:Int) p=true:=q;rw[b] at q;cases q
  rw[Ad hi];cases a:bw m (i:Int) with
  | none=>rfl
  | some x=>rw[a] at this;exact o5 (by simp) this
theorem Fl {t:Ty}:je t=true↔1<=t.kind/\t.kind<=5:=by rw[je,xo,abf,abf]
theorem Us {ds:List Api.Data}{n:Int}{t:Ty}(h:wT ds n t=true) (a:je t=true) (h5:¬t.kind=5):∀x∈t.args,je x=true/\wT ds n x=true:=fun x b=>by
 obtain⟨_,_,_,c⟩:=vh h h5;obtain⟨h1,h2⟩:=c x b;have:=Fl.1 a;exact⟨h1.resolve_right fun q=>by omega,h2⟩
theorem qi {ds:List Api.Data}{n f:Int}:∀t:Ty,wT ds n t=true->je t=true->∃x,fresh n f t=some x:=cL fun t d h b=>by
 have j:=Fl.1 b;rw[lI]
 by_cases h5:t.kind=5
 ·obtain⟨h1,h2,h3⟩:=vg h h5;rw[fo (by rw[h3,ab1];omega),eu h5];exact⟨_,rfl⟩
 ·rw[fo (by omega),fo h5];have c:=Us h b h5;obtain⟨l,e⟩:=xV (f:=fresh n f) (l:=t.args) fun x a=>d x a (c x a).2 (c x a).1;rw[e];exact⟨_,rfl⟩
theorem si {n f m:Int}(hf:0<=f) (e:f+n<=m):∀t x:Ty,fresh n f t=some x->ins m x=true:=cL (p:=fun t=>∀x,fresh n f t=some x->ins m x=true) fun t d x h=>by
 rw[lI] at h;split at h
 ·cases h
 rename_i j;split at h
 ·injection h with h
  rw[<-h];exact wA (by omega) (by omega)
 rename_i h5;cases a:kx (fresh n f) t.args with
 | none=>rw[a] at h;cases h
 | some l =>
  rw[a] at h;injection h with h
  obtain⟨h1,h2⟩:=gM a;rw[<-h,qX];show(if t.kind<1\/9<t.kind then false else if t.kind=9 then _ else l.all (ins m))=true;rw[fo (by omega),fo (by omega),abg,h2];intro y c;obtain⟨z,b,rfl⟩:=abx.1 c;exact d z b _ (h1 z b)
theorem o6 {n f:Int}{u ts:List Ty}(hf:0<=f) (a:(ts.length:Int)=n) (c:∀i:Nat,i<ts.length->u[f.toNat+i]?=ts[i]?):∀t x:Ty,fresh n f t=some x->gs u x=subst ts t:=cL (p:=fun t=>∀x,fresh n f t=some x->gs u x=subst ts t) fun t d x h=>by
 rw[lI] at h;split at h
 ·cases h
 rename_i e;split at h
 ·rename_i h5;injection h with h
  rw[<-h,kS rfl,subst_eq,eu (by omega)];show(u[(f+t.id).toNat]?).getD _=_;rw[show(f+t.id).toNat=f.toNat+t.id.toNat by omega,c _ (by omega)]
 rename_i h5;cases a:kx (fresh n f) t.args with
 | none=>rw[a] at h;cases h
 | some l =>
  rw[a] at h;injection h with h
  obtain⟨h1,h2⟩:=gM a;rw[<-h,iR (by show¬t.kind=9;omega),subst_eq,fo (fun q=>h5 q.1)];show Ty.mk t.kind t.id (l.map (gs u))=_;rw[h2,ab4];exact vv _ (ab7 fun y b=>d y b _ (h1 y b))
def comm (a b:Impl):Prop:=∃c d:List Ty,(c.length:Int)=a.params/\(d.length:Int)=b.params/\subst c a.type=subst d b.type/\cg (subst c a.type)<=8/\(∀x∈c,cg x<=8)/\∀x∈d,cg x<=8
structure IV (p:Prog) (x:Impl):Prop where
 tr:0<=x.trait/\x.trait<p.traits.length
 sto:je x.type=true
 pos:0<=x.params/\x.params<=4
 dp:cg x.type<=8
 fm:wT p.datas x.params x.type=true
 occ:∀k:Nat,(k:Int)<x.params->rB k x.type=true
 bd:∀b∈x.bounds,0<=b.param/\b.param<x.params
theorem jO {p:Prog}{x:Impl}(h:gY p x=true):IV p x:=by
 unfold gY at h;simp only[xo,Bool.not_eq_true'] at h;obtain⟨⟨⟨⟨⟨h1,h2⟩,h3⟩,h4⟩,h5⟩,h6⟩:=h;obtain⟨v1,v2,v3,a⟩:=rA h4;refine⟨dN.1 h1,h3,⟨v1,v2⟩,v3,a,fun k e=>?_,fun b hb=>?_⟩
 ·have d:((x.params.toNat:Nat):Int)=x.params:=by omega
  have c:=Ab p.datas x.params.toNat x.type (List.replicate x.params.toNat false) (by rw[d];exact a) (by rw[abD]) k (by omega);have:=(acf.1 h5) _ (aa8 c);rw[aci,eu (by omega)] at this;simpa using this
 ·have:=(acf.1 h6) b hb;rw[vu,abH,not_or,Bool.not_eq_true',Bool.not_eq_false,Bool.not_eq_true',Bool.not_eq_false] at this;have:=dN.1 this.1;omega
theorem Dt {p:Prog}{a b:Impl}(t:IV p a) (hb:IV p b) (w:gN a.type) (v:gN b.type):Ug a b↔a.trait=b.trait/\comm a b:=by
 obtain⟨x,d⟩:=qi (f:=0) a.type t.fm t.sto;obtain⟨y,m⟩:=qi (f:=a.params) b.type hb.fm hb.sto;have a0:=t.pos;have b0:=hb.pos;have e:(zeros (a.params+b.params).toNat).length=(a.params+b.params).toNat:=by rw[zeros,abD]
 have q:∀x∈zeros (a.params+b.params).toNat,cg x<=8:=fun x d=>by rw[(ab2.1 d).2];decide
 constructor
 ·rintro⟨h1,_,_,_,_,x',y',o,s,h⟩;refine⟨h1,?_⟩;rw[d] at o;rw[m] at s;injection o with o
  injection s with s
  subst o s;obtain⟨u,aa,l,hu,hd⟩:=JP (by rw[e];omega) q h;rw[e] at aa;have l1:(u.take a.params.toNat).length=a.params.toNat:=by rw[abM];omega
  have l2:(u.drop a.params.toNat).length=b.params.toNat:=by rw[List.length_drop];omega
  have r:=o6 (n:=a.params) (f:=0) (u:=u) (ts:=u.take a.params.toNat) (abn _) (by omega) (fun i hi=>by
   rw[abY,eu (by omega)];simp) a.type x d
  have g2:=o6 (n:=b.params) (f:=a.params) (u:=u) (ts:=u.drop a.params.toNat) a0.1 (by omega) (fun i hi=>by rw[abS]) b.type y m;exact⟨u.take a.params.toNat,u.drop a.params.toNat,by omega,by omega,by rw[<-r,<-g2,l],by rw[<-r];exact hd,fun z c=>hu z (List.take_subset _ _ c),fun z c=>hu z (List.drop_subset _ _ c)⟩
 ·rintro⟨h1,j,k,l1,l2,l,hd,d1,d2⟩;refine⟨h1,a0.1,b0.1,a0.2,b0.2,x,y,d,m,?_⟩;have r:=o6 (n:=a.params) (f:=0) (u:=j++k) (ts:=j) (abn _) l1 (fun i hi=>by
   rw[abV (by simpa using hi)];simp) a.type x d
  have g2:=o6 (n:=b.params) (f:=a.params) (u:=j++k) (ts:=k) a0.1 l2 (fun i hi=>by
   rw[abW (by omega)];congr 1;omega) b.type y m
  obtain⟨dz,oz,c⟩:=zU (a.params+b.params).toNat 0;refine JO c ?_ (fun z c=>by have:=q z c;omega) (u:=j++k) ⟨by rw[e,abP];omega,fun i x d hk=>?_⟩ (by rw[r,g2,l]) (fun z c=>?_) (by rw[r];exact hd)
  ·unfold nV;have o:=(rZ a.type x d w).2;have s:=(rZ b.type y m v).2;have q1:=t.dp;have q2:=hb.dp;rw[e,show(((a.params+b.params).toNat:Nat):Int)=a.params+b.params by omega,si (abn 0) (show 0+a.params<=a.params+b.params by omega) a.type x d,si a0.1 (abn _) b.type y m,aa3 (by omega)];rfl
  ·have:=(ab2.1 (show x∈List.replicate _ _ from aa8 d)).2;rw[this] at hk;exact o5 rfl hk
  ·rcases aa9.1 c with c | c
   ·exact d1 z c
   ·exact d2 z c
theorem Q9 {ds:List Api.Data}{n:Int}:∀t:Ty,wT ds n t=true->qY n t=true:=cL fun t b h=>by
 rw[zD]
 by_cases h5:t.kind=5
 ·obtain⟨h1,h2,h3⟩:=vg h h5;rw[eu h5,aa2 h1,aa2 h2,h3];rfl
 ·obtain⟨_,_,_,c⟩:=vh h h5;rw[fo h5,abg];exact fun x a=>b x a (c x a).2
theorem Ra {k:Int}:∀t:Ty,rB k t=true->hasB k t=true:=cL fun t b h=>by
 rw[vw] at h;rw[C3]
 by_cases h5:t.kind=5
 ·rw[eu h5,abf] at h;rw[eu ⟨h5,h⟩]
 ·rw[fo h5,ab0] at h;rw[fo (fun q=>h5 q.1),ab0];obtain⟨x,a,c⟩:=h;exact⟨x,a,b x a c⟩
theorem qj {p:Prog}{x:Impl}(c:IV p x) (t:Ty) (ts:List Ty):iz x t=(ts,true)↔(ts.length:Int)=x.params/\subst ts x.type=t:=by
 have h0:=c.pos;unfold iz;rw[fo (by omega)];unfold zS;constructor
 ·intro h;cases hf:j9 x.params.toNat x.type t [] with
  | mk m b =>
   rw[hf] at h;cases b with
   | false=>injection h with _ h;cases h
   | true =>
    have:=Fh hf;injection h with h _
    have h:lH x.params.toNat m=ts:=h;rw[h] at this;exact⟨by omega,this.2⟩
 ·rintro⟨h1,rfl⟩;have d:(x.params.toNat:Int)=(ts.length:Nat):=by omega
  have a:x.params.toNat=ts.length:=by omega
  obtain⟨m,h2,h3⟩:=Fj (l:=ts) (p:=x.type) (Q9 x.type (by rw[h1];exact c.fm));rw[a,h2];rw[eu rfl];refine Prod.ext ?_ rfl;refine ab5 fun i=>?_
  by_cases hi:i<ts.length
  ·exact(h3 i hi).1 (Ra _ (c.occ i (by omega)))
  ·rw[abE (by simp[lH];omega),abE (by show ts.length<=i;omega)]
theorem Rb {ts:List Ty}{k:Nat}{y:Ty}(a:ts[k]?=some y):∀t:Ty,rB k t=true->cg y<=cg (subst ts t):=cL fun t c h=>by
 have e:=(aa6.1 a).1;rw[vw] at h;rw[subst_eq]
 by_cases h5:t.kind=5
 ·rw[eu h5,abf] at h;rw[eu (by omega),h,show((k:Nat):Int).toNat=k by omega,a];exact abh _
 ·rw[fo h5,ab0] at h;obtain⟨x,b,d⟩:=h;rw[fo (fun q=>h5 q.1),cQ (.mk t.kind t.id (t.args.map (subst ts)))];have:=jy (l:=t.args.map (subst ts)) (abx.2 ⟨x,b,rfl⟩);have:=c x b d;show _<=cI (t.args.map (subst ts))+1;omega
theorem tO {p:Prog}{x:Impl}(c:IV p x) {t:Ty}{ts:List Ty}(d:(ts.length:Int)=x.params) (a:subst ts x.type=t):∀y∈ts,cg y<=cg t:=fun y b=>by
 obtain⟨i,hi⟩:=List.getElem?_of_mem b;have:=(aa6.1 hi).1;rw[<-a];exact Rb hi x.type (c.occ i (by omega))
theorem Ae {p:Prog}{a b:Impl}{t:Ty}{f e:List Ty}(k:IV p a) (hb:IV p b) (d:cg t<=8) (h1:iz a t=(f,true)) (h2:iz b t=(e,true)):comm a b:=by
 obtain⟨h,s1⟩:=(qj k t f).1 h1;obtain⟨j,s2⟩:=(qj hb t e).1 h2;exact⟨f,e,h,j,by rw[s1,s2],by rw[s1];exact d,fun y c=>abN (tO k h s1 y c) d,fun y c=>abN (tO hb j s2 y c) d⟩
theorem CallsTS.imp {P:Program}{f:Nat}{args:List C}{Lin:List TO}{R R':List TO->C->Prop}{Pp Pp':List TO->Value->Prop}(h:CallsTS P f args Lin R Pp)
  (n:∀Mo c,R Mo c->R' Mo c) (t:∀Mo v,Pp Mo v->Pp' Mo v):CallsTS P f args Lin R' Pp' :=
 ⟨fun F Li x h1 h2 h3=>let k:=h.out F Li x h1 h2 h3;⟨k.ent,gV.aaC,fun w y=>(k.run w y).mono fun e w' q=>by
  rcases q with⟨v,F',Lo,a,m,b,Mo,c,j,l,d,o,r⟩ | ⟨v,p,F',Lo,a,m,b,u,z,s,Mo,j,l,d⟩
  ·exact .inl ⟨v,F',Lo,a,m,b,Mo,c,j,l,d,o,n _ _ r⟩
  ·exact .inr ⟨v,p,F',Lo,a,m,b,u,z,s,Mo,j,l,t _ _ d⟩⟩⟩
theorem Iv (ks:List Nat) {L:TL}{ρ:aG}{ps:Value->Prop}{hb:List (Nat×Nat)}{st:TL->Value->Prop}{Pp:List TO->Value->Prop}{fb:List Nat}{f:Nat}{args a:List C}{K:TL->aG->C->Prop}{x:C}{Lin Lin' Lo:List TO}(h:CallsTS P f a Lin' (aQ Lo x) Pp) (t:L.sub ks=some Lin)
  (d:(T.aU ks&&qN ks fb&&aH Lin ks ks&&jQ L ks hb)=true) (m:(args.map fun c=>c.aaw.ren (bn ks 1000))=a) (n:Lin.map (TO.aaq (C.ren (bn ks 1000)))=Lin') (j:ks.length=Lo.length)
  (r:∀v Mo,Pp Mo v->ps v/\st (TL.puts [] ks (Mo.map (TO.aaq (C.ren (aL ks))))) v)
  (k:Wf x->(∀o∈Lo,o.Wf)->K (((L.aas ks).kills (rowsOf L ks)).puts ks (Lo.map (TO.aaq (C.ren (aL ks))))) (dO (rowsOf L ks) ρ) (x.ren (aL ks)).slt):uw P ps hb st fb f args L ρ K:=by
 subst m n;simp only[xo] at d;obtain⟨⟨⟨s,p⟩,c3⟩,c4⟩:=d;exact⟨ks,Lin,_,_,t,s,p,c3,c4,h,fun v Mo q _ _=>r v Mo q,fun v Mo ⟨l,u⟩ e b=>by subst l u;exact⟨j,k e b⟩⟩
theorem Iw (ks:List Nat) {L:TL}{ρ:aG}{ps:Value->Prop}{hb:List (Nat×Nat)}{st:TL->Value->Prop}{Pp:List TO->Value->Prop}{fb:List Nat}{f:Nat}{args a:List C}{K:TL->aG->C->Prop}{Lin Lin':List TO}(h:CallsTS P f a Lin' (fun _ _=>False) Pp) (m:L.sub ks=some Lin)
  (b:(T.aU ks&&qN ks fb&&aH Lin ks ks&&jQ L ks hb)=true) (d:(args.map fun c=>c.aaw.ren (bn ks 1000))=a) (e:Lin.map (TO.aaq (C.ren (bn ks 1000)))=Lin')
  (k:∀v Mo,Pp Mo v->ps v/\st (TL.puts [] ks (Mo.map (TO.aaq (C.ren (aL ks))))) v):uw P ps hb st fb f args L ρ K:=by
 subst d e;simp only[xo] at b;obtain⟨⟨⟨l,j⟩,c3⟩,c4⟩:=b;exact⟨ks,Lin,_,_,m,l,j,c3,c4,h,fun v Mo q _ _=>k v Mo q,fun v Mo q=>q.elim⟩
theorem ZN (x:Impl) (t:Ty):CallsT P 24 [aK x.type,aK t,IC x.params] [] (aQ [] (.tup [.sl ((iz x t).1.map aD),.bool (iz x t).2])):=by
 unfold iz
 by_cases h:x.params<0\/x.params>4
 ·rw[eu h];refine af Try.func24 Hy rfl fun c _=>?_;refine ah (fun _=>ay rfl rfl) (fun a=>ah (fun _=>ay rfl rfl) (fun b=>o5 h ?_));have a:¬x.params<0:=a;have b:¬x.params>4:=b;omega
 ·rw[fo h];have:=t24 x.type t x.params.toNat (by omega);rw[show((x.params.toNat:Nat):Int)=x.params by omega] at this;exact this
theorem Wz {l:List Ty}{z:Int}{x:Ty}{K:List C->Prop}(h0:0<=z) (a:l[z.toNat]?=some x) (h:K [IC x.kind,IC x.id,.sl (x.args.map aD)]):ur (l.map aD) z 3 K:=kg h0 a h
def eB (p:Prog) (g:ct):aG:=bH (some 1) (.own 1000 0) (bH (some 2) (.own 1001 0) (bH (some 4) (.pt (kG p) 0) (bH (some 5) (.own 1002 0) (bH (some 6) (.pt (kH g) 0) (bH (some 7) (.own 7 0) fun _=>.any)))))
def Xe (p:Prog) (bs:List aS) (gs:List ct) (res:qu):TK:=fun M τ=>τ 7=.own 7 0/\∃r a,res=(.ok r,a)/\M.sub [1000,1001,1002,1003,7]=some (PB p bs a gs++[.box 64 (iE r)])
def Ut (k:Nat) (ts:List Ty):Except Int (List gR)×Int->qu
 | (.ok ps,a)=>(.ok (.mk false k ts ps),a)
 | (.error e,a)=>(.error e,a)
theorem Fm (ps:List gR) (r:gR):ps.map iE++[[.bool r.assumed,IC r.index,.sl (r.types.map aD),.sl (r.proofs.map iE)]]=(ps++[r]).map iE:=by rw[abC,abe,abX,jz r]
theorem WA (p:Prog) (bs:List aS) (c:Int) (gs:List ct) (g:ct) (res:qu) (f:Int->ct->qu) (fi:List Impl->Nat->Option (Nat×Impl×List Ty)) (hc:0<=c/\c<=400) (hg:(gs.length:Int)<=c)
  (cm:p.impls.length<=9223372036854775807)
  (bu:∀k,fi [] k=none) (av:∀x l k,fi (x::l) k=if x.trait=g.tr/\(iz x g.t).2=true then some (k,x,(iz x g.t).1) else fi l (k+1))
  (hn:fi p.impls 0=none->res=(.error 9,c)) (hs:∀k x ts,fi p.impls 0=some (k,x,ts)->res=Ut k ts (fQ f (x.bounds.map (kT ts)) c []))
  (hf:∀o g',c<=o->o<=400->Ur p bs o gs g' (f o g')/\∀r m,f o g'=(.ok r,m)->o<m/\m<=400) :
  evalTC P ⟨fun _=>True,[],some (AW p bs gs res)⟩ ZM (fun _ _ _=>False) (Xe p bs gs res) (fun _ _=>False) (MB p bs c gs) (eB p g):=by
 have an:=fun x=>ZN x g.t;have bj:=fun(ts:List Ty) (n:Int)=>t84 (ts.map aD) n;generalize ae:(fun x=>iz x g.t)=mI;have ae:∀x,iz x g.t=mI x:=fun x=>by rw[<-ae]
 have av:∀x l k,fi (x::l) k=if x.trait=g.tr/\(mI x).2=true then some (k,x,(mI x).1) else fi l (k+1):=fun x l k=>by rw[<-ae];exact av x l k
 have an:∀x:Impl,CallsT P 24 [aK x.type,aK g.t,IC x.params] [] (aQ [] (.tup [.sl ((mI x).1.map aD),.bool (mI x).2])):=fun x=>by rw[<-ae];exact an x
 have az:(p.impls.map dS).length=p.impls.length:=vz _;have bd:∀x:Impl,(x.bounds.map aV).length=x.bounds.length:=fun x=>vz _;have al:∀l:List Ty,(l.map aD).length=l.length:=fun l=>vz _;have bk:∀c aa,fQ f [] c aa=(.ok aa,c):=fun c aa=>rfl;have bo:∀g l c aa,fQ f (g::l) c aa=match f c g with | (.ok r,o)=>fQ f l o (aa++[r]) | (.error e,o)=>(.error e,o):=fun g l c aa=>rfl
 refine bA p.impls.length 41 [] () (fun _=>[]) (fun _=>[(7,.box 64 [.bool false,IC 0,.nils,.nils]),(1000,.box 3 [IC c]),(1001,.box 107 [.rw 1003]),(1002,.box 108 [Nx p bs]),(1003,AU gs)]) (fun k _=>fi (p.impls.drop k) k=fi p.impls 0) rfl (aj rfl) trivial ⟨.inl ⟨_,rfl,.inl ⟨rfl,rfl⟩⟩,.inl ⟨_,rfl,.inl ⟨rfl,rfl⟩⟩,.inl ⟨_,rfl,.inl ⟨rfl,rfl⟩⟩,.inl ⟨_,rfl,.inl ⟨rfl,rfl⟩⟩,.inl ⟨_,rfl,.inl ⟨rfl,rfl⟩⟩,trivial⟩ (fun _=>rfl) (fun _=>rfl) ?_;rintro k _ hk d _ _ _;have d:fi (p.impls.drop k) k=fi p.impls 0:=d;refine ah (fun w=>?_) (fun ar=>?_)
 ·have w:k<p.impls.length:=by rw[az] at w;omega
  refine aX w fun x hx cf bt=>?_;have aE:=bd x;rw[bt,av] at d;refine rq (by omega) (show p.impls[((k:Int)).toNat]?=some x from hx) ?_;refine aT (fun q=>?_) (fun q=>?_)
  ·rw[fo (fun z=>q z.1)] at d;refine Fit.aar (by omega) (by omega) ?_;exact⟨(k+1,()),⟨w,d⟩,⟨aZ,trivial⟩,⟨.inl ⟨_,rfl,.inl ⟨rfl,rfl⟩⟩,.inl ⟨_,rfl,.inl ⟨rfl,rfl⟩⟩,.inl ⟨_,rfl,.inl ⟨rfl,rfl⟩⟩,.inl ⟨_,rfl,.inl ⟨rfl,rfl⟩⟩,.inl ⟨_,rfl,.inl ⟨rfl,rfl⟩⟩,trivial⟩,bf w⟩
  refine aF (an x) rfl fun _=>?_;refine aq (fun q2=>?_) (fun q2=>?_)
  ·have q2:(mI x).2=false:=by simpa using q2
   rw[fo (fun z=>by rw[q2] at z;exact abt z.2)] at d;refine Fit.aar (by omega) (by omega) ?_;exact⟨(k+1,()),⟨w,d⟩,⟨aZ,trivial⟩,⟨.inl ⟨_,rfl,.inl ⟨rfl,rfl⟩⟩,.inl ⟨_,rfl,.inl ⟨rfl,rfl⟩⟩,.inl ⟨_,rfl,.inl ⟨rfl,rfl⟩⟩,.inl ⟨_,rfl,.inl ⟨rfl,rfl⟩⟩,.inl ⟨_,rfl,.inl ⟨rfl,rfl⟩⟩,trivial⟩,bf w⟩
  have q2:(mI x).2=true:=by simpa using q2
  have q:x.trait=g.tr:=q;rw[eu ⟨q,q2⟩] at d;have am:=hs k x _ d.symm;generalize ch:(mI x).1=ts at am ⊢;refine bA x.bounds.length 69 [] (([]:List gR),c) (fun _=>[]) (fun s=>[(7,.box 64 [.bool false,IC 0,.nils,.nils]),(10,.box 56 [IC x.trait,IC x.module,IC x.params,.sl (x.bounds.map aV),IC x.type.kind,IC x.type.id,.sl (x.type.args.map aD),IC x.func]),(13,.box 64 [.bool false,IC k,.sl (ts.map aD),.rw 91]),(91,.row 64 4 (s.1.map iE)),(1000,.box 3 [IC s.2]),(1001,.box 107 [.rw 1003]),(1002,.box 108 [Nx p bs]),(1003,AU gs)]) (fun j s=>Ut k ts (fQ f ((x.bounds.drop j).map (kT ts)) s.2 s.1)=res/\c+j<=s.2/\s.2<=400/\s.1.length=j) ⟨am.symm,by simp,hc.2,rfl⟩ (aj rfl) trivial
   ⟨.inl ⟨_,rfl,.inl ⟨rfl,rfl⟩⟩,.inl ⟨_,rfl,.inl ⟨rfl,rfl⟩⟩,.inl ⟨_,rfl,.inr ⟨64,_,_,rfl,rfl,_,_,rfl,aj rfl,_,_,rfl,aj rfl,_,_,rfl,aj rfl,_,_,rfl,jf rfl rfl,rfl⟩⟩,.inr ⟨rfl,64,4,rfl⟩,.inl ⟨_,rfl,.inl ⟨rfl,rfl⟩⟩,.inl ⟨_,rfl,.inl ⟨rfl,rfl⟩⟩,.inl ⟨_,rfl,.inl ⟨rfl,rfl⟩⟩,.inl ⟨_,rfl,.inl ⟨rfl,rfl⟩⟩,trivial⟩ (fun _=>rfl) (fun _=>rfl) ?_
  rintro j s hj a _ _ _;have a:Ut k ts (fQ f ((x.bounds.drop j).map (kT ts)) s.2 s.1)=res/\c+j<=s.2/\s.2<=400/\s.1.length=j:=a;have ca:=a.2.1;have ci:=a.2.2.1;have hl:=a.2.2.2;have a:=a.1;refine ah (fun h=>?_) (fun ad=>?_)
  ·have h:j<x.bounds.length:=by rw[aE] at h;omega
   refine aX h fun b hb cb bm=>?_;rw[bm,abe,bo] at a;refine wZ (by omega) (show x.bounds[((j:Int)).toNat]?=some b from hb) ?_;refine aF (bj ts b.param) rfl fun _=>?_;refine Cb (fun q3=>?_) (fun q3=>?_)
   ·rw[al] at q3;have q4:=dN.1 q3;refine oP (fK (l:=ts) (k:=b.param.toNat) (by omega)) fun y hy=>?_;refine Wz q4.1 hy ?_;have eg:kT ts b=⟨b.trait,y⟩:=by
     unfold kT;rw[q3];rw[eu rfl,hy];rfl
    rw[eg] at a;have hq:=hf s.2 ⟨b.trait,y⟩ (by omega) (by omega);cases hr:f s.2 ⟨b.trait,y⟩ with
    | mk r0 m =>
     rw[hr] at hq a;cases r0 with
     | error e =>
      have u:CallsTS P 77 (AV p bs ⟨b.trait,y⟩) (PB p bs s.2 gs) (fun _ _=>False) (fun Mo v=>Mo=PB p bs m gs/\v=Ac e):=CallsTS.imp hq.1 (fun Mo v ⟨r,o,q,_⟩=>by cases q) (fun Mo v ⟨e',o,q,q1,q2⟩=>by cases q;exact⟨q1,q2⟩);refine Iw [1000,1001,1002,1003] u rfl rfl rfl rfl fun v Mo q=>⟨trivial,PB p bs m gs,?_,e,m,a.symm,rfl,q.2⟩;rw[q.1];rfl
     | ok r =>
      have u:CallsTS P 77 (AV p bs ⟨b.trait,y⟩) (PB p bs s.2 gs) (aQ (PB p bs m gs) (.agg [.bool r.assumed,IC r.index,.sl (r.types.map aD),.sl (r.proofs.map iE)])) (fun _ _=>False):=CallsTS.imp hq.1 (fun Mo v ⟨r',o,q,q1,q2⟩=>by cases q;exact⟨q1,by rw[q2,jz]⟩) (fun Mo v ⟨e',o,q,_⟩=>by cases q);have bb:=hq.2 r m rfl;refine Iv [1000,1001,1002,1003] u rfl rfl rfl rfl rfl (fun v Mo q=>q.elim) fun _ _=>?_;refine jN j rfl (by rw[vz];exact hl) (by decide) (by omega) ?_;refine Fit.aar (by omega) (by omega) ?_;exact⟨(j+1,(s.1++[r],m)),⟨h,a,(by show c+((j+1:Nat):Int)<=m;omega),(by show m<=400;omega),by simp[hl]⟩,⟨aZ,trivial⟩,⟨.inl ⟨_,rfl,.inl ⟨rfl,rfl⟩⟩,.inl ⟨_,rfl,.inl ⟨rfl,rfl⟩⟩,.inl ⟨_,rfl,.inl ⟨rfl,rfl⟩⟩,.inl ⟨_,rfl,.inl ⟨mq (Fm s.1 r),rfl⟩⟩,.inl ⟨_,rfl,.inl ⟨rfl,rfl⟩⟩,.inl ⟨_,rfl,.inl ⟨rfl,rfl⟩⟩,.inl ⟨_,rfl,.inl ⟨rfl,rfl⟩⟩,.inl ⟨_,rfl,.inl ⟨rfl,rfl⟩⟩,trivial⟩,bf h⟩
   ·rw[al] at q3;have eg:kT ts b=⟨b.trait,zT⟩:=by
     unfold kT;rw[q3];rw[fo abt]
    rw[eg] at a;have hq:=hf s.2 ⟨b.trait,zT⟩ (by omega) (by omega);cases hr:f s.2 ⟨b.trait,zT⟩ with
    | mk r0 m =>
     rw[hr] at hq a;cases r0 with
     | error e =>
      have u:CallsTS P 77 (AV p bs ⟨b.trait,zT⟩) (PB p bs s.2 gs) (fun _ _=>False) (fun Mo v=>Mo=PB p bs m gs/\v=Ac e):=CallsTS.imp hq.1 (fun Mo v ⟨r,o,q,_⟩=>by cases q) (fun Mo v ⟨e',o,q,q1,q2⟩=>by cases q;exact⟨q1,q2⟩);refine Iw [1000,1001,1002,1003] u rfl rfl rfl rfl fun v Mo q=>⟨trivial,PB p bs m gs,?_,e,m,a.symm,rfl,q.2⟩;rw[q.1];rfl
     | ok r =>
      have u:CallsTS P 77 (AV p bs ⟨b.trait,zT⟩) (PB p bs s.2 gs) (aQ (PB p bs m gs) (.agg [.bool r.assumed,IC r.index,.sl (r.types.map aD),.sl (r.proofs.map iE)])) (fun _ _=>False):=CallsTS.imp hq.1 (fun Mo v ⟨r',o,q,q1,q2⟩=>by cases q;exact⟨q1,by rw[q2,jz]⟩) (fun Mo v ⟨e',o,q,_⟩=>by cases q);have bb:=hq.2 r m rfl;refine Iv [1000,1001,1002,1003] u rfl rfl rfl rfl rfl (fun v Mo q=>q.elim) fun _ _=>?_;refine jN j rfl (by rw[vz];exact hl) (by decide) (by omega) ?_;refine Fit.aar (by omega) (by omega) ?_;exact⟨(j+1,(s.1++[r],m)),⟨h,a,(by show c+((j+1:Nat):Int)<=m;omega),(by show m<=400;omega),by simp[hl]⟩,⟨aZ,trivial⟩,⟨.inl ⟨_,rfl,.inl ⟨rfl,rfl⟩⟩,.inl ⟨_,rfl,.inl ⟨rfl,rfl⟩⟩,.inl ⟨_,rfl,.inl ⟨rfl,rfl⟩⟩,.inl ⟨_,rfl,.inl ⟨mq (Fm s.1 r),rfl⟩⟩,.inl ⟨_,rfl,.inl ⟨rfl,rfl⟩⟩,.inl ⟨_,rfl,.inl ⟨rfl,rfl⟩⟩,.inl ⟨_,rfl,.inl ⟨rfl,rfl⟩⟩,.inl ⟨_,rfl,.inl ⟨rfl,rfl⟩⟩,trivial⟩,bf h⟩
  ·have ad:¬j<x.bounds.length:=by rw[aE] at ad;omega
   rw[bU ad,abX,bk] at a;refine⟨rfl,.mk false k ts s.1,s.2,a.symm,?_⟩;rw[jz];rfl
 ·have ar:¬k<p.impls.length:=by rw[az] at ar;omega
  rw[bU ar,bu] at d;exact⟨Ac 9,rfl,rfl,trivial,_,rfl,9,c,hn d.symm,rfl,rfl⟩
end Go.Fr.Try
