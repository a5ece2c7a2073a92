/- Part of the proofs of the statements of this seat. -/
import Derived.Test.YthfdbepkalpplaaTrT4G
import Derived.Test.YthfdbepkalpplaaFW3
import Derived.Test.YthfdbepkalpplaaUnH1G
set_option maxRecDepth 10000
set_option linter.unusedVariables false
set_option linter.unusedSimpArgs false
namespace Go.Fr.Try
open Go Go.RowKit Go.Proofs Go.Fr Go.Fr.T Go.Fr.Api
def ug (p:Prog) (n:Nat) (b:aR):Bool:=!dR b.param n||!dR b.trait p.traits.length
theorem Xa (o:List Bool) (p:Prog) (b:aR):CallsT P 107 [.agg (aS b),.pt [.sl (o.map bC)] 0,.pt (jU p) 0] [] (aU [] (.bool (ug p o.length b))):=by
 have h1:=WW (o.map bC) b.param;have a:=Uh (KT p.traits) b.trait;have d:(o.map bC).length=o.length:=aaP _;have c:(KT p.traits).length=p.traits.length:=by simp[KT]
 have e:ug p o.length b=(!dR b.param o.length||!dR b.trait p.traits.length):=rfl;rw[d] at h1;rw[c] at a;generalize dR b.param o.length=x at h1 e;generalize dR b.trait p.traits.length=y at a e;refine af Try.func107 KG rfl fun f _=>?_;refine bh h1 rfl fun _=>?_;refine aq (fun q=>?_) (fun q=>?_)
 ·exact aC rfl (xo C.bool (by rw[e];rw[show(!x)=true from q];rfl))
 refine bh a rfl fun _=>?_;exact aC rfl (xo C.bool (by rw[e];rw[show(!x)=false from q];rfl))
theorem Xb (o:List Bool):CallsT P 116 [.sl (o.map bC),.bool false] [] (aU [] (IC (br (fun x=>!x) o 0))):=by
 have c:(o.map bC).length=o.length:=aaP _;refine af Try.func116 KO rfl fun p _=>?_;have l:o.length<=9223372036854775807:=by have:=gL p.1;rwa [c] at this
 refine cu o.length 8 [] () (fun _=>[]) (fun _=>[]) (fun k _=>br (fun x=>!x) (o.drop k) k=br (fun x=>!x) o 0) rfl (ak rfl) trivial trivial (fun _=>rfl) (fun _=>rfl) ?_;rintro k _ q a _ _ _;refine ah (fun b=>?_) (fun d=>?_)
 ·have b:k<o.length:=by rw[c] at b;omega
  refine aZ b fun x n m e=>?_;refine EW (f:=bC) (es:=[.bool x]) n rfl rfl ?_;refine ah (fun j=>?_) (fun j=>?_)
  ·exact aC rfl (xo IC (nW e a (by rw[<-show false=x from j];rfl)))
  ·have h:x=true:=by cases x;exact vv rfl j;rfl
   refine Fit.aag (by omega) (by omega) ?_;exact⟨(k+1,()),⟨b,qz e a (by rw[h];rfl)⟩,⟨bS,trivial⟩,trivial,bV b⟩
 ·have d:¬k<o.length:=by rw[c] at d;omega
  exact aC rfl (xo IC (nX d a))
theorem Xc (o:List Bool):CallsT P 109 [.sl (o.map bC),.bool false] [] (aU [] (.bool (o.any fun x=>!x))):=by
 have h1:=Xb o;have e:=vh (fun x=>!x) o;generalize br (fun x=>!x) o 0=n at h1 e;refine af Try.func109 KI rfl fun a _=>?_;refine bh h1 rfl fun _=>?_;exact aC rfl (xo C.bool e)
def gN (p:Prog) (x:Impl):Bool:=dR x.trait p.traits.length&&!decide (x.module<0)&&iN x.type&&iO p x.params x.type&&!(mark x.type (List.replicate x.params.toNat false)).any (fun b=>!b)&&!x.bounds.any (ug p x.params.toNat)
theorem R9 {ds:List Api.Data}{n:Int}:∀t:Ty,vV ds n t=true->yZ n t=true:=dL fun t j h=>by
 rw[D7,aaN,aa1]
 by_cases d:t.kind=5
 ·obtain⟨a,b,c⟩:=wG h d;rw[o5 d,c];exact⟨by rw[aaS a,aaS b];rfl,fun x e=>by cases e⟩
 ·rw[q9 d];obtain⟨_,_,_,f⟩:=wH h d;exact⟨rfl,fun x e=>j x e (f x e).2⟩
theorem qA {p:Prog}{n:Int}{t:Ty}(h:iO p n t=true):0<=n/\n<=4/\cK t<=8/\vV p.datas n t=true:=by
 unfold iO at h;split at h
 ·cases h
 ·exact⟨by omega,by omega,by omega,h⟩
theorem t88 (p:Prog) (x:Impl) (w:cK x.type<=2 ^ 40):CallsT P 88 [pq p,GZ x] [] (aU [] (.bool (gN p x))):=by
 have c:=Uh (KT p.traits) x.trait;have v:(KT p.traits).length=p.traits.length:=by simp[KT]
 rw[v] at c;have j:=WZ x.type;have U6:=XU x.params p x.type w;have e:gN p x=(dR x.trait p.traits.length&&!decide (x.module<0)&&iN x.type&&iO p x.params x.type&&!(mark x.type (List.replicate x.params.toNat false)).any (fun b=>!b)&&!x.bounds.any (ug p x.params.toNat)):=rfl;have k:=@qA p x.params x.type;have a:iO p x.params x.type=true->D8 x.type (List.replicate x.params.toNat false) (mark x.type (List.replicate x.params.toNat false)):=fun h=>W9 x.params.toNat x.type (by
  have:=R9 x.type (k h).2.2.2;rw[show((x.params.toNat:Nat):Int)=x.params by have:=k h;omega];exact this) _ aby
 have r:(mark x.type (List.replicate x.params.toNat false)).length=x.params.toNat:=by rw[qy,aby]
 have l:∀n:Nat,(List.replicate n false).map bC=List.replicate n [C.bool false]:=fun n=>by rw[ab6];rfl
 generalize mark x.type (List.replicate x.params.toNat false)=o at a r e;have d:=Xc o;have f:=LK o p x.bounds (ug p x.params.toNat) fun b _=>by have:=Xa o p b;rw[r] at this;exact this
 generalize x.bounds.any (ug p x.params.toNat)=bb at f e;generalize(o.any fun x=>!x)=oo at d e;generalize dR x.trait p.traits.length=v1 at c e;generalize iN x.type=v2 at j e;generalize iO p x.params x.type=v3 at U6 e k a;refine af Try.func88 KQ rfl fun y _=>?_;refine bh c rfl fun _=>?_;refine aq (fun q=>?_) (fun s=>?_)
 ·exact aC rfl (xo C.bool (by rw[e,show v1=false by simpa using q];rfl))
 refine ah (fun q=>?_) (fun t=>?_)
 ·exact aC rfl (xo C.bool (by rw[e,aaS (show x.module<0 from q),show v1=true by simpa using s];rfl))
 refine bh j rfl fun _=>?_;refine aq (fun q=>?_) (fun u=>?_)
 ·exact aC rfl (xo C.bool (by rw[e,show v2=false by simpa using q,abk];rfl))
 refine bh U6 rfl fun _=>?_;refine aq (fun q=>?_) (fun m=>?_)
 ·exact aC rfl (xo C.bool (by rw[e,show v3=false by simpa using q,abk];rfl))
 have m:v3=true:=by simpa using m
 have k:=k m;have a:CallsT P 105 [aT x.type,.fn 106 [] [.own 1000 0]] [.box 123 [.rw 1001],.row 4 1 (List.replicate x.params.toNat [.bool false])] (aU (LO o) (.tup [])):=by
  have:=a m;rw[D8,LO,l] at this;exact this
 have e:(!oo&&!bb)=gN p x:=by
  rw[e,show v1=true by simpa using s,aaT (show¬x.module<0 from t),show v2=true by simpa using u,m];simp
 refine uw.mk k.1 (abm _) (by omega) (by simp only[maxLen];omega) ?_;refine callO [5,35] [5,35] a rfl rfl rfl rfl rfl fun _ _=>?_;refine bh d rfl fun _=>?_;refine aq (fun q=>?_) (fun q=>?_)
 ·refine bh f rfl fun _=>?_;exact aC rfl (xo C.bool (by rw[<-e,show(!oo)=true from q];rfl))
 ·exact aC rfl (xo C.bool (by rw[<-e,show(!oo)=false from q];rfl))
theorem Ul {l:List Int}{z x:Int}{K:List C->Prop}(h0:0<=z) (a:l[z.toNat]?=some x) (h:K [IC x]):uI (Ie l) z 1 K:=⟨[IC x],h0,by simp[Ie,a],rfl,h⟩
def LL (p:Prog) (x:Impl):Bool:=dR x.trait p.homes.length&&decide (p.homes[x.trait.toNat]?=some x.module)
def ownB (p:Prog) (x:Impl):Bool:=decide (x.type.kind=2)&&(dR x.type.id p.datas.length&&decide ((p.datas[x.type.id.toNat]?).map (·.module)=some x.module))
def G7 (p:Prog) (x:Impl):Bool:=!LL p x&&!ownB p x
theorem Xd (p:Prog) (x:Impl) (o:Bool) (h:LL p x=o):CallsT P 89 [pq p,GZ x] [] (aU [] (.bool (!o&&!ownB p x))):=by
 have f:=WX (Ie p.homes) x.trait;have u:(Ie p.homes).length=p.homes.length:=by simp[Ie]
 rw[u] at f;have a:=WY (p.datas.map nR) x.type.id;have t:(p.datas.map nR).length=p.datas.length:=aaP _;rw[t] at a;have i1:=@fu x.trait p.homes.length;have i2:=@fu x.type.id p.datas.length;unfold LL at h;have j:ownB p x=(decide (x.type.kind=2)&&(dR x.type.id p.datas.length&&decide ((p.datas[x.type.id.toNat]?).map (·.module)=some x.module))):=rfl;generalize ownB p x=ow at j ⊢;generalize dR x.trait p.homes.length=v1 at f i1 h;generalize dR x.type.id p.datas.length=v2 at a i2 j;have q:True:=trivial;refine af Try.func89 Ow rfl fun v _=>?_;refine bL f rfl fun _=>?_;refine Bf (fun m=>vU (j8 (l:=p.homes) (k:=x.trait.toNat) (by have:=i1.1 m;omega)) fun y s=>Ul (i1.1 m).1 s ?_) (fun m=>?_)
 ·have r:o=decide (y=x.module):=by
   rw[<-h,m,s,aaV];exact decide_eq_decide.2 (by rw[aaO])
  subst r;refine ah (fun k=>bL a rfl fun _=>Bf (fun b=>vU (j8 (l:=p.datas) (k:=x.type.id.toNat) (by have:=i2.1 b;omega)) fun d n=>OT (i2.1 b).1 n ?_) (fun b=>?_)) (fun k=>?_)
  ·have c:ow=decide (d.module=x.module):=by
    rw[j,aaS (show x.type.kind=2 from k),b,n,aaV,aaV];exact decide_eq_decide.2 (by rw[abq,aaO])
   subst c;refine aX (fun e=>aC rfl (xo C.bool ?_)) (fun e=>aC rfl (xo C.bool ?_))
   ·rw[aaT (show¬y=x.module from e)];rfl
   ·rw[aaS (show y=x.module from e)];rfl
  ·have c:ow=false:=by rw[j,b,aaY,abk]
   subst c;refine aX (fun e=>aC rfl (xo C.bool ?_)) (fun e=>aC rfl (xo C.bool ?_))
   ·rw[aaT (show¬y=x.module from e)];rfl
   ·rw[aaS (show y=x.module from e)];rfl
  ·have c:ow=false:=by rw[j,aaT (show¬x.type.kind=2 from k),aaY]
   subst c;refine aX (fun e=>aC rfl (xo C.bool ?_)) (fun e=>aC rfl (xo C.bool ?_))
   ·rw[aaT (show¬y=x.module from e)];rfl
   ·rw[aaS (show y=x.module from e)];rfl
 ·have r:o=false:=by rw[<-h,m,aaY]
  subst r;refine ah (fun k=>bL a rfl fun _=>Bf (fun b=>vU (j8 (l:=p.datas) (k:=x.type.id.toNat) (by have:=i2.1 b;omega)) fun d n=>OT (i2.1 b).1 n ?_) (fun b=>?_)) (fun k=>?_)
  ·have c:ow=decide (d.module=x.module):=by
    rw[j,aaS (show x.type.kind=2 from k),b,n,aaV,aaV];exact decide_eq_decide.2 (by rw[abq,aaO])
   exact aC rfl (xo C.bool (by rw[c];rfl))
  ·have c:ow=false:=by rw[j,b,aaY,abk]
   exact aC rfl (xo C.bool (by rw[c];rfl))
  ·have c:ow=false:=by rw[j,aaT (show¬x.type.kind=2 from k),aaY]
   exact aC rfl (xo C.bool (by rw[c];rfl))
theorem t89 (p:Prog) (x:Impl):CallsT P 89 [pq p,GZ x] [] (aU [] (.bool (G7 p x))):=Xd p x _ rfl
noncomputable def zP (a b:Impl):Bool:=zw (R6 a b)
noncomputable def pD (p:Prog):List Impl->Nat->Int×Int×Int
 | [],_=>(0,0,0)
 | x::l,k=>if gN p x=false then(1,(k:Int),(k:Int)) else if G7 p x=true then(9,(k:Int),(k:Int)) else if br (fun y=>zP y x) (p.impls.take k) 0>=0 then(10,br (fun y=>zP y x) (p.impls.take k) 0,(k:Int)) else pD p l (k+1)
noncomputable def D9 (p:Prog):Int×Int×Int:=pD p p.impls 0
theorem t91 (x y:Impl) (h:LF 32 x y):CallsT P 91 [.agg (dF x),.pt [IC y.trait,IC y.module,IC y.params,.sl (y.bounds.map aS),IC y.type.kind,IC y.type.id,.sl (y.type.args.map aM),IC y.func] 0] [] (aU [] (.bool (zP x y))):=by
 refine af Try.func91 Oy rfl fun a _=>?_;refine bh h rfl fun _=>?_;exact aC rfl rfl
theorem Xe (p:Prog) (hB:∀x∈p.impls,jl x.type/\cK x.type<=2 ^ 40):CallsT P 40 [pq p] [] (aU [] (.tup [IC (D9 p).1,IC (D9 p).2.1,IC (D9 p).2.2])):=by
 have n:=fun x (j:x∈p.impls)=>t88 p x (hB x j).2;have r:=t89 p;have m:=fun(y:Impl) (k:Nat) (hy:y∈p.impls)=>Pf y (p.impls.take k) (fun x=>zP x y) fun x j=>t91 x y (t32 x y (hB x (List.take_subset k p.impls j)).1 (hB y hy).1 (hB x (List.take_subset k p.impls j)).2 (hB y hy).2);have e:(p.impls.map dF).length=p.impls.length:=aaP _;have b:∀x l k,pD p (x::l) k=if gN p x=false then(1,(k:Int),(k:Int)) else if G7 p x=true then(9,(k:Int),(k:Int)) else if br (fun y=>zP y x) (p.impls.take k) 0>=0 then(10,br (fun y=>zP y x) (p.impls.take k) 0,(k:Int)) else pD p l (k+1):=fun x l k=>rfl;have f:∀k,pD p [] k=(0,0,0):=fun k=>rfl;have d:D9 p=pD p p.impls 0:=rfl;generalize D9 p=R at d ⊢;generalize pD p=cl at b f d;generalize gN p=tv at n b;generalize G7 p=ob at r b;generalize zP=ov at m b;refine af Try.func40 KP rfl fun hw _=>?_;have w:p.impls.length<=9223372036854775807:=by have:=gL hw.1.2.2.2.2.2.1;rwa [e] at this
 refine cu p.impls.length 11 [] () (fun _=>[]) (fun _=>[]) (fun k _=>cl (p.impls.drop k) k=R) d.symm (ak rfl) trivial trivial (fun _=>rfl) (fun _=>rfl) ?_;rintro k _ hk a _ _ _;have a:cl (p.impls.drop k) k=R:=a;refine ah (fun c=>?_) (fun h=>?_)
 ·have c:k<p.impls.length:=by rw[e] at c;omega
  refine aZ c fun x j o v=>?_;rw[v,b] at a;refine yV (by omega) (show p.impls[((k:Int)).toNat]?=some x from j) ?_;refine bh (n x o) rfl fun _=>?_;refine aq (fun q=>?_) (fun q=>?_)
  ·rw[o5 (show tv x=false by simpa using q)] at a;exact aC rfl (by rw[<-a];rfl)
  rw[q9 (show¬tv x=false by simpa using q)] at a;refine bh (r x) rfl fun _=>?_;refine aq (fun s=>?_) (fun s=>?_)
  ·rw[o5 (show ob x=true from s)] at a;exact aC rfl (by rw[<-a];rfl)
  rw[q9 (show¬ob x=true by rw[show ob x=false from s];exact abd)] at a;have u:((p.impls.map dF).drop ((0:Int)).toNat).take (((k:Int)).toNat-((0:Int)).toNat)=(p.impls.take k).map dF:=by
   rw[show((0:Int)).toNat=0 from rfl,List.drop_zero,Nat.sub_zero,show((k:Int)).toNat=k by omega,List.map_take]
  refine SM.mk (by omega) (by omega) (by rw[e];omega) (fun es he=>by obtain⟨y,_,rfl⟩:=abt.1 he;rfl) ?_;refine bh (m x k o) (xo (fun z=>[C.sl z,.fn 91 [] [.pt [IC x.trait,IC x.module,IC x.params,.sl (x.bounds.map aS),IC x.type.kind,IC x.type.id,.sl (x.type.args.map aM),IC x.func] 0]]) u) fun _=>?_;refine ah (fun t=>?_) (fun t=>?_)
  ·rw[o5 t] at a;exact aC rfl (by rw[<-a];rfl)
  ·rw[q9 t] at a;refine Fit.aag (by omega) (by omega) ?_;exact⟨(k+1,()),⟨c,a⟩,⟨bS,trivial⟩,trivial,bV c⟩
 ·have h:¬k<p.impls.length:=by rw[e] at h;omega
  rw[bW h,f] at a;exact aC rfl (by rw[<-a];rfl)
structure LM (p:Prog) (pa d:Int) (t:Ty) (V:Bool) (fr:Ty->Bool):Prop where
 hA:t.kind=1\/t.kind=6->V=(decide (t.id=0)&&decide ((t.args.length:Int)=0))
 hP:t.kind=5->V=(decide (0<=t.id)&&decide (t.id<pa)&&decide ((t.args.length:Int)=0))
 hD0:t.kind=2->(t.id<0\/(p.datas.length:Int)<=t.id)->V=false
 hD:t.kind=2->∀dd,0<=t.id->p.datas[t.id.toNat]?=some dd->V=(decide ((t.args.length:Int)=dd.params)&&t.args.all fun x=>iN x&&fr x)
 hB:t.kind=3\/t.kind=4\/t.kind=8->V=(decide (t.id=0)&&decide ((t.args.length:Int)=1)&&t.args.all fun x=>iN x&&fr x)
 hS0:t.kind=7->¬(t.id=0/\(t.args.length:Int)=1)->V=false
 hS:t.kind=7->t.id=0->∀x,t.args=[x]->V=if x.kind=6 then fr x else t.args.all fun x=>iN x&&fr x
 hO:t.kind<1\/8<t.kind->V=false
theorem Um (p:Prog) (pa d:Int) (t:Ty) (h:d<1):CallsT P 99 [pq p,IC pa,aT t,IC d] [] (aU [] (.bool false)):=by
 refine af Try.func99 Gq rfl fun a _=>?_;refine ah (fun _=>?_) (fun q=>vv h q);exact aC rfl rfl
theorem Xf (p:Prog) (pa d:Int) (t:Ty) (V:Bool) (v:Ty->Bool) (hd:1<=d/\d<=100) (X:LM p pa d t V v) (ih:∀x∈t.args,CallsT P 99 [pq p,IC pa,aT x,IC (d-1)] [] (aU [] (.bool (v x)))):CallsT P 99 [pq p,IC pa,aT t,IC d] [] (aU [] (.bool V)):=by
 obtain⟨hA,hP,hD0,hD,hB,hS0,hS,hO⟩:=X;have z:=XT;have o:(t.args.map aM).length=t.args.length:=aaP _;have aE:(p.datas.map nR).length=p.datas.length:=aaP _;generalize iN=sto at z hD hB hS;have w:((t.args.map aM).length:Int)=t.args.length:=by rw[o]
 have p3:t.kind=5->0<=t.id->t.id<pa->decide (((t.args.map aM).length:Int)=0)=V:=fun k a b=>by rw[hP k,aaS a,aaS b,w];rfl
 have p2:t.kind=5->0<=t.id->¬t.id<pa->false=V:=fun k a b=>by rw[hP k,aaT b,abk];rfl
 have p1:t.kind=5->¬0<=t.id->false=V:=fun k a=>by rw[hP k,aaT a];rfl
 have b0:t.kind=3\/t.kind=4\/t.kind=8->¬t.id=0->false=V:=fun k a=>by rw[hB k,aaT a];rfl
 have b1:t.kind=3\/t.kind=4\/t.kind=8->t.id=0->¬((t.args.map aM).length:Int)=1->false=V:=fun k a b=>by rw[hB k,aaT (show¬(t.args.length:Int)=1 by rw[<-w];exact b),abk];rfl
 have b2:t.kind=3\/t.kind=4\/t.kind=8->t.id=0->((t.args.map aM).length:Int)=1->t.args.all (fun x=>sto x&&v x)=V:=fun k a b=>by rw[hB k,aaS a,aaS (show(t.args.length:Int)=1 by rw[<-w];exact b)];rfl
 have s0:t.kind=7->¬t.id=0->false=V:=fun k a=>(hS0 k fun q=>a q.1).symm;have s1:t.kind=7->¬((t.args.map aM).length:Int)=1->false=V:=fun k a=>(hS0 k fun q=>a (by rw[w];exact q.2)).symm;have d2:∀y:Api.Data,t.kind=2->0<=t.id->p.datas[t.id.toNat]?=some y->¬((t.args.map aM).length:Int)=y.params->false=V:=fun y k a b c=>by rw[hD k y a b,aaT (show¬(t.args.length:Int)=y.params by rw[<-w];exact c),aaY]
 have d3:∀y:Api.Data,t.kind=2->0<=t.id->p.datas[t.id.toNat]?=some y->((t.args.map aM).length:Int)=y.params->t.args.all (fun x=>sto x&&v x)=V:=fun y k a b c=>by rw[hD k y a b,aaS (show(t.args.length:Int)=y.params by rw[<-w];exact c),aaV]
 have one:((t.args.map aM).length:Int)=1->∃x,t.args=[x]/\t.args[0]?=some x:=fun h=>by
  rw[w] at h
  match t.args,h with
  | [x],_=>exact⟨x,rfl,rfl⟩
 generalize hg:(fun x=>sto x&&v x)=g at b2 d3 hS;have hg:∀x,g x=(sto x&&v x):=fun x=>by rw[<-hg]
 refine af Try.func99 Gq rfl fun hw _=>?_;have bb:t.args.length<=9223372036854775807:=gO hw.2.2.1.2.2.1;refine ah (fun q=>vv hd.1 (by omega)) (fun _=>?_);refine ah (fun k1=>ah (fun _=>ah (fun i0=>?_) (fun i0=>?_)) (fun q=>vv k1 q)) (fun k1=>ah (fun k6=>ah (fun i0=>?_) (fun i0=>?_)) (fun k6=>?_))
 ·exact aC rfl (xo C.bool (by rw[hA (.inl k1),aaS (show t.id=0 from i0),aaV,<-o]))
 ·exact aC rfl (xo C.bool (by rw[hA (.inl k1),aaT (show¬t.id=0 from i0),aaY]))
 ·exact aC rfl (xo C.bool (by rw[hA (.inr k6),aaS (show t.id=0 from i0),aaV,<-o]))
 ·exact aC rfl (xo C.bool (by rw[hA (.inr k6),aaT (show¬t.id=0 from i0),aaY]))
 refine ah (fun k5=>ah (fun a=>ah (fun b=>aC rfl (xo C.bool (p3 k5 a b))) (fun b=>aC rfl (xo C.bool (p2 k5 a b)))) (fun a=>aC rfl (xo C.bool (p1 k5 a)))) (fun k5=>?_);refine ah (fun k2=>ah (fun a=>aC rfl (xo C.bool (hD0 k2 (.inl a)).symm)) (fun a=>ah (fun b=>aC rfl (xo C.bool (hD0 k2 (.inr (by rw[<-aE];exact b))).symm)) (fun b=>vU (j8 (l:=p.datas) (k:=t.id.toNat) (by have b:¬t.id>=((p.datas.map nR).length:Int):=b;omega)) fun y ad=>OT (by omega) ad <| aX (fun c=>aC rfl (xo C.bool (d2 y k2 (by omega) ad c))) (fun c=>?_)))) (fun k2=>?_)
 ·have e:=d3 y k2 (by omega) ad c;refine cu t.args.length 10 [] () (fun _=>[]) (fun _=>[]) (fun k _=>(t.args.drop k).all g=V) e (ak rfl) trivial trivial (fun _=>rfl) (fun _=>rfl) ?_;rintro k _ hk f _ _ _;have f:(t.args.drop k).all g=V:=f;refine ah (fun j=>?_) (fun n=>?_)
  ·have j:k<t.args.length:=by rw[o] at j;omega
   refine aZ j fun x s r u=>?_;rw[u,abf,hg] at f;refine cP s ?_;refine bL (z x) rfl fun _=>?_;refine aq (fun q=>?_) (fun q=>?_)
   ·have q:sto x=false:=by simpa using q
    rw[q,aaY,aaY] at f;exact aC rfl (xo C.bool f)
   have q:sto x=true:=by simpa using q
   rw[q,aaV] at f;refine cP s ?_;refine Fit.aag (by omega) (by omega) ?_;refine bL (ih x r) rfl fun _=>?_;refine aq (fun m=>?_) (fun m=>?_)
   ·have m:v x=false:=by simpa using m
    rw[m,aaY] at f;exact aC rfl (xo C.bool f)
   have m:v x=true:=by simpa using m
   rw[m,aaV] at f;refine Fit.aag (by omega) (by omega) ?_;exact⟨(k+1,()),⟨j,f⟩,⟨bS,trivial⟩,trivial,bV j⟩
  ·have n:¬k<t.args.length:=by rw[o] at n;omega
   rw[bW n] at f;exact aC rfl (xo C.bool f)
 have bk:∀K:(t.kind=3\/t.kind=4\/t.kind=8),t.id=0->((t.args.map aM).length:Int)=1->t.args.all g=V:=b2;refine ah (fun k3=>ah (fun _=>aX (fun a=>aC rfl (xo C.bool (b0 (.inl k3) a))) (fun a=>aX (fun b=>aC rfl (xo C.bool (b1 (.inl k3) a b))) (fun b=>?_))) (fun q=>vv k3 q)) (fun k3=>?_)
 ·have e:=b2 (.inl k3) a b;refine cu t.args.length 10 [] () (fun _=>[]) (fun _=>[]) (fun k _=>(t.args.drop k).all g=V) e (ak rfl) trivial trivial (fun _=>rfl) (fun _=>rfl) ?_;rintro k _ hk f _ _ _;have f:(t.args.drop k).all g=V:=f;refine ah (fun j=>?_) (fun n=>?_)
  ·have j:k<t.args.length:=by rw[o] at j;omega
   refine aZ j fun x s r u=>?_;rw[u,abf,hg] at f;refine cP s ?_;refine bL (z x) rfl fun _=>?_;refine aq (fun q=>?_) (fun q=>?_)
   ·have q:sto x=false:=by simpa using q
    rw[q,aaY,aaY] at f;exact aC rfl (xo C.bool f)
   have q:sto x=true:=by simpa using q
   rw[q,aaV] at f;refine cP s ?_;refine Fit.aag (by omega) (by omega) ?_;refine bL (ih x r) rfl fun _=>?_;refine aq (fun m=>?_) (fun m=>?_)
   ·have m:v x=false:=by simpa using m
    rw[m,aaY] at f;exact aC rfl (xo C.bool f)
   have m:v x=true:=by simpa using m
   rw[m,aaV] at f;refine Fit.aag (by omega) (by omega) ?_;exact⟨(k+1,()),⟨j,f⟩,⟨bS,trivial⟩,trivial,bV j⟩
  ·have n:¬k<t.args.length:=by rw[o] at n;omega
   rw[bW n] at f;exact aC rfl (xo C.bool f)
 refine ah (fun k4=>ah (fun _=>aX (fun a=>aC rfl (xo C.bool (b0 (.inr (.inl k4)) a))) (fun a=>aX (fun b=>aC rfl (xo C.bool (b1 (.inr (.inl k4)) a b))) (fun b=>?_))) (fun q=>vv k4 q)) (fun k4=>?_)
 ·have e:=b2 (.inr (.inl k4)) a b;refine cu t.args.length 10 [] () (fun _=>[]) (fun _=>[]) (fun k _=>(t.args.drop k).all g=V) e (ak rfl) trivial trivial (fun _=>rfl) (fun _=>rfl) ?_;rintro k _ hk f _ _ _;have f:(t.args.drop k).all g=V:=f;refine ah (fun j=>?_) (fun n=>?_)
  ·have j:k<t.args.length:=by rw[o] at j;omega
   refine aZ j fun x s r u=>?_;rw[u,abf,hg] at f;refine cP s ?_;refine bL (z x) rfl fun _=>?_;refine aq (fun q=>?_) (fun q=>?_)
   ·have q:sto x=false:=by simpa using q
    rw[q,aaY,aaY] at f;exact aC rfl (xo C.bool f)
   have q:sto x=true:=by simpa using q
   rw[q,aaV] at f;refine cP s ?_;refine Fit.aag (by omega) (by omega) ?_;refine bL (ih x r) rfl fun _=>?_;refine aq (fun m=>?_) (fun m=>?_)
   ·have m:v x=false:=by simpa using m
    rw[m,aaY] at f;exact aC rfl (xo C.bool f)
   have m:v x=true:=by simpa using m
   rw[m,aaV] at f;refine Fit.aag (by omega) (by omega) ?_;exact⟨(k+1,()),⟨j,f⟩,⟨bS,trivial⟩,trivial,bV j⟩
  ·have n:¬k<t.args.length:=by rw[o] at n;omega
   rw[bW n] at f;exact aC rfl (xo C.bool f)
 refine ah (fun k8=>aX (fun a=>aC rfl (xo C.bool (b0 (.inr (.inr k8)) a))) (fun a=>aX (fun b=>aC rfl (xo C.bool (b1 (.inr (.inr k8)) a b))) (fun b=>?_))) (fun k8=>?_)
 ·have e:=b2 (.inr (.inr k8)) a b;refine cu t.args.length 10 [] () (fun _=>[]) (fun _=>[]) (fun k _=>(t.args.drop k).all g=V) e (ak rfl) trivial trivial (fun _=>rfl) (fun _=>rfl) ?_;rintro k _ hk f _ _ _;have f:(t.args.drop k).all g=V:=f;refine ah (fun j=>?_) (fun n=>?_)
  ·have j:k<t.args.length:=by rw[o] at j;omega
   refine aZ j fun x s r u=>?_;rw[u,abf,hg] at f;refine cP s ?_;refine bL (z x) rfl fun _=>?_;refine aq (fun q=>?_) (fun q=>?_)
   ·have q:sto x=false:=by simpa using q
    rw[q,aaY,aaY] at f;exact aC rfl (xo C.bool f)
   have q:sto x=true:=by simpa using q
   rw[q,aaV] at f;refine cP s ?_;refine Fit.aag (by omega) (by omega) ?_;refine bL (ih x r) rfl fun _=>?_;refine aq (fun m=>?_) (fun m=>?_)
   ·have m:v x=false:=by simpa using m
    rw[m,aaY] at f;exact aC rfl (xo C.bool f)
   have m:v x=true:=by simpa using m
   rw[m,aaV] at f;refine Fit.aag (by omega) (by omega) ?_;exact⟨(k+1,()),⟨j,f⟩,⟨bS,trivial⟩,trivial,bV j⟩
  ·have n:¬k<t.args.length:=by rw[o] at n;omega
   rw[bW n] at f;exact aC rfl (xo C.bool f)
 refine ah (fun k7=>aX (fun a=>aC rfl (xo C.bool (s0 k7 a))) (fun a=>aX (fun b=>aC rfl (xo C.bool (s1 k7 b))) (fun b=>vU (one b) fun x s=>?_))) (fun k7=>?_)
 ·have e7:V=if x.kind=6 then v x else t.args.all g:=hS k7 a x s.1;refine cP (k:=0) s.2 ?_;refine ah (fun x6=>?_) (fun x6=>?_)
  ·have e:v x=V:=by rw[e7,o5 (show x.kind=6 from x6)]
   refine cP (k:=0) s.2 ?_;refine Fit.aag (by omega) (by omega) ?_;refine bL (ih x (by rw[s.1];exact .head _)) rfl fun _=>?_;exact aC rfl (xo C.bool e)
  have e:t.args.all g=V:=by rw[e7,q9 (show¬x.kind=6 from x6)]
  refine cu t.args.length 10 [] () (fun _=>[]) (fun _=>[]) (fun k _=>(t.args.drop k).all g=V) e (ak rfl) trivial trivial (fun _=>rfl) (fun _=>rfl) ?_;rintro k _ hk f _ _ _;have f:(t.args.drop k).all g=V:=f;refine ah (fun j=>?_) (fun n=>?_)
  ·have j:k<t.args.length:=by rw[o] at j;omega
   refine aZ j fun x s r u=>?_;rw[u,abf,hg] at f;refine cP s ?_;refine bL (z x) rfl fun _=>?_;refine aq (fun q=>?_) (fun q=>?_)
   ·have q:sto x=false:=by simpa using q
    rw[q,aaY,aaY] at f;exact aC rfl (xo C.bool f)
   have q:sto x=true:=by simpa using q
   rw[q,aaV] at f;refine cP s ?_;refine Fit.aag (by omega) (by omega) ?_;refine bL (ih x r) rfl fun _=>?_;refine aq (fun m=>?_) (fun m=>?_)
   ·have m:v x=false:=by simpa using m
    rw[m,aaY] at f;exact aC rfl (xo C.bool f)
   have m:v x=true:=by simpa using m
   rw[m,aaV] at f;refine Fit.aag (by omega) (by omega) ?_;exact⟨(k+1,()),⟨j,f⟩,⟨bS,trivial⟩,trivial,bV j⟩
  ·have n:¬k<t.args.length:=by rw[o] at n;omega
   rw[bW n] at f;exact aC rfl (xo C.bool f)
 exact aC rfl (xo C.bool (hO (by
  have k1:¬t.kind=1:=k1;have k6:¬t.kind=6:=k6;have k5:¬t.kind=5:=k5;have k2:¬t.kind=2:=k2;have k3:¬t.kind=3:=k3;have k4:¬t.kind=4:=k4;have k8:¬t.kind=8:=k8;have k7:¬t.kind=7:=k7;omega)).symm)
def CH (p:Prog) (pa d:Int) (t:Ty):Bool:=decide ((cK t:Int)<=d)&&vV p.datas pa t
theorem Ea {d:Int}(a:1<=d):∀l:List Ty,decide ((cS l:Int)+1<=d)=l.all fun x=>decide ((cK x:Int)<=d-1)
 | []=>by rw[cS,List.all_nil,aa2];omega
 | t::l=>by
  rw[abf,<-Ea a l,cS,<-Bool.decide_and];exact decide_eq_decide.2 (by omega)
theorem Pg {a:Type}(f:a->Bool) (l:List a):(!l.any f)=l.all fun x=>!f x:=List.not_any_eq_all_not
theorem G8 {a:Type}(f g:a->Bool):∀l:List a,(l.all f&&l.all g)=l.all fun x=>f x&&g x
 | []=>rfl
 | x::l=>by
  rw[abf,abf,abf,<-G8 f g l];cases f x<;>cases g x<;>cases l.all f<;>rfl
theorem G9 {p:Prog}{pa d:Int}{t:Ty}(c:1<=d) (b:t.kind≠5) {n:Int}(e:CG p.datas t.kind t.id=some n) (h0:¬(t.kind≠2/\t.id≠0)) (f:t.kind≠7) :
  CH p pa d t=(decide ((t.args.length:Int)=n)&&t.args.all fun x=>iN x&&CH p pa (d-1) x):=by
 unfold CH;rw[mA,q9 b,e,dH];show(_&&if _ then _ else _)=_
 by_cases a:(t.args.length:Int)=n
 ·rw[q9 (by omega),aaS a,aaV,Pg,show((cS t.args+1:Nat):Int)=(cS t.args:Int)+1 by omega,Ea c,G8];congr 1
  funext x
  unfold Ff;rw[aaT f];cases iN x<;>cases vV p.datas pa x<;>simp
 ·rw[o5 (.inr a),aaT a,abk,aaY]
theorem LN (p:Prog) (pa d:Int) (t:Ty) (c:1<=d):LM p pa d t (CH p pa d t) (CH p pa (d-1)) where
 hA:=fun k=>by
  unfold CH;rw[mA,q9 (by omega),show CG p.datas t.kind t.id=some 0 by rw[CG,o5 k],dH];show(_&&if _ then _ else _)=_
  by_cases hi:t.id=0
  ·by_cases a:(t.args.length:Int)=0
   ·have:t.args=[]:=List.length_eq_zero_iff.1 (by omega);rw[q9 (by omega),this,aaS hi];simp[cS,c]
   ·rw[o5 (.inr a),aaT a,abk,abk]
  ·rw[o5 (.inl ⟨by omega,hi⟩),aaT hi,abk,aaY]
 hP:=fun k=>by
  unfold CH;rw[mA,o5 k,dH,show decide ((t.args.length:Int)=0)=decide (t.args.length=0) from decide_eq_decide.2 (by omega)]
  by_cases a:t.args.length=0
  ·have:t.args=[]:=List.length_eq_zero_iff.1 a;rw[this];simp[cS,c]
  ·rw[aaT a];simp
 hD0:=fun k h=>by
  unfold CH;rw[mA,q9 (by omega),CG,q9 (by omega),o5 k,o5 h,abk]
 hD:=fun k m h0 b=>by
  have l:=(aaU.1 b).1;exact G9 c (by omega) (by rw[CG,q9 (by omega),o5 k,q9 (by omega),b];rfl) (by omega) (by omega)
 hB:=fun k=>by
  by_cases hi:t.id=0
  ·rw[G9 c (by omega) (n:=1) (by rw[CG,q9 (by omega),q9 (by omega),o5 (by omega)]) (by omega) (by omega),aaS hi,aaV]
  ·unfold CH;rw[mA,q9 (by omega),show CG p.datas t.kind t.id=some 1 by rw[CG,q9 (by omega),q9 (by omega),o5 (by omega)]];show(_&&if _ then _ else _)=_;rw[o5 (.inl ⟨by omega,hi⟩),aaT hi,abk,aaY,aaY]
 hS0:=fun k h=>by
  unfold CH;rw[mA,q9 (by omega),show CG p.datas t.kind t.id=some 1 by rw[CG,q9 (by omega),q9 (by omega),o5 (by omega)]];show(_&&if _ then _ else _)=_;rw[o5 (by omega),abk]
 hS:=fun k hi x j=>by
  unfold CH;rw[mA,q9 (by omega),show CG p.datas t.kind t.id=some 1 by rw[CG,q9 (by omega),q9 (by omega),o5 (by omega)],dH];show(_&&if _ then _ else _)=_;rw[j,q9 (by simp[hi])];have e:decide (((cS [x]+1:Nat):Int)<=d)=decide ((cK x:Int)<=d-1):=decide_eq_decide.2 (by simp only[cS];omega);rw[e];unfold Ff;rw[aaS k];simp only[abF,List.any_nil,abf,List.all_nil]
  by_cases f:x.kind=6
  ·rw[o5 f,aaS f];simp
  ·rw[q9 f,aaT f];cases iN x<;>cases vV p.datas pa x<;>simp
 hO:=fun h=>by
  unfold CH;rw[mA,q9 (by omega),CG,q9 (by omega),q9 (by omega),q9 (by omega),abk]
theorem X3 (p:Prog) (pa:Int):∀(n:Nat) (t:Ty),n<=100->CallsT P 99 [pq p,IC pa,aT t,IC (n:Int)] [] (aU [] (.bool (CH p pa n t)))
 | 0,t,_=>by
  have:=Um p pa 0 t (by omega);have e:CH p pa ((0:Nat):Int) t=false:=by
   unfold CH;rw[dH,aaT (by omega),aaY]
  rw[e];exact this
 | n+1,t,h=>by
  have:=Xf p pa ((n+1:Nat):Int) t _ _ (by omega) (LN p pa ((n+1:Nat):Int) t (by omega)) fun x _=>by
   have:=X3 p pa n x (by omega);rw[show((n+1:Nat):Int)-1=(n:Int) by omega];exact this
  exact this
theorem t72 (p:Prog) (pa:Int) (t:Ty):CallsT P 72 [pq p,IC pa,aT t] [] (aU [] (.bool (iO p pa t))):=by
 have h:=X3 p pa 8 t (by omega);have e:iO p pa t=(decide (0<=pa)&&(decide (pa<=4)&&CH p pa ((8:Nat):Int) t)):=by
  unfold iO CH
  by_cases a:0<=pa
  ·by_cases b:pa<=4
   ·rw[aaS a,aaS b]
    by_cases c:cK t>8
    ·rw[o5 (by omega),aaT (by omega)];rfl
    ·rw[q9 (by omega),aaS (by omega)];rfl
   ·rw[o5 (by omega),aaT b];simp
  ·rw[o5 (by omega),aaT a];rfl
 rw[e];generalize CH p pa ((8:Nat):Int) t=v at h ⊢;refine af Try.func72 Oi rfl fun j _=>?_;refine ah (fun d=>?_) (fun d=>?_)
 ·refine ah (fun f=>?_) (fun f=>?_)
  ·refine bh h rfl fun _=>?_;exact aC rfl (xo C.bool (by rw[aaS (show 0<=pa from d),aaS (show pa<=4 from f)];rfl))
  ·exact aC rfl (xo C.bool (by rw[aaS (show 0<=pa from d),aaT (show¬pa<=4 from f)];rfl))
 ·exact aC rfl (xo C.bool (by rw[aaT (show¬0<=pa from d)];rfl))
mutual
/-- a parameter occurs -/
def qB (n:Int):Ty->Bool
 | .mk k i l=>if k=5 then decide (i=n) else He n l
def He (n:Int):List Ty->Bool
 | []=>false
 | x::l=>qB n x||He n l
end
theorem Bm (n:Int):∀l:List Ty,He n l=l.any (qB n)
 | []=>rfl
 | x::l=>by rw[He,Bm n l,abF]
theorem uh (n:Int) (t:Ty):qB n t=if t.kind=5 then decide (t.id=n) else t.args.any (qB n):=by
 cases t;rw[qB,Bm];rfl
theorem Xg (n:Int) (t:Ty) (V:Bool) (d:Ty->Bool) (o:t.kind=5->V=decide (t.id=n)) (p:t.kind≠5->t.args.any d=V) (m:∀x∈t.args,CallsT P 73 [IC n,aT x] [] (aU [] (.bool (d x)))):CallsT P 73 [IC n,aT t] [] (aU [] (.bool V)):=by
 have e:(t.args.map aM).length=t.args.length:=aaP _;refine af Try.func73 Oj rfl fun s _=>?_;have l:t.args.length<=9223372036854775807:=gO s.2.1.2.2.1;refine ah (fun f=>aC rfl (xo C.bool (o f).symm)) (fun f=>?_);refine cu t.args.length 5 [] () (fun _=>[]) (fun _=>[]) (fun k _=>(t.args.drop k).any d=V) (p f) (ak rfl) trivial trivial (fun _=>rfl) (fun _=>rfl) ?_;rintro k _ u a _ _ _;have a:(t.args.drop k).any d=V:=a;refine ah (fun b=>?_) (fun c=>?_)
 ·have b:k<t.args.length:=by rw[e] at b;omega
  refine aZ b fun x r h j=>?_;rw[j,abF] at a;refine cP r ?_;refine bh (m x h) rfl fun _=>?_;refine Bf (fun q=>?_) (fun q=>?_)
  ·rw[show d x=true from q,Bool.true_or] at a;exact aC rfl (xo C.bool a)
  rw[show d x=false from q,Bool.false_or] at a;refine Fit.aag (by omega) (by omega) ?_;exact⟨(k+1,()),⟨b,a⟩,⟨bS,trivial⟩,trivial,bV b⟩
 ·have c:¬k<t.args.length:=by rw[e] at c;omega
  rw[bW c] at a;exact aC rfl (xo C.bool a)
theorem t73 (n:Int):∀t:Ty,CallsT P 73 [IC n,aT t] [] (aU [] (.bool (qB n t))):=dL fun t a =>
 Xg n t _ (qB n) (fun h=>by rw[uh,o5 h]) (fun h=>by rw[uh,q9 h]) a
def uj (p:Prog) (x:Impl):Bool:=dR x.trait p.traits.length&&(!decide (x.module<0)&&(!decide (x.params<0)&&(!decide (x.params>4)&&(iN x.type&&iO p x.params x.type))))
theorem Xh (p:Prog) (x:Impl) (V v3:Bool) (v:Int->Bool) (l:aR->Bool) (e3:iO p x.params x.type=v3)
  (ac:CallsT P 72 [pq p,IC x.params,aT x.type] [] (aU [] (.bool v3)))
  (aa:∀k:Int,CallsT P 73 [IC k,aT x.type] [] (aU [] (.bool (v k))))
  (hb:0<=x.params->∀b,l b=!(dR b.param x.params.toNat&&dR b.trait p.traits.length))
  (o:uj p x=false->V=false) (y:uj p x=true->∀k:Int,0<=k->k<x.params->v k=false->V=false)
  (s:uj p x=true->(∀k:Int,0<=k->k<x.params->v k=true)->V=!x.bounds.any l) :
  CallsT P 31 [pq p,GZ x] [] (aU [] (.bool V)):=by
 have t:=XT x.type;have d:uj p x=(dR x.trait p.traits.length&&(!decide (x.module<0)&&(!decide (x.params<0)&&(!decide (x.params>4)&&(iN x.type&&v3))))):=by rw[<-e3];rfl
 generalize iN x.type=v2 at t d;generalize uj p x=pre at d o y s;have i1:∀(a:Int) (n:Nat),¬a<0->¬a>=n->dR a n=true:=fun a n h1 u=>fu.2 ⟨by omega,by omega⟩;have i2:∀(a:Int) (n:Nat),(a<0\/a>=n)->dR a n=false:=fun a n h=>by
  rw[<-ab3,fu];omega
 have w:(KT p.traits).length=p.traits.length:=by simp[KT]
 have r:(x.bounds.map aS).length=x.bounds.length:=aaP _;refine af Try.func31 NV rfl fun hw _=>?_;have al:x.bounds.length<=9223372036854775807:=by have:=gL hw.2.1.2.2.2.1;rwa [r] at this
 refine ah (fun q=>aC rfl (xo C.bool (o (by rw[d,i2 _ _ (.inl q)];rfl)).symm)) (fun q1=>?_);refine ah (fun q=>aC rfl (xo C.bool (o (by rw[d,i2 _ _ (.inr (by rw[<-w];exact q))];rfl)).symm)) (fun z=>?_);have z:¬x.trait>=p.traits.length:=by rw[<-w];exact z
 have d:=d;rw[i1 _ _ q1 z,aaV] at d;refine ah (fun q=>aC rfl (xo C.bool (o (by rw[d,aaS (show x.module<0 from q)];rfl)).symm)) (fun q3=>?_);rw[aaT (show¬x.module<0 from q3),ab0,aaV] at d;refine ah (fun q=>aC rfl (xo C.bool (o (by rw[d,aaS (show x.params<0 from q)];rfl)).symm)) (fun q4=>?_);have q4:¬x.params<0:=q4;rw[aaT q4,ab0,aaV] at d;refine ah (fun q=>aC rfl (xo C.bool (o (by rw[d,aaS (show x.params>4 from q)];rfl)).symm)) (fun q5=>?_);have q5:¬x.params>4:=q5;rw[aaT q5,ab0,aaV] at d;refine bh t rfl fun _=>?_;refine aq (fun q=>?_) (fun q6=>?_)
 ·exact aC rfl (xo C.bool (o (by rw[d,show v2=false by simpa using q];rfl)).symm)
 rw[show v2=true by simpa using q6,aaV] at d;refine bh ac rfl fun _=>?_;refine aq (fun q=>?_) (fun q7=>?_)
 ·exact aC rfl (xo C.bool (o (by rw[d,show v3=false by simpa using q])).symm)
 have d:pre=true:=by rw[d];simpa using q7
 have y:=y d;have s:=s d;have hb:=hb (by omega);refine cu x.params.toNat 5 [] () (fun _=>[]) (fun _=>[]) (fun k _=>∀i:Int,0<=i->i<k->v i=true) (fun i h1 u=>vv u (by omega)) (ak rfl) trivial trivial (fun _=>rfl) (fun _=>rfl) ?_;rintro k _ hk m _ _ _;refine ah (fun e=>?_) (fun f=>?_)
 ·have e:(k:Int)<x.params:=e;refine bh (aa k) rfl fun _=>?_;refine aq (fun q=>?_) (fun q=>?_)
  ·exact aC rfl (xo C.bool (y k (by omega) e (by simpa using q)).symm)
  ·refine Fit.aag (by omega) (by omega) ?_;refine⟨(k+1,()),⟨by omega,fun i h1 u=>?_⟩,⟨bS,trivial⟩,trivial,by show x.params.toNat-(k+1)<x.params.toNat-k;omega⟩
   by_cases hi:i=k
   ·rw[hi];simpa using q
   ·exact m i h1 (by have:i<((k+1:Nat):Int):=u;omega)
 ·have f:¬(k:Int)<x.params:=f;have s:=s fun i h1 u=>m i h1 (by omega);refine cu x.bounds.length 6 [] () (fun _=>[]) (fun _=>[]) (fun k _=>(!(x.bounds.drop k).any l)=V) s.symm (ak rfl) trivial trivial (fun _=>rfl) (fun _=>rfl) ?_;rintro j _ hj c _ _ _;have c:(!(x.bounds.drop j).any l)=V:=c;refine ah (fun e=>?_) (fun f=>?_)
  ·have e:j<x.bounds.length:=by rw[r] at e;omega
   refine aZ e fun b ab am ae=>?_;rw[ae,abF,hb] at c;refine Bg (by omega) (show x.bounds[((j:Int)).toNat]?=some b from ab) ?_;refine ah (fun q=>?_) (fun r1=>?_)
   ·rw[i2 b.param _ (.inl q)] at c;exact aC rfl (xo C.bool c)
   refine ah (fun q=>?_) (fun r2=>?_)
   ·rw[i2 b.param _ (.inr (show b.param>=((x.params.toNat:Nat):Int) by have:b.param>=x.params:=q;omega))] at c;exact aC rfl (xo C.bool c)
   rw[i1 b.param x.params.toNat r1 (by have:¬b.param>=x.params:=r2;omega)] at c;refine ah (fun q=>?_) (fun r3=>?_)
   ·rw[i2 b.trait _ (.inl q)] at c;exact aC rfl (xo C.bool c)
   refine ah (fun q=>?_) (fun r4=>?_)
   ·rw[i2 b.trait _ (.inr (by rw[<-w];exact q))] at c;exact aC rfl (xo C.bool c)
   rw[i1 b.trait p.traits.length r3 (by rw[<-w];exact r4)] at c;refine Fit.aag (by omega) (by omega) ?_;exact⟨(j+1,()),⟨e,c⟩,⟨bS,trivial⟩,trivial,bV e⟩
  ·have f:¬j<x.bounds.length:=by rw[r] at f;omega
   rw[bW f] at c;exact aC rfl (xo C.bool c)
theorem zb (ds:List Api.Data) (n:Nat):∀(t:Ty) (o:List Bool),vV ds n t=true->o.length=n->∀k:Nat,k<n->(mark t o)[k]?=some (qB k t||(o[k]?).getD false):=dL (p:=fun t=>∀o:List Bool,vV ds n t=true->o.length=n->∀k:Nat,k<n->(mark t o)[k]?=some (qB k t||(o[k]?).getD false)) fun t r o q h k s=>by
 have w:∀(l:List Ty),(∀x∈l,∀o:List Bool,vV ds n x=true->o.length=n->∀k:Nat,k<n->(mark x o)[k]?=some (qB k x||(o[k]?).getD false))->(∀x∈l,vV ds n x=true)->∀o:List Bool,o.length=n->(nV l o)[k]?=some (l.any (qB k)||(o[k]?).getD false):=by
  intro l
  induction l with
  | nil =>
   intro _ _ o h;rw[nV];obtain⟨b,hb⟩:=j8 (l:=o) (k:=k) (by omega);rw[hb];rfl
  | cons x l j =>
   intro h1 m o h;rw[nV,j (fun y f=>h1 y (.tail _ f)) (fun y f=>m y (.tail _ f)) _ (by rw[qy,h]),h1 x (.head _) o (m x (.head _)) h k s,abF];cases l.any (qB k)<;>cases qB k x<;>simp
 rw[mark_eq,uh]
 by_cases d:t.kind=5
 ·obtain⟨a,b,c⟩:=wG q d;rw[o5 d,o5 d,c,nV,List.getElem?_set];have z:t.id.toNat<o.length:=by omega
  by_cases e:t.id.toNat=k
  ·rw[o5 e,o5 z,aaS (by omega),Bool.true_or]
  ·obtain⟨y,f⟩:=j8 (l:=o) (k:=k) (by omega);rw[q9 e,aaT (by omega),f];rfl
 ·obtain⟨_,_,_,u⟩:=wH q d;rw[q9 d,q9 d];exact w t.args r (fun x v=>(u x v).2) o h
theorem t31 (p:Prog) (x:Impl):CallsT P 31 [pq p,GZ x] [] (aU [] (.bool (gN p x))):=by
 have l:uj p x=false->gN p x=false:=fun h=>by
  unfold uj at h;unfold gN;have:iO p x.params x.type=true->decide (x.params<0)=false/\decide (x.params>4)=false:=fun w=>by
   obtain⟨a,b,_⟩:=qA w;exact⟨aaT (by omega),aaT (by omega)⟩
  cases h1:dR x.trait p.traits.length<;>rw[h1] at h<;>cases v:decide (x.module<0)<;>rw[v] at h<;>cases r:iN x.type<;>rw[r] at h<;>cases q:iO p x.params x.type<;>rw[q] at h<;>(try rfl);have:=this q;rw[this.1,this.2] at h;cases h
 have f:uj p x=true->dR x.trait p.traits.length=true/\decide (x.module<0)=false/\iN x.type=true/\iO p x.params x.type=true:=fun h=>by
  unfold uj at h;simp only[aaN,Bool.not_eq_true'] at h;exact⟨h.1,h.2.1,h.2.2.2.2.1,h.2.2.2.2.2⟩
 refine Xh p x _ _ (fun k=>qB k x.type) (ug p x.params.toNat) rfl (t72 p x.params x.type) (fun k=>t73 k x.type) (fun _ b=>by unfold ug;rw[Bool.not_and]) l (fun h k h0 h1 u=>?_) fun h e=>?_
 ·obtain⟨a,b,c,d⟩:=f h;obtain⟨y,s,t,m⟩:=qA d;have:(mark x.type (List.replicate x.params.toNat false)).any (fun b=>!b)=true:=by
   have:=zb p.datas x.params.toNat x.type (List.replicate x.params.toNat false) (by rw[show((x.params.toNat:Nat):Int)=x.params by omega];exact m) aby k.toNat (by omega);rw[show((k.toNat:Nat):Int)=k by omega,u,ab2,o5 (by omega)] at this;rw[abT];exact⟨false,aaZ this,rfl⟩
  unfold gN;rw[this];simp
 ·obtain⟨a,b,c,d⟩:=f h;obtain⟨y,s,t,m⟩:=qA d;have:(mark x.type (List.replicate x.params.toNat false)).any (fun b=>!b)=false:=by
   rw[abX];intro b hb;obtain⟨k,j,n⟩:=List.mem_iff_getElem.1 hb;have o:k<x.params.toNat:=by rw[qy,aby] at j;exact j
   have:=zb p.datas x.params.toNat x.type (List.replicate x.params.toNat false) (by rw[show((x.params.toNat:Nat):Int)=x.params by omega];exact m) aby k o;rw[e k (by omega) (by omega),aaQ j,n] at this;have:b=true:=by simpa using this
   rw[this];simp
  unfold gN;rw[a,b,c,d,this];simp
theorem Ph {b:Bool}{p:Prop}(h:b=true↔p):(p->b=true)/\(¬p->b=false):=⟨h.2,fun n=>by rw[<-ab3];exact fun q=>n (h.1 q)⟩
theorem Un (t:Ty):CallsT P 12 [.sl [[IC t.kind,IC t.id,.sl (t.args.map aM)]]] [] (aU [] (.bool (jJ [t]))):=by
 have:=t12 [t];rw[aa0,abE,iM] at this;exact this
def Bn (p:Prog) (a:List aR):Bool:=!decide (20<p.datas.length)&&(!decide (12<p.impls.length)&&(!decide (10<a.length)&&p.impls.all fun x=>!decide (6<x.bounds.length)&&jJ [x.type]))
theorem t30 (p:Prog) (c:List aR):CallsT P 30 [pq p,.sl (c.map aS)] [] (aU [] (.bool (Bn p c))):=by
 have h12:=fun x:Impl=>Un x.type;have e:Bn p c=(!decide (20<p.datas.length)&&(!decide (12<p.impls.length)&&(!decide (10<c.length)&&p.impls.all fun x=>!decide (6<x.bounds.length)&&jJ [x.type]))):=rfl;have l:∀x:Impl,(fun x:Impl=>!decide (6<x.bounds.length)&&jJ [x.type]) x=(!decide (6<x.bounds.length)&&jJ [x.type]):=fun x=>rfl;generalize(fun x:Impl=>!decide (6<x.bounds.length)&&jJ [x.type])=g at e l;generalize jJ=sm at h12 l;generalize Bn p c=V at e ⊢;have z:(p.datas.map nR).length=p.datas.length:=aaP _;have h:(p.impls.map dF).length=p.impls.length:=aaP _;have y:(c.map aS).length=c.length:=aaP _;have f:∀x:Impl,(x.bounds.map aS).length=x.bounds.length:=fun x=>aaP _;refine af Try.func30 NU rfl fun v _=>?_;have n:p.impls.length<=9223372036854775807:=by have:=gL v.1.2.2.2.2.2.1;rwa [h] at this
 refine ah (fun q=>?_) (fun o=>?_)
 ·have q:((p.datas.map nR).length:Int)>20:=q;exact aC rfl (xo C.bool (by rw[e,aaS (by omega)];rfl))
 have o:¬((p.datas.map nR).length:Int)>20:=o;refine ah (fun q=>?_) (fun m=>?_)
 ·have q:((p.impls.map dF).length:Int)>12:=q;exact aC rfl (xo C.bool (by rw[e,aaS (show 12<p.impls.length by omega)];simp))
 have m:¬((p.impls.map dF).length:Int)>12:=m;refine ah (fun q=>?_) (fun r=>?_)
 ·have q:((c.map aS).length:Int)>10:=q;exact aC rfl (xo C.bool (by rw[e,aaS (show 10<c.length by omega)];simp))
 have r:¬((c.map aS).length:Int)>10:=r;have e:p.impls.all g=V:=by
  rw[e,aaT (show¬20<p.datas.length by omega),aaT (show¬12<p.impls.length by omega),aaT (show¬10<c.length by omega)];rfl
 refine cu p.impls.length 5 [] () (fun _=>[]) (fun _=>[]) (fun k _=>(p.impls.drop k).all g=V) e (ak rfl) trivial trivial (fun _=>rfl) (fun _=>rfl) ?_;rintro k _ w a _ _ _;have a:(p.impls.drop k).all g=V:=a;refine ah (fun b=>?_) (fun d=>?_)
 ·have b:k<p.impls.length:=by rw[h] at b;omega
  refine aZ b fun x s t j=>?_;have u:=f x;rw[j,abf,l] at a;refine yV (by omega) (show p.impls[((k:Int)).toNat]?=some x from s) ?_;refine ah (fun q=>?_) (fun q=>?_)
  ·have q:((x.bounds.map aS).length:Int)>6:=q;rw[aaS (show 6<x.bounds.length by omega)] at a;exact aC rfl (xo C.bool (by rw[<-a];rfl))
  have q:¬((x.bounds.map aS).length:Int)>6:=q;rw[aaT (show¬6<x.bounds.length by omega),ab0,aaV] at a;refine yV (by omega) (show p.impls[((k:Int)).toNat]?=some x from s) ?_;refine bh (h12 x) rfl fun _=>?_;refine aq (fun q=>?_) (fun q=>?_)
  ·rw[show sm [x.type]=false by simpa using q] at a;exact aC rfl (xo C.bool (by rw[<-a];rfl))
  rw[show sm [x.type]=true by simpa using q,aaV] at a;refine Fit.aag (by omega) (by omega) ?_;exact⟨(k+1,()),⟨b,a⟩,⟨bS,trivial⟩,trivial,bV b⟩
 ·have d:¬k<p.impls.length:=by rw[h] at d;omega
  rw[bW d] at a;exact aC rfl (xo C.bool a)
structure cn where
 tr:Int
 t:Ty
def jV (g:cn):List C:=[IC g.tr,IC g.t.kind,IC g.t.id,.sl (g.t.args.map aM)]
inductive gS where
 | mk (assumed:Bool) (index:Int) (types:List Ty) (proofs:List gS)
def gS.assumed:gS->Bool | .mk b _ _ _=>b
def gS.index:gS->Int | .mk _ i _ _=>i
def gS.types:gS->List Ty | .mk _ _ l _=>l
def gS.proofs:gS->List gS | .mk _ _ _ l=>l
mutual
def iq:gS->List C
 | .mk b i l ps=>[.bool b,IC i,.sl (l.map aM),.sl (Pk ps)]
def Pk:List gS->List (List C)
 | []=>[]
 | p::l=>iq p::Pk l
end
theorem Eb:∀l:List gS,Pk l=l.map iq
 | []=>rfl
 | p::l=>by rw[Pk,Eb l,aa0]
theorem jf (p:gS):iq p=[.bool p.assumed,IC p.index,.sl (p.types.map aM),.sl (p.proofs.map iq)]:=by
 cases p;rw[iq,Eb];rfl
noncomputable def iw (h g:cn):Bool:=decide (h.tr=g.tr)&&zw (h.t=g.t)
theorem t79 (h g:cn):CallsT P 79 [.agg (jV h),.pt (jV g) 0] [] (aU [] (.bool (iw h g))):=by
 have a:=X1 h.t g.t;rw[qo] at a;unfold iw;generalize zw (h.t=g.t)=b at a ⊢;refine af Try.func79 Om rfl fun c _=>?_;refine ah (fun q=>?_) (fun q=>?_)
 ·refine bh a rfl fun _=>?_;exact aC rfl (xo C.bool (by rw[aaS (show h.tr=g.tr from q),aaV]))
 ·exact aC rfl (xo C.bool (by rw[aaT (show¬h.tr=g.tr from q),aaY]))
theorem Uq {l:List cn}{k:Nat}{x:cn}{K:List C->Prop}(a:l[k]?=some x) (h:K (jV x)):EI (l.map jV) k 0 4 K :=
 ⟨jV x,by rw[aa9,a];rfl,rfl,h⟩
theorem Pm:ul Try.f101 0=true:=by kernel_rfl
theorem Se:ul Try.f78 0=true:=by kernel_rfl
abbrev zQ (gs:List cn):TO:=.row 110 4 (gs.map jV)
theorem Xi (gs:List cn) (g:cn) (l:gs.length<=400):iD P 101 [.rw 1000,.fn 79 [] [.pt (jV g) 0]] [zQ gs] (aU [zQ gs] (IC (br (fun h=>iw h g) gs 0))):=by
 have c:=fun h=>t79 h g;generalize e:(fun h=>iw h g)=q;have c:∀h:cn,CallsT P 79 [.agg (jV h),.pt (jV g) 0] [] (aU [] (.bool (q h))):=fun h=>by rw[<-e];exact c h
 have f:(gs.map jV).length=gs.length:=aaP _;refine rI 0 (.rw 1000) Try.func101 KA rfl Pm rfl rfl rfl fun r n=>?_;refine cu gs.length 8 [0] () (fun _=>[.rw 1000]) (fun _=>[(1000,zQ gs)]) (fun k _=>br q (gs.drop k) k=br q gs 0) rfl (ak rfl) ⟨ak rfl,trivial⟩ ⟨.inl ⟨_,rfl,.inl ⟨rfl,rfl⟩⟩,trivial⟩ (fun _=>rfl) (fun _=>rfl) ?_;rintro k _ p b _ _ _;refine ah (fun a=>?_) (fun d=>?_)
 ·have a:k<gs.length:=by rw[f] at a;omega
  refine aZ a fun x o m j=>?_;refine FH.mk (by omega) (by omega) ?_;refine Uq o ?_;refine bh (c x) rfl fun _=>?_;refine aq (fun e=>?_) (fun e=>?_)
  ·exact Sc rfl rfl rfl rfl (xo IC (nW j b e))
  ·refine Fit.aag (by omega) (by omega) ?_;exact⟨(k+1,()),⟨a,qz j b e⟩,⟨bS,ak rfl,trivial⟩,⟨.inl ⟨_,rfl,.inl ⟨rfl,rfl⟩⟩,trivial⟩,bV a⟩
 ·have d:¬k<gs.length:=by rw[f] at d;omega
  exact Sc rfl rfl rfl rfl (xo IC (nX d b))
theorem t78 (gs:List cn) (g:cn) (a:gs.length<=400):iD P 78 [.rw 1000,.fn 79 [] [.pt (jV g) 0]] [zQ gs] (aU [zQ gs] (.bool (gs.any fun h=>iw h g))):=by
 have h1:=Xi gs g a;have e:=vh (fun h=>iw h g) gs;generalize br (fun h=>iw h g) gs 0=n at h1 e;refine rI 0 (.rw 1000) Try.func78 Ol rfl Se rfl rfl rfl fun b _=>?_;refine Cz [1000] h1 rfl rfl rfl rfl rfl ?_;exact Sc rfl rfl rfl rfl (xo C.bool e)
def lJ (g:cn) (b:aR):Bool:=decide (g.t.kind=5)&&(decide (b.param=g.t.id)&&decide (b.trait=g.tr))
theorem t82 (g:cn) (b:aR):CallsT P 82 [.agg (aS b),.pt (jV g) 0] [] (aU [] (.bool (lJ g b))):=by
 unfold lJ;refine af Try.func82 Oq rfl fun a _=>?_;refine ah (fun q=>?_) (fun q=>?_)
 ·refine aC rfl (xo C.bool ?_);rw[aaS (show g.t.kind=5 from q),aaV]
  first | rfl | trace_state
 ·exact aC rfl (xo C.bool (by rw[aaT (show¬g.t.kind=5 from q),aaY]))
noncomputable def um:Code:=Try.f77.body.getD .skip
noncomputable def X4:Code:=vZ um
noncomputable def X5:Code:=vZ (fE um)
noncomputable def X6:Code:=vZ (fE (fE um))
noncomputable def X7:Code:=vZ (fE (fE (fE um)))
noncomputable def X8:Code:=vZ (fE (fE (fE (fE um))))
noncomputable def X9:Code:=vZ (fE (fE (fE (fE (fE um)))))
noncomputable def Ya:Code:=vZ (fE (fE (fE (fE (fE (fE um))))))
noncomputable def Yb:Code:=fE (fE (fE (fE (fE (fE (fE (fE um)))))))
noncomputable def Xj:Code:=vZ (fE (fE (fE (fE (fE (fE (fE um)))))))
theorem Ec:Try.f77.body=some (X4.seq (X5.seq (X6.seq (X7.seq (X8.seq (X9.seq (Ya.seq (Xj.seq Yb)))))))):=by kernel_rfl
def Pn:dc:={n:=97,own:=[6],frz:=[(26,0,[91])],ord:=[(24,[0,1,2,3,4,5,6,7,8,9,10,11],[[],[0],[],[],[3],[],[3,4,5],[2,3,4,5,6],[2,3,4,5,6,7],[0,1,2,3,4,5,6,7,8],[0,1,2,3,4,5,6,7,8,9],[0,1,2,3,4,5,6,7,8,9,10]])],pan:=[(3,1),(5,1),(28,1)],px:=[89],bk:=[(82,13)]}
def Yc:ay:=(.reg [.op (some 6) (.boxF 110 (.t 0)) none,
  .op (some 7) (.alloc 64 [(.bool false),(.int .i64 0),(.slice none 0 0),(.slice none 0 0)]) none])
def Xk:ay:=(.reg [.op (some 17) (.load false 1 (.t 1)) none,
  .op (some 18) (.bin .add (.t 17) (.c (.int .i64 1))) none,
  .op none (.store 1 (.t 1) (.t 18)) none])
def U1:ay:=(.seq (.reg [.op (some 19) (.load false 1 (.t 1)) none,
  .op (some 20) (.bin .gtr (.t 19) (.c (.int .i64 400))) none])
 (.cond (.t 20)
 (.reg [.op (some 21) (.mkif 45 (.c (.int .i64 2))) none,
   .pc none (.pan (.t 21)) none])
 .skip))
def Ur:ay:=(.seq (.reg [.op (some 22) (.load false 1 (.t 2)) none,
  .op (some 23) (.mkfn 79 [] [(.t 6)]) none,
  .op (some 24) (.call 78 [(.t 22),(.t 23)]) none])
 (.cond (.t 24)
 (.reg [.op (some 25) (.mkif 45 (.c (.int .i64 15))) none,
   .pc none (.pan (.t 25)) none])
 .skip))
def SD:ay:=(.reg [.op (some 26) (.load false 1 (.t 3)) none,
  .op (some 27) (.mkfn 82 [] [(.t 6)]) none,
  .op (some 28) (.call 81 [(.t 26),(.t 27)]) none,
  .op (some 8) (.mov (.t 28)) none])
def Sf:ay:=(.seq (.reg [.op (some 29) (.mov (.t 8)) none,
  .op (some 30) (.bin .geq (.t 29) (.c (.int .i64 0))) none])
 (.cond (.t 30)
 (.seq (.reg [.op (some 31) (.mov (.t 8)) none,
   .op (some 32) (.build [(.bool false),(.int .i64 0),(.slice none 0 0),(.slice none 0 0)] [(0,1,(.c (.bool true))),(1,1,(.t 31))]) none,
   .op none (.store 4 (.t 7) (.t 32)) none])
  .ret)
 .skip))
def Qx:ay:=(.reg [.op (some 33) (.load false 1 (.t 2)) none,
  .op (some 34) (.load true 4 (.t 6)) none,
  .op (some 35) (.mkF 110 1 4 [(.t 34)]) none,
  .op (some 36) (.app 110 4 48 [(.int .i64 0),(.int .i64 0),(.int .i64 0),(.slice none 0 0)] (.t 33) (.t 35)) none,
  .op none (.store 1 (.t 2) (.t 36)) none])
def Xl:ay:=(.seq (.seq (.reg [.op (some 38) (.fieldA 5 (.t 4)) none,
  .op (some 39) (.load false 1 (.t 38)) none,
  .op (some 40) (.len (.t 39)) none,
  .op (some 41) (.mov (.c (.int .i64 0))) none])
 (.block 0
 (.loop [42,43,44,45,10,9,46,47,48,49,50,52,53,54,55,56,57,58,51,59,60,11,12,61,62,63,64,65,13,66,67,68,69,70,71,72,15,16,73,74,75,76,77,78,79,80,81,82,83,84,85,86,87,88,89,90,91,92,93,69,94,95,41]
  (.seq (.reg [.op (some 42) (.bin .lss (.t 41) (.t 40)) none])
   (.seq (.cond (.t 42)
   .skip
   (.exit 0))
   (.seq (.block 1
   (.seq (.reg [.op (some 43) (.mov (.t 41)) none,
     .op (some 44) (.idxA 8 (.t 39) (.t 41)) none,
     .op (some 45) (.load true 8 (.t 44)) none,
     .op (some 10) (.alloc 56 [(.int .i64 0),(.int .i64 0),(.int .i64 0),(.slice none 0 0),(.int .i64 0),(.int .i64 0),(.slice none 0 0),(.int .i64 0)]) none,
     .op (some 9) (.mov (.t 43)) none,
     .op none (.store 8 (.t 10) (.t 45)) none])
    (.seq (.seq (.reg [.op (some 46) (.fieldA 0 (.t 10)) none,
     .op (some 47) (.load false 1 (.t 46)) none,
     .op (some 48) (.fieldA 0 (.t 6)) none,
     .op (some 49) (.load false 1 (.t 48)) none,
     .op (some 50) (.bin .neq (.t 47) (.t 49)) none])
    (.cond (.t 50)
    (.exit 1)
    .skip))
    (.seq (.reg [.op (some 52) (.fieldA 4 (.t 10)) none,
     .op (some 53) (.load true 3 (.t 52)) none,
     .op (some 54) (.fieldA 1 (.t 6)) none,
     .op (some 55) (.load true 3 (.t 54)) none,
     .op (some 56) (.fieldA 2 (.t 10)) none,
     .op (some 57) (.load false 1 (.t 56)) none,
     .op (some 58) (.call 24 [(.t 53),(.t 55),(.t 57)]) none,
     .op (some 51) (.mov (.t 58)) none,
     .op (some 59) (.extr (.t 51) 0) none,
     .op (some 60) (.extr (.t 51) 1) none,
     .op (some 11) (.mov (.t 59)) none,
     .op (some 12) (.mov (.t 60)) none])
    (.seq (.seq (.reg [.op (some 61) (.mov (.t 12)) none,
     .op (some 62) (.un .not (.t 61)) none])
    (.cond (.t 62)
    (.exit 1)
    .skip))
    (.seq (.reg [.op (some 63) (.mov (.t 9)) none,
     .op (some 64) (.mov (.t 11)) none,
     .op (some 65) (.build [(.bool false),(.int .i64 0),(.slice none 0 0),(.slice none 0 0)] [(1,1,(.t 63)),(2,1,(.t 64))]) none,
     .op (some 13) (.alloc 64 [(.bool false),(.int .i64 0),(.slice none 0 0),(.slice none 0 0)]) none,
     .op none (.store 4 (.t 13) (.t 65)) none])
    (.seq (.seq (.reg [.op (some 66) (.fieldA 3 (.t 10)) none,
     .op (some 67) (.load false 1 (.t 66)) none,
     .op (some 68) (.len (.t 67)) none,
     .op (some 69) (.mov (.c (.int .i64 0))) none])
    (.block 2
    (.loop [70,71,72,15,16,73,74,75,76,77,78,79,80,81,82,83,84,85,86,87,88,89,90,91,92,93,69]
     (.seq (.reg [.op (some 70) (.bin .lss (.t 69) (.t 68)) none])
      (.seq (.cond (.t 70)
      .skip
      (.exit 2))
      (.seq (.block 3
      (.seq (.reg [.op (some 71) (.idxA 2 (.t 67) (.t 69)) none,
        .op (some 72) (.load true 2 (.t 71)) none,
        .op (some 15) (.alloc 72 [(.int .i64 0),(.int .i64 0)]) none,
        .op none (.store 2 (.t 15) (.t 72)) none])
       (.seq (.reg [.op (some 16) (.alloc 32 [(.int .i64 0),(.int .i64 0),(.slice none 0 0)]) none])
       (.seq (.seq (.reg [.op (some 73) (.mov (.t 11)) none,
        .op (some 74) (.fieldA 0 (.t 15)) none,
        .op (some 75) (.load false 1 (.t 74)) none,
        .op (some 76) (.call 84 [(.t 73),(.t 75)]) none])
       (.cond (.t 76)
       (.reg [.op (some 77) (.mov (.t 11)) none,
         .op (some 78) (.fieldA 0 (.t 15)) none,
         .op (some 79) (.load false 1 (.t 78)) none,
         .op (some 80) (.idxA 3 (.t 77) (.t 79)) none,
         .op (some 81) (.load true 3 (.t 80)) none,
         .op none (.store 3 (.t 16) (.t 81)) none])
       .skip))
       (.regX [.op (some 82) (.fieldA 3 (.t 13)) none,
        .op (some 83) (.loadK 13 false 1 (.t 82)) none,
        .op (some 84) (.loadD false 1 (.t 5)) none,
        .op (some 85) (.fieldA 1 (.t 15)) none,
        .op (some 86) (.loadD false 1 (.t 85)) none,
        .op (some 87) (.loadD true 3 (.t 16)) none,
        .op (some 88) (.build [(.int .i64 0),(.int .i64 0),(.int .i64 0),(.slice none 0 0)] [(0,1,(.t 86)),(1,3,(.t 87))]) none,
        .pc (some 89) (.callV (.t 84) [(.t 88)]) none,
        .op (some 90) (.mkFD 64 1 4 [(.t 89)]) none,
        .op (some 91) (.appD 64 4 64 [(.bool false),(.int .i64 0),(.slice none 0 0),(.slice none 0 0)] (.t 83) (.t 90)) none,
        .op (some 92) (.fieldA 3 (.t 13)) none,
        .op none (.storeD 1 (.t 92) (.t 91)) none])))))
      (.reg [.op (some 93) (.bin .add (.t 69) (.c (.int .i64 1))) none,
       .op (some 69) (.mov (.t 93)) none])))))))
    (.seq (.reg [.frz 91,
     .op (some 94) (.load true 4 (.t 13)) none,
     .op none (.store 4 (.t 7) (.t 94)) none])
    .ret))))))))
   (.reg [.op (some 95) (.bin .add (.t 41) (.c (.int .i64 1))) none,
    .op (some 41) (.mov (.t 95)) none])))))))
 (.reg [.op (some 96) (.mkif 45 (.c (.int .i64 9))) none,
  .pc none (.pan (.t 96)) none]))
theorem Us:low Try.prog Pn X4=some Yc:=by kernel_rfl
theorem Ut:low Try.prog Pn X5=some Xk:=by kernel_rfl
theorem Uu:low Try.prog Pn X6=some U1:=by kernel_rfl
theorem Uv:low Try.prog Pn X7=some Ur:=by kernel_rfl
theorem Uw:low Try.prog Pn X8=some SD:=by kernel_rfl
theorem Ux:low Try.prog Pn X9=some Sf:=by kernel_rfl
theorem Uy:low Try.prog Pn Ya=some Qx:=by kernel_rfl
theorem Uz:low Try.prog Pn Yb=some Xl:=by kernel_rfl
def iS (x:Impl) (t:Ty):List Ty×Bool:=if x.params<0\/x.params>4 then([],false) else yU x.params.toNat x.type t
def qC (g:cn):List Impl->Nat->Option (Nat×Impl×List Ty)
 | [],_=>none
 | x::l,k=>if x.trait=g.tr/\(iS x g.t).2=true then some (k,x,(iS x g.t).1) else qC g l (k+1)
def mJ (ts:List Ty) (b:aR):cn:=⟨b.trait,if dR b.param ts.length then(ts[b.param.toNat]?).getD zT else zT⟩
abbrev pE:=Except Int gS×Int
def fV (f:Int->cn->pE):List cn->Int->List gS->Except Int (List gS)×Int
 | [],c,a=>(.ok a,c)
 | g::gs,c,a=>match f c g with
  | (.ok r,b)=>fV f gs b (a++[r])
  | (.error e,b)=>(.error e,b)
noncomputable def cQ (p:Prog) (b:List aR):Nat->List cn->Int->cn->pE
 | 0,_,c,_=>(.error 2,c+1)
 | n+1,d,c,g=>if c+1>400 then(.error 2,c+1) else if(d.any fun h=>iw h g)=true then(.error 15,c+1) else
  if br (lJ g) b 0>=0 then(.ok (.mk true (br (lJ g) b 0) [] []),c+1) else
  match qC g p.impls 0 with
  | none=>(.error 9,c+1)
  | some (k,x,ts)=>match fV (cQ p b n (d++[g])) (x.bounds.map (mJ ts)) (c+1) [] with
   | (.ok ps,a)=>(.ok (.mk false k ts ps),a)
   | (.error e,a)=>(.error e,a)
def ze (e:Int):Value:=.iface 45 (.int .i64 e)
abbrev UA (p:Prog) (a:List aR):List C:=[.own 1000 0,.own 1001 0,.pt [.sl (a.map aS)] 0,.pt (jU p) 0,.own 1002 0]
abbrev LR (p:Prog) (a:List aR):C:=.fn 77 [] (UA p a)
abbrev PB (p:Prog) (a:List aR) (c:Int) (gs:List cn):List TO:=[.box 3 [IC c],.box 107 [.rw 1003],.box 108 [LR p a],zQ gs]
abbrev zR (p:Prog) (a:List aR) (g:cn):List C:=.agg (jV g)::UA p a
def RQ (p:Prog) (b:List aR) (gs:List cn) (res:pE) (Mo:List TO) (v:C):Prop:=∃r a,res=(.ok r,a)/\Mo=PB p b a gs/\v=.agg (iq r)
def PQ (p:Prog) (b:List aR) (gs:List cn) (res:pE) (Mo:List TO) (v:Value):Prop:=∃e a,res=(.error e,a)/\Mo=PB p b a gs/\v=ze e
def Sg (p:Prog) (a:List aR) (c:Int) (gs:List cn) (g:cn) (res:pE):Prop:=CallsTS P 77 (zR p a g) (PB p a c gs) (RQ p a gs res) (PQ p a gs res)
def zS (p:Prog) (a:List aR) (gs:List cn) (res:pE) (M':TL) (v:Value):Prop:=∃Mo,M'.sub [1000,1001,1002,1003]=some Mo/\PQ p a gs res Mo v
def MB (p:Prog) (a:List aR) (c:Int) (gs:List cn):TL:=[(7,.box 64 [.bool false,IC 0,.nils,.nils]),(1000,.box 3 [IC c]),(1001,.box 107 [.rw 1003]),(1002,.box 108 [LR p a]),(1003,zQ gs)]
def HB (p:Prog) (g:cn) (τ:aK):Prop:=τ 1=.own 1000 0/\τ 2=.own 1001 0/\τ 4=.pt (jU p) 0/\τ 5=.own 1002 0/\τ 6=.pt (jV g) 0/\τ 7=.own 7 0
abbrev Yd:ay:=.seq Yc (.seq Xk (.seq U1 (.seq Ur (.seq SD (.seq Sf Qx)))))
theorem IW (gs:List cn) (g:cn):gs.map jV++[[IC g.tr,IC g.t.kind,IC g.t.id,.sl (g.t.args.map aM)]]=(gs++[g]).map jV:=by rw[abD];rfl
theorem UB (p:Prog) (a:List aR) (c:Int) (gs:List cn) (g:cn) (res:pE) (u:0<=c/\c<=400) (v:(gs.length:Int)<=c)
  (h1:c+1>400->res=(.error 2,c+1)) (o:¬c+1>400->(gs.any fun h=>iw h g)=true->res=(.error 15,c+1))
  (k:¬c+1>400->(gs.any fun h=>iw h g)=false->br (lJ g) a 0>=0->res=(.ok (.mk true (br (lJ g) a 0) [] []),c+1)) :
  evalTC P ⟨fun _=>True,[],some (zS p a gs res)⟩ Yd (fun _ _ _=>False) (fun L ρ=>gF L ρ [(7,some (true,4))] fun s=>fZ (PB p a c gs) L (gD s) (RQ p a gs res))
   (fun M τ=>(c+1<=400/\(gs.any fun h=>iw h g)=false/\¬br (lJ g) a 0>=0)/\M=MB p a (c+1) (gs++[g])/\HB p g τ) (cC (PB p a c gs)) (jN 0 (zR p a g)):=by
 have d:=t78 gs g (by omega);have e:=Pe g.tr g.t a (lJ g) fun b _=>t82 g b;have n:=IW gs g;generalize(gs.any fun h=>iw h g)=an at d o k ⊢;generalize br (lJ g) a 0=ix at e k ⊢;have l:(gs.map jV).length=gs.length:=aaP _;refine Fit.aag (by omega) (by omega) ?_;refine ah (fun q=>?_) (fun j=>?_)
 ·exact⟨ze 2,rfl,rfl,trivial,_,rfl,2,c+1,h1 q,rfl,rfl⟩
 have j:¬c+1>400:=j;refine Cz [1003] d rfl rfl rfl rfl rfl ?_;refine Bf (fun f=>?_) (fun f=>?_)
 ·exact⟨ze 15,rfl,rfl,trivial,_,rfl,15,c+1,o j f,rfl,rfl⟩
 refine bh e rfl fun _=>?_;refine ah (fun m=>?_) (fun m=>?_)
 ·exact pA [1000,1001,1002,1003] rfl rfl rfl rfl ⟨_,_,k j f m,rfl,by rw[jf];rfl⟩
 refine rH gs.length rfl l (by decide) (by omega) ?_;exact⟨⟨by omega,f,m⟩,xo (fun r=>([(7,.box 64 [.bool false,IC 0,.nils,.nils]),(1000,.box 3 [IC (c+1)]),(1001,.box 107 [.rw 1003]),(1002,.box 108 [LR p a]),(1003,.row 110 4 r)]:TL)) n,rfl,rfl,rfl,rfl,rfl,rfl⟩
end Go.Fr.Try
