/- Part of the proofs of the statements of this seat. -/
import Derived.Test.YthfdbepkalpplaaTrT4G
import Derived.Test.YthfdbepkalpplaaFW3
set_option maxRecDepth 10000
set_option linter.unusedVariables false
set_option linter.unusedSimpArgs false
namespace Go.Fr.Try
open Go Go.RowKit Go.Proofs Go.Fr Go.Fr.T Go.Fr.Api
def uH (p:Prog) (n:Nat) (b:bh):Bool:=!ef b.param n||!ef b.trait p.traits.length
theorem XU (o:List Bool) (p:Prog) (b:bh):CallsT P 107 [.agg (aZ b),.pt [.sl (o.map bC)] 0,.pt (kg p) 0] [] (aU [] (.bool (uH p o.length b))):=by
 have h1:=XJ (o.map bC) b.param;have a:=U1 (Lv p.traits) b.trait;have d:(o.map bC).length=o.length:=vz _;have c:(Lv p.traits).length=p.traits.length:=by simp[Lv]
 have e:uH p o.length b=(!ef b.param o.length||!ef b.trait p.traits.length):=rfl;rw[d] at h1;rw[c] at a;generalize ef b.param o.length=x at h1 e;generalize ef b.trait p.traits.length=y at a e;refine af Try.func107 Lc rfl fun f _=>?_;refine aY h1 rfl fun _=>?_;refine aq (fun q=>?_) (fun q=>?_)
 ·exact aC rfl (vv C.bool (by rw[e];rw[show(!x)=true from q];rfl))
 refine aY a rfl fun _=>?_;exact aC rfl (vv C.bool (by rw[e];rw[show(!x)=false from q];rfl))
theorem XV (o:List Bool):CallsT P 116 [.sl (o.map bC),.bool false] [] (aU [] (IC (aW (fun x=>!x) o 0))):=by
 have d:(o.map bC).length=o.length:=vz _;refine af Try.func116 Lm rfl fun p _=>?_;have l:o.length<=9223372036854775807:=by have:=gZ p.1;rwa [d] at this
 refine bX o.length 8 [] () (fun _=>[]) (fun _=>[]) (fun k _=>aW (fun x=>!x) (o.drop k) k=aW (fun x=>!x) o 0) rfl (ai rfl) trivial trivial (fun _=>rfl) (fun _=>rfl) ?_;rintro k _ q b _ _ _;refine ah (fun a=>?_) (fun c=>?_)
 ·have a:k<o.length:=by rw[d] at a;omega
  refine aX a fun x m n e=>?_;refine FC (f:=bC) (es:=[.bool x]) m rfl rfl ?_;refine ah (fun j=>?_) (fun j=>?_)
  ·exact aC rfl (vv IC (lV e b (by rw[<-show false=x from j];rfl)))
  ·have h:x=true:=by cases x;exact fL rfl j;rfl
   refine Fit.aaf (by omega) (by omega) ?_;exact⟨(k+1,()),⟨a,oD e b (by rw[h];rfl)⟩,⟨bM,trivial⟩,trivial,bN a⟩
 ·have c:¬k<o.length:=by rw[d] at c;omega
  exact aC rfl (vv IC (oE c b))
theorem XW (o:List Bool):CallsT P 109 [.sl (o.map bC),.bool false] [] (aU [] (.bool (o.any fun x=>!x))):=by
 have h1:=XV o;have e:=rI (fun x=>!x) o;generalize aW (fun x=>!x) o 0=n at h1 e;refine af Try.func109 Le rfl fun a _=>?_;refine aY h1 rfl fun _=>?_;exact aC rfl (vv C.bool e)
def gB (p:Prog) (x:Impl):Bool:=ef x.trait p.traits.length&&!decide (x.module<0)&&iY x.type&&iZ p x.params x.type&&!(mark x.type (List.replicate x.params.toNat false)).any (fun b=>!b)&&!x.bounds.any (uH p x.params.toNat)
theorem SR {ds:List Api.Data}{n:Int}:∀t:Ty,wD ds n t=true->zx n t=true:=dc fun t f h=>by
 rw[EF,v5,aaY]
 by_cases e:t.kind=5
 ·obtain⟨a,b,c⟩:=xg h e;rw[eu e,c];exact⟨by rw[aaN a,aaN b];rfl,fun x d=>by cases d⟩
 ·rw[fo e];obtain⟨_,_,_,j⟩:=xh h e;exact⟨rfl,fun x d=>f x d (j x d).2⟩
theorem qL {p:Prog}{n:Int}{t:Ty}(h:iZ p n t=true):0<=n/\n<=4/\cu t<=8/\wD p.datas n t=true:=by
 unfold iZ at h;split at h
 ·cases h
 ·exact⟨by omega,by omega,by omega,h⟩
theorem t88 (p:Prog) (x:Impl) (v:cu x.type<=2 ^ 40):CallsT P 88 [mQ p,zq x] [] (aU [] (.bool (gB p x))):=by
 have c:=U1 (Lv p.traits) x.trait;have u:(Lv p.traits).length=p.traits.length:=by simp[Lv]
 rw[u] at c;have j:=XM x.type;have VT:=YL x.params p x.type v;have e:gB p x=(ef x.trait p.traits.length&&!decide (x.module<0)&&iY x.type&&iZ p x.params x.type&&!(mark x.type (List.replicate x.params.toNat false)).any (fun b=>!b)&&!x.bounds.any (uH p x.params.toNat)):=rfl;have k:=@qL p x.params x.type;have a:iZ p x.params x.type=true->EG x.type (List.replicate x.params.toNat false) (mark x.type (List.replicate x.params.toNat false)):=fun h=>XT x.params.toNat x.type (by
  have:=SR x.type (k h).2.2.2;rw[show((x.params.toNat:Nat):Int)=x.params by have:=k h;omega];exact this) _ abk
 have m:(mark x.type (List.replicate x.params.toNat false)).length=x.params.toNat:=by rw[qK,abk]
 have l:∀n:Nat,(List.replicate n false).map bC=List.replicate n [C.bool false]:=fun n=>by rw[abW];rfl
 generalize mark x.type (List.replicate x.params.toNat false)=o at a m e;have f:=XW o;have d:=Mt o p x.bounds (uH p x.params.toNat) fun b _=>by have:=XU o p b;rw[m] at this;exact this
 generalize x.bounds.any (uH p x.params.toNat)=bb at d e;generalize(o.any fun x=>!x)=oo at f e;generalize ef x.trait p.traits.length=v1 at c e;generalize iY x.type=v2 at j e;generalize iZ p x.params x.type=v3 at VT e k a;refine af Try.func88 Lp rfl fun y _=>?_;refine aY c rfl fun _=>?_;refine aq (fun q=>?_) (fun s=>?_)
 ·exact aC rfl (vv C.bool (by rw[e,show v1=false by simpa using q];rfl))
 refine ah (fun q=>?_) (fun w=>?_)
 ·exact aC rfl (vv C.bool (by rw[e,aaN (show x.module<0 from q),show v1=true by simpa using s];rfl))
 refine aY j rfl fun _=>?_;refine aq (fun q=>?_) (fun t=>?_)
 ·exact aC rfl (vv C.bool (by rw[e,show v2=false by simpa using q,abh];rfl))
 refine aY VT rfl fun _=>?_;refine aq (fun q=>?_) (fun r=>?_)
 ·exact aC rfl (vv C.bool (by rw[e,show v3=false by simpa using q,abh];rfl))
 have r:v3=true:=by simpa using r
 have k:=k r;have a:CallsT P 105 [aV x.type,.fn 106 [] [.own 1000 0]] [.box 123 [.rw 1001],.row 4 1 (List.replicate x.params.toNat [.bool false])] (aU (LO o) (.tup [])):=by
  have:=a r;rw[EG,LO,l] at this;exact this
 have e:(!oo&&!bb)=gB p x:=by
  rw[e,show v1=true by simpa using s,aaP (show¬x.module<0 from w),show v2=true by simpa using t,r];simp
 refine nk.mk k.1 (abb _) (by omega) (by simp only[maxLen];omega) ?_;refine callO [5,35] [5,35] a rfl rfl rfl rfl rfl fun _ _=>?_;refine aY f rfl fun _=>?_;refine aq (fun q=>?_) (fun q=>?_)
 ·refine aY d rfl fun _=>?_;exact aC rfl (vv C.bool (by rw[<-e,show(!oo)=true from q];rfl))
 ·exact aC rfl (vv C.bool (by rw[<-e,show(!oo)=false from q];rfl))
theorem Rh {l:List Int}{z x:Int}{K:List C->Prop}(h0:0<=z) (a:l[z.toNat]?=some x) (h:K [IC x]):uY (EW l) z 1 K:=⟨[IC x],h0,by simp[EW,a],rfl,h⟩
def EH (p:Prog) (x:Impl):Bool:=ef x.trait p.homes.length&&decide (p.homes[x.trait.toNat]?=some x.module)
def ownB (p:Prog) (x:Impl):Bool:=decide (x.type.kind=2)&&(ef x.type.id p.datas.length&&decide ((p.datas[x.type.id.toNat]?).map (·.module)=some x.module))
def zB (p:Prog) (x:Impl):Bool:=!EH p x&&!ownB p x
theorem XY (p:Prog) (x:Impl) (q:Bool) (h:EH p x=q):CallsT P 89 [mQ p,zq x] [] (aU [] (.bool (!q&&!ownB p x))):=by
 have e:=XK (EW p.homes) x.trait;have u:(EW p.homes).length=p.homes.length:=by simp[EW]
 rw[u] at e;have a:=XL (p.datas.map lg) x.type.id;have t:(p.datas.map lg).length=p.datas.length:=vz _;rw[t] at a;have i1:=@eM x.trait p.homes.length;have i2:=@eM x.type.id p.datas.length;unfold EH at h;have j:ownB p x=(decide (x.type.kind=2)&&(ef x.type.id p.datas.length&&decide ((p.datas[x.type.id.toNat]?).map (·.module)=some x.module))):=rfl;generalize ownB p x=ow at j ⊢;generalize ef x.trait p.homes.length=v1 at e i1 h;generalize ef x.type.id p.datas.length=v2 at a i2 j;have o:True:=trivial;refine af Try.func89 Pc rfl fun v _=>?_;refine bD e rfl fun _=>?_;refine BF (fun n=>ul (gO (l:=p.homes) (k:=x.trait.toNat) (by have:=i1.1 n;omega)) fun y s=>Rh (i1.1 n).1 s ?_) (fun n=>?_)
 ·have r:q=decide (y=x.module):=by
   rw[<-h,n,s,aaS];exact decide_eq_decide.2 (by rw[xo])
  subst r;refine ah (fun k=>bD a rfl fun _=>BF (fun c=>ul (gO (l:=p.datas) (k:=x.type.id.toNat) (by have:=i2.1 c;omega)) fun d m=>FP (i2.1 c).1 m ?_) (fun c=>?_)) (fun k=>?_)
  ·have f:ow=decide (d.module=x.module):=by
    rw[j,aaN (show x.type.kind=2 from k),c,m,aaS,aaS];exact decide_eq_decide.2 (by rw[abo,xo])
   subst f;refine aR (fun b=>aC rfl (vv C.bool ?_)) (fun b=>aC rfl (vv C.bool ?_))
   ·rw[aaP (show¬y=x.module from b)];rfl
   ·rw[aaN (show y=x.module from b)];rfl
  ·have f:ow=false:=by rw[j,c,aaV,abh]
   subst f;refine aR (fun b=>aC rfl (vv C.bool ?_)) (fun b=>aC rfl (vv C.bool ?_))
   ·rw[aaP (show¬y=x.module from b)];rfl
   ·rw[aaN (show y=x.module from b)];rfl
  ·have f:ow=false:=by rw[j,aaP (show¬x.type.kind=2 from k),aaV]
   subst f;refine aR (fun b=>aC rfl (vv C.bool ?_)) (fun b=>aC rfl (vv C.bool ?_))
   ·rw[aaP (show¬y=x.module from b)];rfl
   ·rw[aaN (show y=x.module from b)];rfl
 ·have r:q=false:=by rw[<-h,n,aaV]
  subst r;refine ah (fun k=>bD a rfl fun _=>BF (fun c=>ul (gO (l:=p.datas) (k:=x.type.id.toNat) (by have:=i2.1 c;omega)) fun d m=>FP (i2.1 c).1 m ?_) (fun c=>?_)) (fun k=>?_)
  ·have f:ow=decide (d.module=x.module):=by
    rw[j,aaN (show x.type.kind=2 from k),c,m,aaS,aaS];exact decide_eq_decide.2 (by rw[abo,xo])
   exact aC rfl (vv C.bool (by rw[f];rfl))
  ·have f:ow=false:=by rw[j,c,aaV,abh]
   exact aC rfl (vv C.bool (by rw[f];rfl))
  ·have f:ow=false:=by rw[j,aaP (show¬x.type.kind=2 from k),aaV]
   exact aC rfl (vv C.bool (by rw[f];rfl))
theorem t89 (p:Prog) (x:Impl):CallsT P 89 [mQ p,zq x] [] (aU [] (.bool (zB p x))):=XY p x _ rfl
noncomputable def wJ (a b:Impl):Bool:=uP (Rb a b)
noncomputable def nF (p:Prog):List Impl->Nat->Int×Int×Int
 | [],_=>(0,0,0)
 | x::l,k=>if gB p x=false then(1,(k:Int),(k:Int)) else if zB p x=true then(9,(k:Int),(k:Int)) else if aW (fun y=>wJ y x) (p.impls.take k) 0>=0 then(10,aW (fun y=>wJ y x) (p.impls.take k) 0,(k:Int)) else nF p l (k+1)
noncomputable def C2 (p:Prog):Int×Int×Int:=nF p p.impls 0
theorem t91 (x y:Impl) (h:Mn 32 x y):CallsT P 91 [.agg (dH x),.pt [IC y.trait,IC y.module,IC y.params,.sl (y.bounds.map aZ),IC y.type.kind,IC y.type.id,.sl (y.type.args.map aI),IC y.func] 0] [] (aU [] (.bool (wJ x y))):=by
 refine af Try.func91 Pe rfl fun a _=>?_;refine aY h rfl fun _=>?_;exact aC rfl rfl
theorem VN (p:Prog) (hB:∀x∈p.impls,ji x.type/\cu x.type<=2 ^ 40):CallsT P 40 [mQ p] [] (aU [] (.tup [IC (C2 p).1,IC (C2 p).2.1,IC (C2 p).2.2])):=by
 have m:=fun x (j:x∈p.impls)=>t88 p x (hB x j).2;have n:=t89 p;have r:=fun(y:Impl) (k:Nat) (hy:y∈p.impls)=>P6 y (p.impls.take k) (fun x=>wJ x y) fun x j=>t91 x y (t32 x y (hB x (List.take_subset k p.impls j)).1 (hB y hy).1 (hB x (List.take_subset k p.impls j)).2 (hB y hy).2);have e:(p.impls.map dH).length=p.impls.length:=vz _;have b:∀x l k,nF p (x::l) k=if gB p x=false then(1,(k:Int),(k:Int)) else if zB p x=true then(9,(k:Int),(k:Int)) else if aW (fun y=>wJ y x) (p.impls.take k) 0>=0 then(10,aW (fun y=>wJ y x) (p.impls.take k) 0,(k:Int)) else nF p l (k+1):=fun x l k=>rfl;have f:∀k,nF p [] k=(0,0,0):=fun k=>rfl;have d:C2 p=nF p p.impls 0:=rfl;generalize C2 p=R at d ⊢;generalize nF p=cl at b f d;generalize gB p=tv at m b;generalize zB p=ob at n b;generalize wJ=ov at r b;refine af Try.func40 Ln rfl fun hw _=>?_;have w:p.impls.length<=9223372036854775807:=by have:=gZ hw.1.2.2.2.2.2.1;rwa [e] at this
 refine bX p.impls.length 11 [] () (fun _=>[]) (fun _=>[]) (fun k _=>cl (p.impls.drop k) k=R) d.symm (ai rfl) trivial trivial (fun _=>rfl) (fun _=>rfl) ?_;rintro k _ hk a _ _ _;have a:cl (p.impls.drop k) k=R:=a;refine ah (fun c=>?_) (fun h=>?_)
 ·have c:k<p.impls.length:=by rw[e] at c;omega
  refine aX c fun x j o u=>?_;rw[u,b] at a;refine j4 (by omega) (show p.impls[((k:Int)).toNat]?=some x from j) ?_;refine aY (m x o) rfl fun _=>?_;refine aq (fun q=>?_) (fun q=>?_)
  ·rw[eu (show tv x=false by simpa using q)] at a;exact aC rfl (by rw[<-a];rfl)
  rw[fo (show¬tv x=false by simpa using q)] at a;refine aY (n x) rfl fun _=>?_;refine aq (fun v=>?_) (fun v=>?_)
  ·rw[eu (show ob x=true from v)] at a;exact aC rfl (by rw[<-a];rfl)
  rw[fo (show¬ob x=true by rw[show ob x=false from v];exact aa7)] at a;have s:((p.impls.map dH).drop ((0:Int)).toNat).take (((k:Int)).toNat-((0:Int)).toNat)=(p.impls.take k).map dH:=by
   rw[show((0:Int)).toNat=0 from rfl,List.drop_zero,Nat.sub_zero,show((k:Int)).toNat=k by omega,List.map_take]
  refine Tz.mk (by omega) (by omega) (by rw[e];omega) (fun es he=>by obtain⟨y,_,rfl⟩:=abq.1 he;rfl) ?_;refine aY (r x k o) (vv (fun z=>[C.sl z,.fn 91 [] [.pt [IC x.trait,IC x.module,IC x.params,.sl (x.bounds.map aZ),IC x.type.kind,IC x.type.id,.sl (x.type.args.map aI),IC x.func] 0]]) s) fun _=>?_;refine ah (fun t=>?_) (fun t=>?_)
  ·rw[eu t] at a;exact aC rfl (by rw[<-a];rfl)
  ·rw[fo t] at a;refine Fit.aaf (by omega) (by omega) ?_;exact⟨(k+1,()),⟨c,a⟩,⟨bM,trivial⟩,trivial,bN c⟩
 ·have h:¬k<p.impls.length:=by rw[e] at h;omega
  rw[bQ h,f] at a;exact aC rfl (by rw[<-a];rfl)
structure Mu (p:Prog) (pa d:Int) (t:Ty) (V:Bool) (fr:Ty->Bool):Prop where
 hA:t.kind=1\/t.kind=6->V=(decide (t.id=0)&&decide ((t.args.length:Int)=0))
 hP:t.kind=5->V=(decide (0<=t.id)&&decide (t.id<pa)&&decide ((t.args.length:Int)=0))
 hD0:t.kind=2->(t.id<0\/(p.datas.length:Int)<=t.id)->V=false
 hD:t.kind=2->∀dd,0<=t.id->p.datas[t.id.toNat]?=some dd->V=(decide ((t.args.length:Int)=dd.params)&&t.args.all fun x=>iY x&&fr x)
 hB:t.kind=3\/t.kind=4\/t.kind=8->V=(decide (t.id=0)&&decide ((t.args.length:Int)=1)&&t.args.all fun x=>iY x&&fr x)
 hS0:t.kind=7->¬(t.id=0/\(t.args.length:Int)=1)->V=false
 hS:t.kind=7->t.id=0->∀x,t.args=[x]->V=if x.kind=6 then fr x else t.args.all fun x=>iY x&&fr x
 hO:t.kind<1\/8<t.kind->V=false
theorem U5 (p:Prog) (pa d:Int) (t:Ty) (h:d<1):CallsT P 99 [mQ p,IC pa,aV t,IC d] [] (aU [] (.bool false)):=by
 refine af Try.func99 G5 rfl fun a _=>?_;refine ah (fun _=>?_) (fun q=>fL h q);exact aC rfl rfl
theorem XZ (p:Prog) (pa d:Int) (t:Ty) (V:Bool) (v:Ty->Bool) (hd:1<=d/\d<=100) (X:Mu p pa d t V v) (ih:∀x∈t.args,CallsT P 99 [mQ p,IC pa,aV x,IC (d-1)] [] (aU [] (.bool (v x)))):CallsT P 99 [mQ p,IC pa,aV t,IC d] [] (aU [] (.bool V)):=by
 obtain⟨hA,hP,hD0,hD,hB,hS0,hS,hO⟩:=X;have z:=YJ;have o:(t.args.map aI).length=t.args.length:=vz _;have av:(p.datas.map lg).length=p.datas.length:=vz _;generalize iY=sto at z hD hB hS;have w:((t.args.map aI).length:Int)=t.args.length:=by rw[o]
 have p3:t.kind=5->0<=t.id->t.id<pa->decide (((t.args.map aI).length:Int)=0)=V:=fun k a b=>by rw[hP k,aaN a,aaN b,w];rfl
 have p2:t.kind=5->0<=t.id->¬t.id<pa->false=V:=fun k a b=>by rw[hP k,aaP b,abh];rfl
 have p1:t.kind=5->¬0<=t.id->false=V:=fun k a=>by rw[hP k,aaP a];rfl
 have b0:t.kind=3\/t.kind=4\/t.kind=8->¬t.id=0->false=V:=fun k a=>by rw[hB k,aaP a];rfl
 have b1:t.kind=3\/t.kind=4\/t.kind=8->t.id=0->¬((t.args.map aI).length:Int)=1->false=V:=fun k a b=>by rw[hB k,aaP (show¬(t.args.length:Int)=1 by rw[<-w];exact b),abh];rfl
 have b2:t.kind=3\/t.kind=4\/t.kind=8->t.id=0->((t.args.map aI).length:Int)=1->t.args.all (fun x=>sto x&&v x)=V:=fun k a b=>by rw[hB k,aaN a,aaN (show(t.args.length:Int)=1 by rw[<-w];exact b)];rfl
 have s0:t.kind=7->¬t.id=0->false=V:=fun k a=>(hS0 k fun q=>a q.1).symm;have s1:t.kind=7->¬((t.args.map aI).length:Int)=1->false=V:=fun k a=>(hS0 k fun q=>a (by rw[w];exact q.2)).symm;have d2:∀y:Api.Data,t.kind=2->0<=t.id->p.datas[t.id.toNat]?=some y->¬((t.args.map aI).length:Int)=y.params->false=V:=fun y k a b c=>by rw[hD k y a b,aaP (show¬(t.args.length:Int)=y.params by rw[<-w];exact c),aaV]
 have d3:∀y:Api.Data,t.kind=2->0<=t.id->p.datas[t.id.toNat]?=some y->((t.args.map aI).length:Int)=y.params->t.args.all (fun x=>sto x&&v x)=V:=fun y k a b c=>by rw[hD k y a b,aaN (show(t.args.length:Int)=y.params by rw[<-w];exact c),aaS]
 have one:((t.args.map aI).length:Int)=1->∃x,t.args=[x]/\t.args[0]?=some x:=fun h=>by
  rw[w] at h
  match t.args,h with
  | [x],_=>exact⟨x,rfl,rfl⟩
 generalize hg:(fun x=>sto x&&v x)=g at b2 d3 hS;have hg:∀x,g x=(sto x&&v x):=fun x=>by rw[<-hg]
 refine af Try.func99 G5 rfl fun hw _=>?_;have aE:t.args.length<=9223372036854775807:=f7 hw.2.2.1.2.2.1;refine ah (fun q=>fL hd.1 (by omega)) (fun _=>?_);refine ah (fun k1=>ah (fun _=>ah (fun i0=>?_) (fun i0=>?_)) (fun q=>fL k1 q)) (fun k1=>ah (fun k6=>ah (fun i0=>?_) (fun i0=>?_)) (fun k6=>?_))
 ·exact aC rfl (vv C.bool (by rw[hA (.inl k1),aaN (show t.id=0 from i0),aaS,<-o]))
 ·exact aC rfl (vv C.bool (by rw[hA (.inl k1),aaP (show¬t.id=0 from i0),aaV]))
 ·exact aC rfl (vv C.bool (by rw[hA (.inr k6),aaN (show t.id=0 from i0),aaS,<-o]))
 ·exact aC rfl (vv C.bool (by rw[hA (.inr k6),aaP (show¬t.id=0 from i0),aaV]))
 refine ah (fun k5=>ah (fun a=>ah (fun b=>aC rfl (vv C.bool (p3 k5 a b))) (fun b=>aC rfl (vv C.bool (p2 k5 a b)))) (fun a=>aC rfl (vv C.bool (p1 k5 a)))) (fun k5=>?_);refine ah (fun k2=>ah (fun a=>aC rfl (vv C.bool (hD0 k2 (.inl a)).symm)) (fun a=>ah (fun b=>aC rfl (vv C.bool (hD0 k2 (.inr (by rw[<-av];exact b))).symm)) (fun b=>ul (gO (l:=p.datas) (k:=t.id.toNat) (by have b:¬t.id>=((p.datas.map lg).length:Int):=b;omega)) fun y ac=>FP (by omega) ac <| aR (fun c=>aC rfl (vv C.bool (d2 y k2 (by omega) ac c))) (fun c=>?_)))) (fun k2=>?_)
 ·have e:=d3 y k2 (by omega) ac c;refine bX t.args.length 10 [] () (fun _=>[]) (fun _=>[]) (fun k _=>(t.args.drop k).all g=V) e (ai rfl) trivial trivial (fun _=>rfl) (fun _=>rfl) ?_;rintro k _ hk f _ _ _;have f:(t.args.drop k).all g=V:=f;refine ah (fun j=>?_) (fun n=>?_)
  ·have j:k<t.args.length:=by rw[o] at j;omega
   refine aX j fun x u s r=>?_;rw[r,abd,hg] at f;refine cL u ?_;refine bD (z x) rfl fun _=>?_;refine aq (fun q=>?_) (fun q=>?_)
   ·have q:sto x=false:=by simpa using q
    rw[q,aaV,aaV] at f;exact aC rfl (vv C.bool f)
   have q:sto x=true:=by simpa using q
   rw[q,aaS] at f;refine cL u ?_;refine Fit.aaf (by omega) (by omega) ?_;refine bD (ih x s) rfl fun _=>?_;refine aq (fun m=>?_) (fun m=>?_)
   ·have m:v x=false:=by simpa using m
    rw[m,aaV] at f;exact aC rfl (vv C.bool f)
   have m:v x=true:=by simpa using m
   rw[m,aaS] at f;refine Fit.aaf (by omega) (by omega) ?_;exact⟨(k+1,()),⟨j,f⟩,⟨bM,trivial⟩,trivial,bN j⟩
  ·have n:¬k<t.args.length:=by rw[o] at n;omega
   rw[bQ n] at f;exact aC rfl (vv C.bool f)
 have bd:∀K:(t.kind=3\/t.kind=4\/t.kind=8),t.id=0->((t.args.map aI).length:Int)=1->t.args.all g=V:=b2;refine ah (fun k3=>ah (fun _=>aR (fun a=>aC rfl (vv C.bool (b0 (.inl k3) a))) (fun a=>aR (fun b=>aC rfl (vv C.bool (b1 (.inl k3) a b))) (fun b=>?_))) (fun q=>fL k3 q)) (fun k3=>?_)
 ·have e:=b2 (.inl k3) a b;refine bX t.args.length 10 [] () (fun _=>[]) (fun _=>[]) (fun k _=>(t.args.drop k).all g=V) e (ai rfl) trivial trivial (fun _=>rfl) (fun _=>rfl) ?_;rintro k _ hk f _ _ _;have f:(t.args.drop k).all g=V:=f;refine ah (fun j=>?_) (fun n=>?_)
  ·have j:k<t.args.length:=by rw[o] at j;omega
   refine aX j fun x u s r=>?_;rw[r,abd,hg] at f;refine cL u ?_;refine bD (z x) rfl fun _=>?_;refine aq (fun q=>?_) (fun q=>?_)
   ·have q:sto x=false:=by simpa using q
    rw[q,aaV,aaV] at f;exact aC rfl (vv C.bool f)
   have q:sto x=true:=by simpa using q
   rw[q,aaS] at f;refine cL u ?_;refine Fit.aaf (by omega) (by omega) ?_;refine bD (ih x s) rfl fun _=>?_;refine aq (fun m=>?_) (fun m=>?_)
   ·have m:v x=false:=by simpa using m
    rw[m,aaV] at f;exact aC rfl (vv C.bool f)
   have m:v x=true:=by simpa using m
   rw[m,aaS] at f;refine Fit.aaf (by omega) (by omega) ?_;exact⟨(k+1,()),⟨j,f⟩,⟨bM,trivial⟩,trivial,bN j⟩
  ·have n:¬k<t.args.length:=by rw[o] at n;omega
   rw[bQ n] at f;exact aC rfl (vv C.bool f)
 refine ah (fun k4=>ah (fun _=>aR (fun a=>aC rfl (vv C.bool (b0 (.inr (.inl k4)) a))) (fun a=>aR (fun b=>aC rfl (vv C.bool (b1 (.inr (.inl k4)) a b))) (fun b=>?_))) (fun q=>fL k4 q)) (fun k4=>?_)
 ·have e:=b2 (.inr (.inl k4)) a b;refine bX t.args.length 10 [] () (fun _=>[]) (fun _=>[]) (fun k _=>(t.args.drop k).all g=V) e (ai rfl) trivial trivial (fun _=>rfl) (fun _=>rfl) ?_;rintro k _ hk f _ _ _;have f:(t.args.drop k).all g=V:=f;refine ah (fun j=>?_) (fun n=>?_)
  ·have j:k<t.args.length:=by rw[o] at j;omega
   refine aX j fun x u s r=>?_;rw[r,abd,hg] at f;refine cL u ?_;refine bD (z x) rfl fun _=>?_;refine aq (fun q=>?_) (fun q=>?_)
   ·have q:sto x=false:=by simpa using q
    rw[q,aaV,aaV] at f;exact aC rfl (vv C.bool f)
   have q:sto x=true:=by simpa using q
   rw[q,aaS] at f;refine cL u ?_;refine Fit.aaf (by omega) (by omega) ?_;refine bD (ih x s) rfl fun _=>?_;refine aq (fun m=>?_) (fun m=>?_)
   ·have m:v x=false:=by simpa using m
    rw[m,aaV] at f;exact aC rfl (vv C.bool f)
   have m:v x=true:=by simpa using m
   rw[m,aaS] at f;refine Fit.aaf (by omega) (by omega) ?_;exact⟨(k+1,()),⟨j,f⟩,⟨bM,trivial⟩,trivial,bN j⟩
  ·have n:¬k<t.args.length:=by rw[o] at n;omega
   rw[bQ n] at f;exact aC rfl (vv C.bool f)
 refine ah (fun k8=>aR (fun a=>aC rfl (vv C.bool (b0 (.inr (.inr k8)) a))) (fun a=>aR (fun b=>aC rfl (vv C.bool (b1 (.inr (.inr k8)) a b))) (fun b=>?_))) (fun k8=>?_)
 ·have e:=b2 (.inr (.inr k8)) a b;refine bX t.args.length 10 [] () (fun _=>[]) (fun _=>[]) (fun k _=>(t.args.drop k).all g=V) e (ai rfl) trivial trivial (fun _=>rfl) (fun _=>rfl) ?_;rintro k _ hk f _ _ _;have f:(t.args.drop k).all g=V:=f;refine ah (fun j=>?_) (fun n=>?_)
  ·have j:k<t.args.length:=by rw[o] at j;omega
   refine aX j fun x u s r=>?_;rw[r,abd,hg] at f;refine cL u ?_;refine bD (z x) rfl fun _=>?_;refine aq (fun q=>?_) (fun q=>?_)
   ·have q:sto x=false:=by simpa using q
    rw[q,aaV,aaV] at f;exact aC rfl (vv C.bool f)
   have q:sto x=true:=by simpa using q
   rw[q,aaS] at f;refine cL u ?_;refine Fit.aaf (by omega) (by omega) ?_;refine bD (ih x s) rfl fun _=>?_;refine aq (fun m=>?_) (fun m=>?_)
   ·have m:v x=false:=by simpa using m
    rw[m,aaV] at f;exact aC rfl (vv C.bool f)
   have m:v x=true:=by simpa using m
   rw[m,aaS] at f;refine Fit.aaf (by omega) (by omega) ?_;exact⟨(k+1,()),⟨j,f⟩,⟨bM,trivial⟩,trivial,bN j⟩
  ·have n:¬k<t.args.length:=by rw[o] at n;omega
   rw[bQ n] at f;exact aC rfl (vv C.bool f)
 refine ah (fun k7=>aR (fun a=>aC rfl (vv C.bool (s0 k7 a))) (fun a=>aR (fun b=>aC rfl (vv C.bool (s1 k7 b))) (fun b=>ul (one b) fun x u=>?_))) (fun k7=>?_)
 ·have e7:V=if x.kind=6 then v x else t.args.all g:=hS k7 a x u.1;refine cL (k:=0) u.2 ?_;refine ah (fun x6=>?_) (fun x6=>?_)
  ·have e:v x=V:=by rw[e7,eu (show x.kind=6 from x6)]
   refine cL (k:=0) u.2 ?_;refine Fit.aaf (by omega) (by omega) ?_;refine bD (ih x (by rw[u.1];exact .head _)) rfl fun _=>?_;exact aC rfl (vv C.bool e)
  have e:t.args.all g=V:=by rw[e7,fo (show¬x.kind=6 from x6)]
  refine bX t.args.length 10 [] () (fun _=>[]) (fun _=>[]) (fun k _=>(t.args.drop k).all g=V) e (ai rfl) trivial trivial (fun _=>rfl) (fun _=>rfl) ?_;rintro k _ hk f _ _ _;have f:(t.args.drop k).all g=V:=f;refine ah (fun j=>?_) (fun n=>?_)
  ·have j:k<t.args.length:=by rw[o] at j;omega
   refine aX j fun x u s r=>?_;rw[r,abd,hg] at f;refine cL u ?_;refine bD (z x) rfl fun _=>?_;refine aq (fun q=>?_) (fun q=>?_)
   ·have q:sto x=false:=by simpa using q
    rw[q,aaV,aaV] at f;exact aC rfl (vv C.bool f)
   have q:sto x=true:=by simpa using q
   rw[q,aaS] at f;refine cL u ?_;refine Fit.aaf (by omega) (by omega) ?_;refine bD (ih x s) rfl fun _=>?_;refine aq (fun m=>?_) (fun m=>?_)
   ·have m:v x=false:=by simpa using m
    rw[m,aaV] at f;exact aC rfl (vv C.bool f)
   have m:v x=true:=by simpa using m
   rw[m,aaS] at f;refine Fit.aaf (by omega) (by omega) ?_;exact⟨(k+1,()),⟨j,f⟩,⟨bM,trivial⟩,trivial,bN j⟩
  ·have n:¬k<t.args.length:=by rw[o] at n;omega
   rw[bQ n] at f;exact aC rfl (vv C.bool f)
 exact aC rfl (vv C.bool (hO (by
  have k1:¬t.kind=1:=k1;have k6:¬t.kind=6:=k6;have k5:¬t.kind=5:=k5;have k2:¬t.kind=2:=k2;have k3:¬t.kind=3:=k3;have k4:¬t.kind=4:=k4;have k8:¬t.kind=8:=k8;have k7:¬t.kind=7:=k7;omega)).symm)
def Dc (p:Prog) (pa d:Int) (t:Ty):Bool:=decide ((cu t:Int)<=d)&&wD p.datas pa t
theorem EI {d:Int}(a:1<=d):∀l:List Ty,decide ((cG l:Int)+1<=d)=l.all fun x=>decide ((cu x:Int)<=d-1)
 | []=>by rw[cG,List.all_nil,aaZ];omega
 | t::l=>by
  rw[abd,<-EI a l,cG,<-Bool.decide_and];exact decide_eq_decide.2 (by omega)
theorem P7 {a:Type}(f:a->Bool) (l:List a):(!l.any f)=l.all fun x=>!f x:=List.not_any_eq_all_not
theorem HM {a:Type}(f g:a->Bool):∀l:List a,(l.all f&&l.all g)=l.all fun x=>f x&&g x
 | []=>rfl
 | x::l=>by
  rw[abd,abd,abd,<-HM f g l];cases f x<;>cases g x<;>cases l.all f<;>rfl
theorem HN {p:Prog}{pa d:Int}{t:Ty}(b:1<=d) (f:t.kind≠5) {n:Int}(c:Db p.datas t.kind t.id=some n) (h0:¬(t.kind≠2/\t.id≠0)) (e:t.kind≠7) :
  Dc p pa d t=(decide ((t.args.length:Int)=n)&&t.args.all fun x=>iY x&&Dc p pa (d-1) x):=by
 unfold Dc;rw[mK,fo f,c,di];show(_&&if _ then _ else _)=_
 by_cases a:(t.args.length:Int)=n
 ·rw[fo (by omega),aaN a,aaS,P7,show((cG t.args+1:Nat):Int)=(cG t.args:Int)+1 by omega,EI b,HM];congr 1
  funext x
  unfold FO;rw[aaP e];cases iY x<;>cases wD p.datas pa x<;>simp
 ·rw[eu (.inr a),aaP a,abh,aaV]
theorem Mv (p:Prog) (pa d:Int) (t:Ty) (f:1<=d):Mu p pa d t (Dc p pa d t) (Dc p pa (d-1)) where
 hA:=fun k=>by
  unfold Dc;rw[mK,fo (by omega),show Db p.datas t.kind t.id=some 0 by rw[Db,eu k],di];show(_&&if _ then _ else _)=_
  by_cases hi:t.id=0
  ·by_cases b:(t.args.length:Int)=0
   ·have:t.args=[]:=List.length_eq_zero_iff.1 (by omega);rw[fo (by omega),this,aaN hi];simp[cG,f]
   ·rw[eu (.inr b),aaP b,abh,abh]
  ·rw[eu (.inl ⟨by omega,hi⟩),aaP hi,abh,aaV]
 hP:=fun k=>by
  unfold Dc;rw[mK,eu k,di,show decide ((t.args.length:Int)=0)=decide (t.args.length=0) from decide_eq_decide.2 (by omega)]
  by_cases b:t.args.length=0
  ·have:t.args=[]:=List.length_eq_zero_iff.1 b;rw[this];simp[cG,f]
  ·rw[aaP b];simp
 hD0:=fun k h=>by
  unfold Dc;rw[mK,fo (by omega),Db,fo (by omega),eu k,eu h,abh]
 hD:=fun k m h0 a=>by
  have j:=(aaR.1 a).1;exact HN f (by omega) (by rw[Db,fo (by omega),eu k,fo (by omega),a];rfl) (by omega) (by omega)
 hB:=fun k=>by
  by_cases hi:t.id=0
  ·rw[HN f (by omega) (n:=1) (by rw[Db,fo (by omega),fo (by omega),eu (by omega)]) (by omega) (by omega),aaN hi,aaS]
  ·unfold Dc;rw[mK,fo (by omega),show Db p.datas t.kind t.id=some 1 by rw[Db,fo (by omega),fo (by omega),eu (by omega)]];show(_&&if _ then _ else _)=_;rw[eu (.inl ⟨by omega,hi⟩),aaP hi,abh,aaV,aaV]
 hS0:=fun k h=>by
  unfold Dc;rw[mK,fo (by omega),show Db p.datas t.kind t.id=some 1 by rw[Db,fo (by omega),fo (by omega),eu (by omega)]];show(_&&if _ then _ else _)=_;rw[eu (by omega),abh]
 hS:=fun k hi x l=>by
  unfold Dc;rw[mK,fo (by omega),show Db p.datas t.kind t.id=some 1 by rw[Db,fo (by omega),fo (by omega),eu (by omega)],di];show(_&&if _ then _ else _)=_;rw[l,fo (by simp[hi])];have e:decide (((cG [x]+1:Nat):Int)<=d)=decide ((cu x:Int)<=d-1):=decide_eq_decide.2 (by simp only[cG];omega);rw[e];unfold FO;rw[aaN k];simp only[abE,List.any_nil,abd,List.all_nil]
  by_cases c:x.kind=6
  ·rw[eu c,aaN c];simp
  ·rw[fo c,aaP c];cases iY x<;>cases wD p.datas pa x<;>simp
 hO:=fun h=>by
  unfold Dc;rw[mK,fo (by omega),Db,fo (by omega),fo (by omega),fo (by omega),abh]
theorem YT (p:Prog) (pa:Int):∀(n:Nat) (t:Ty),n<=100->CallsT P 99 [mQ p,IC pa,aV t,IC (n:Int)] [] (aU [] (.bool (Dc p pa n t)))
 | 0,t,_=>by
  have:=U5 p pa 0 t (by omega);have e:Dc p pa ((0:Nat):Int) t=false:=by
   unfold Dc;rw[di,aaP (by omega),aaV]
  rw[e];exact this
 | n+1,t,h=>by
  have:=XZ p pa ((n+1:Nat):Int) t _ _ (by omega) (Mv p pa ((n+1:Nat):Int) t (by omega)) fun x _=>by
   have:=YT p pa n x (by omega);rw[show((n+1:Nat):Int)-1=(n:Int) by omega];exact this
  exact this
theorem t72 (p:Prog) (pa:Int) (t:Ty):CallsT P 72 [mQ p,IC pa,aV t] [] (aU [] (.bool (iZ p pa t))):=by
 have h:=YT p pa 8 t (by omega);have e:iZ p pa t=(decide (0<=pa)&&(decide (pa<=4)&&Dc p pa ((8:Nat):Int) t)):=by
  unfold iZ Dc
  by_cases a:0<=pa
  ·by_cases b:pa<=4
   ·rw[aaN a,aaN b]
    by_cases c:cu t>8
    ·rw[eu (by omega),aaP (by omega)];rfl
    ·rw[fo (by omega),aaN (by omega)];rfl
   ·rw[eu (by omega),aaP b];simp
  ·rw[eu (by omega),aaP a];rfl
 rw[e];generalize Dc p pa ((8:Nat):Int) t=v at h ⊢;refine af Try.func72 O2 rfl fun j _=>?_;refine ah (fun d=>?_) (fun d=>?_)
 ·refine ah (fun f=>?_) (fun f=>?_)
  ·refine aY h rfl fun _=>?_;exact aC rfl (vv C.bool (by rw[aaN (show 0<=pa from d),aaN (show pa<=4 from f)];rfl))
  ·exact aC rfl (vv C.bool (by rw[aaN (show 0<=pa from d),aaP (show¬pa<=4 from f)];rfl))
 ·exact aC rfl (vv C.bool (by rw[aaP (show¬0<=pa from d)];rfl))
mutual
/-- a parameter occurs -/
def qM (n:Int):Ty->Bool
 | .mk k i l=>if k=5 then decide (i=n) else HO n l
def HO (n:Int):List Ty->Bool
 | []=>false
 | x::l=>qM n x||HO n l
end
theorem BL (n:Int):∀l:List Ty,HO n l=l.any (qM n)
 | []=>rfl
 | x::l=>by rw[HO,BL n l,abE]
theorem uI (n:Int) (t:Ty):qM n t=if t.kind=5 then decide (t.id=n) else t.args.any (qM n):=by
 cases t;rw[qM,BL];rfl
theorem X0 (n:Int) (t:Ty) (V:Bool) (d:Ty->Bool) (s:t.kind=5->V=decide (t.id=n)) (m:t.kind≠5->t.args.any d=V) (r:∀x∈t.args,CallsT P 73 [IC n,aV x] [] (aU [] (.bool (d x)))):CallsT P 73 [IC n,aV t] [] (aU [] (.bool V)):=by
 have e:(t.args.map aI).length=t.args.length:=vz _;refine af Try.func73 O3 rfl fun o _=>?_;have l:t.args.length<=9223372036854775807:=f7 o.2.1.2.2.1;refine ah (fun j=>aC rfl (vv C.bool (s j).symm)) (fun j=>?_);refine bX t.args.length 5 [] () (fun _=>[]) (fun _=>[]) (fun k _=>(t.args.drop k).any d=V) (m j) (ai rfl) trivial trivial (fun _=>rfl) (fun _=>rfl) ?_;rintro k _ u a _ _ _;have a:(t.args.drop k).any d=V:=a;refine ah (fun b=>?_) (fun c=>?_)
 ·have b:k<t.args.length:=by rw[e] at b;omega
  refine aX b fun x p h f=>?_;rw[f,abE] at a;refine cL p ?_;refine aY (r x h) rfl fun _=>?_;refine BF (fun q=>?_) (fun q=>?_)
  ·rw[show d x=true from q,Bool.true_or] at a;exact aC rfl (vv C.bool a)
  rw[show d x=false from q,Bool.false_or] at a;refine Fit.aaf (by omega) (by omega) ?_;exact⟨(k+1,()),⟨b,a⟩,⟨bM,trivial⟩,trivial,bN b⟩
 ·have c:¬k<t.args.length:=by rw[e] at c;omega
  rw[bQ c] at a;exact aC rfl (vv C.bool a)
theorem t73 (n:Int):∀t:Ty,CallsT P 73 [IC n,aV t] [] (aU [] (.bool (qM n t))):=dc fun t a =>
 X0 n t _ (qM n) (fun h=>by rw[uI,eu h]) (fun h=>by rw[uI,fo h]) a
def uJ (p:Prog) (x:Impl):Bool:=ef x.trait p.traits.length&&(!decide (x.module<0)&&(!decide (x.params<0)&&(!decide (x.params>4)&&(iY x.type&&iZ p x.params x.type))))
theorem X1 (p:Prog) (x:Impl) (V v3:Bool) (w:Int->Bool) (l:bh->Bool) (e3:iZ p x.params x.type=v3)
  (ab:CallsT P 72 [mQ p,IC x.params,aV x.type] [] (aU [] (.bool v3)))
  (y:∀k:Int,CallsT P 73 [IC k,aV x.type] [] (aU [] (.bool (w k))))
  (hb:0<=x.params->∀b,l b=!(ef b.param x.params.toNat&&ef b.trait p.traits.length))
  (c0:uJ p x=false->V=false) (u:uJ p x=true->∀k:Int,0<=k->k<x.params->w k=false->V=false)
  (r:uJ p x=true->(∀k:Int,0<=k->k<x.params->w k=true)->V=!x.bounds.any l) :
  CallsT P 31 [mQ p,zq x] [] (aU [] (.bool V)):=by
 have s:=YJ x.type;have d:uJ p x=(ef x.trait p.traits.length&&(!decide (x.module<0)&&(!decide (x.params<0)&&(!decide (x.params>4)&&(iY x.type&&v3))))):=by rw[<-e3];rfl
 generalize iY x.type=v2 at s d;generalize uJ p x=pre at d c0 u r;have i1:∀(a:Int) (n:Nat),¬a<0->¬a>=n->ef a n=true:=fun a n h1 t=>eM.2 ⟨by omega,by omega⟩;have i2:∀(a:Int) (n:Nat),(a<0\/a>=n)->ef a n=false:=fun a n h=>by
  rw[<-ab1,eM];omega
 have v:(Lv p.traits).length=p.traits.length:=by simp[Lv]
 have o:(x.bounds.map aZ).length=x.bounds.length:=vz _;refine af Try.func31 OH rfl fun hw _=>?_;have ag:x.bounds.length<=9223372036854775807:=by have:=gZ hw.2.1.2.2.2.1;rwa [o] at this
 refine ah (fun q=>aC rfl (vv C.bool (c0 (by rw[d,i2 _ _ (.inl q)];rfl)).symm)) (fun q1=>?_);refine ah (fun q=>aC rfl (vv C.bool (c0 (by rw[d,i2 _ _ (.inr (by rw[<-v];exact q))];rfl)).symm)) (fun q2=>?_);have q2:¬x.trait>=p.traits.length:=by rw[<-v];exact q2
 have d:=d;rw[i1 _ _ q1 q2,aaS] at d;refine ah (fun q=>aC rfl (vv C.bool (c0 (by rw[d,aaN (show x.module<0 from q)];rfl)).symm)) (fun q3=>?_);rw[aaP (show¬x.module<0 from q3),abZ,aaS] at d;refine ah (fun q=>aC rfl (vv C.bool (c0 (by rw[d,aaN (show x.params<0 from q)];rfl)).symm)) (fun q4=>?_);have q4:¬x.params<0:=q4;rw[aaP q4,abZ,aaS] at d;refine ah (fun q=>aC rfl (vv C.bool (c0 (by rw[d,aaN (show x.params>4 from q)];rfl)).symm)) (fun q5=>?_);have q5:¬x.params>4:=q5;rw[aaP q5,abZ,aaS] at d;refine aY s rfl fun _=>?_;refine aq (fun q=>?_) (fun q6=>?_)
 ·exact aC rfl (vv C.bool (c0 (by rw[d,show v2=false by simpa using q];rfl)).symm)
 rw[show v2=true by simpa using q6,aaS] at d;refine aY ab rfl fun _=>?_;refine aq (fun q=>?_) (fun q7=>?_)
 ·exact aC rfl (vv C.bool (c0 (by rw[d,show v3=false by simpa using q])).symm)
 have d:pre=true:=by rw[d];simpa using q7
 have u:=u d;have r:=r d;have hb:=hb (by omega);refine bX x.params.toNat 5 [] () (fun _=>[]) (fun _=>[]) (fun k _=>∀i:Int,0<=i->i<k->w i=true) (fun i h1 t=>fL t (by omega)) (ai rfl) trivial trivial (fun _=>rfl) (fun _=>rfl) ?_;rintro k _ hk m _ _ _;refine ah (fun e=>?_) (fun f=>?_)
 ·have e:(k:Int)<x.params:=e;refine aY (y k) rfl fun _=>?_;refine aq (fun q=>?_) (fun q=>?_)
  ·exact aC rfl (vv C.bool (u k (by omega) e (by simpa using q)).symm)
  ·refine Fit.aaf (by omega) (by omega) ?_;refine⟨(k+1,()),⟨by omega,fun i h1 t=>?_⟩,⟨bM,trivial⟩,trivial,by show x.params.toNat-(k+1)<x.params.toNat-k;omega⟩
   by_cases hi:i=k
   ·rw[hi];simpa using q
   ·exact m i h1 (by have:i<((k+1:Nat):Int):=t;omega)
 ·have f:¬(k:Int)<x.params:=f;have r:=r fun i h1 t=>m i h1 (by omega);refine bX x.bounds.length 6 [] () (fun _=>[]) (fun _=>[]) (fun k _=>(!(x.bounds.drop k).any l)=V) r.symm (ai rfl) trivial trivial (fun _=>rfl) (fun _=>rfl) ?_;rintro j _ hj c _ _ _;have c:(!(x.bounds.drop j).any l)=V:=c;refine ah (fun e=>?_) (fun f=>?_)
  ·have e:j<x.bounds.length:=by rw[o] at e;omega
   refine aX e fun b ac ax z=>?_;rw[z,abE,hb] at c;refine BG (by omega) (show x.bounds[((j:Int)).toNat]?=some b from ac) ?_;refine ah (fun q=>?_) (fun r1=>?_)
   ·rw[i2 b.param _ (.inl q)] at c;exact aC rfl (vv C.bool c)
   refine ah (fun q=>?_) (fun r2=>?_)
   ·rw[i2 b.param _ (.inr (show b.param>=((x.params.toNat:Nat):Int) by have:b.param>=x.params:=q;omega))] at c;exact aC rfl (vv C.bool c)
   rw[i1 b.param x.params.toNat r1 (by have:¬b.param>=x.params:=r2;omega)] at c;refine ah (fun q=>?_) (fun r3=>?_)
   ·rw[i2 b.trait _ (.inl q)] at c;exact aC rfl (vv C.bool c)
   refine ah (fun q=>?_) (fun r4=>?_)
   ·rw[i2 b.trait _ (.inr (by rw[<-v];exact q))] at c;exact aC rfl (vv C.bool c)
   rw[i1 b.trait p.traits.length r3 (by rw[<-v];exact r4)] at c;refine Fit.aaf (by omega) (by omega) ?_;exact⟨(j+1,()),⟨e,c⟩,⟨bM,trivial⟩,trivial,bN e⟩
  ·have f:¬j<x.bounds.length:=by rw[o] at f;omega
   rw[bQ f] at c;exact aC rfl (vv C.bool c)
theorem zC (ds:List Api.Data) (n:Nat):∀(t:Ty) (o:List Bool),wD ds n t=true->o.length=n->∀k:Nat,k<n->(mark t o)[k]?=some (qM k t||(o[k]?).getD false):=dc (p:=fun t=>∀o:List Bool,wD ds n t=true->o.length=n->∀k:Nat,k<n->(mark t o)[k]?=some (qM k t||(o[k]?).getD false)) fun t v o m f k s=>by
 have r:∀(l:List Ty),(∀x∈l,∀o:List Bool,wD ds n x=true->o.length=n->∀k:Nat,k<n->(mark x o)[k]?=some (qM k x||(o[k]?).getD false))->(∀x∈l,wD ds n x=true)->∀o:List Bool,o.length=n->(oC l o)[k]?=some (l.any (qM k)||(o[k]?).getD false):=by
  intro l
  induction l with
  | nil =>
   intro _ _ o f;rw[oC];obtain⟨b,hb⟩:=gO (l:=o) (k:=k) (by omega);rw[hb];rfl
  | cons x l j =>
   intro h1 q o f;rw[oC,j (fun y h=>h1 y (.tail _ h)) (fun y h=>q y (.tail _ h)) _ (by rw[qK,f]),h1 x (.head _) o (q x (.head _)) f k s,abE];cases l.any (qM k)<;>cases qM k x<;>simp
 rw[mark_eq,uI]
 by_cases d:t.kind=5
 ·obtain⟨a,b,c⟩:=xg m d;rw[eu d,eu d,c,oC,List.getElem?_set];have c0:t.id.toNat<o.length:=by omega
  by_cases e:t.id.toNat=k
  ·rw[eu e,eu c0,aaN (by omega),Bool.true_or]
  ·obtain⟨y,h⟩:=gO (l:=o) (k:=k) (by omega);rw[fo e,aaP (by omega),h];rfl
 ·obtain⟨_,_,_,w⟩:=xh m d;rw[fo d,fo d];exact r t.args v (fun x u=>(w x u).2) o f
theorem t31 (p:Prog) (x:Impl):CallsT P 31 [mQ p,zq x] [] (aU [] (.bool (gB p x))):=by
 have o:uJ p x=false->gB p x=false:=fun h=>by
  unfold uJ at h;unfold gB;have:iZ p x.params x.type=true->decide (x.params<0)=false/\decide (x.params>4)=false:=fun v=>by
   obtain⟨a,b,_⟩:=qL v;exact⟨aaP (by omega),aaP (by omega)⟩
  cases h1:ef x.trait p.traits.length<;>rw[h1] at h<;>cases y:decide (x.module<0)<;>rw[y] at h<;>cases r:iY x.type<;>rw[r] at h<;>cases q:iZ p x.params x.type<;>rw[q] at h<;>(try rfl);have:=this q;rw[this.1,this.2] at h;cases h
 have f:uJ p x=true->ef x.trait p.traits.length=true/\decide (x.module<0)=false/\iY x.type=true/\iZ p x.params x.type=true:=fun h=>by
  unfold uJ at h;simp only[v5,Bool.not_eq_true'] at h;exact⟨h.1,h.2.1,h.2.2.2.2.1,h.2.2.2.2.2⟩
 refine X1 p x _ _ (fun k=>qM k x.type) (uH p x.params.toNat) rfl (t72 p x.params x.type) (fun k=>t73 k x.type) (fun _ b=>by unfold uH;rw[Bool.not_and]) o (fun h k h0 h1 t=>?_) fun h e=>?_
 ·obtain⟨a,b,c,d⟩:=f h;obtain⟨s,w,u,m⟩:=qL d;have:(mark x.type (List.replicate x.params.toNat false)).any (fun b=>!b)=true:=by
   have:=zC p.datas x.params.toNat x.type (List.replicate x.params.toNat false) (by rw[show((x.params.toNat:Nat):Int)=x.params by omega];exact m) abk k.toNat (by omega);rw[show((k.toNat:Nat):Int)=k by omega,t,ab0,eu (by omega)] at this;rw[abO];exact⟨false,aaW this,rfl⟩
  unfold gB;rw[this];simp
 ·obtain⟨a,b,c,d⟩:=f h;obtain⟨s,w,u,m⟩:=qL d;have:(mark x.type (List.replicate x.params.toNat false)).any (fun b=>!b)=false:=by
   rw[abX];intro b hb;obtain⟨k,l,j⟩:=List.mem_iff_getElem.1 hb;have n:k<x.params.toNat:=by rw[qK,abk] at l;exact l
   have:=zC p.datas x.params.toNat x.type (List.replicate x.params.toNat false) (by rw[show((x.params.toNat:Nat):Int)=x.params by omega];exact m) abk k n;rw[e k (by omega) (by omega),aaO l,j] at this;have:b=true:=by simpa using this
   rw[this];simp
  unfold gB;rw[a,b,c,d,this];simp
theorem P8 (p:Prog) (x:Impl):(ownB p x=true↔x.type.kind=2/\0<=x.type.id/\x.type.id<p.datas.length/\(p.datas[x.type.id.toNat]?).map (·.module)=some x.module):=by
 unfold ownB;rw[v5,v5,eM,aaZ,aaZ];exact⟨fun⟨a,⟨b,c⟩,d⟩=>⟨a,b,c,d⟩,fun⟨a,b,c,d⟩=>⟨a,⟨b,c⟩,d⟩⟩
theorem Mw (p:Prog) (x:Impl):(EH p x=true↔0<=x.trait/\x.trait<p.homes.length/\p.homes[x.trait.toNat]?=some x.module):=by
 unfold EH;rw[v5,eM,aaZ];exact⟨fun⟨⟨a,b⟩,d⟩=>⟨a,b,d⟩,fun⟨a,b,d⟩=>⟨⟨a,b⟩,d⟩⟩
theorem C3 {b:Bool}{p:Prop}(h:b=true↔p):(p->b=true)/\(¬p->b=false):=⟨h.2,fun n=>by rw[<-ab1];exact fun q=>n (h.1 q)⟩
theorem X2 (p:Prog) (x:Impl) (s m V:Bool) (h1:s=true↔0<=x.trait/\x.trait<p.homes.length/\p.homes[x.trait.toNat]?=some x.module)
  (h2:m=true↔x.type.kind=2/\0<=x.type.id/\x.type.id<p.datas.length/\(p.datas[x.type.id.toNat]?).map (·.module)=some x.module) (hV:(!s&&!m)=V):CallsT P 41 [mQ p,zq x] [] (aU [] (.bool V)):=by
 obtain⟨a1,w⟩:=C3 h1;obtain⟨b1,o⟩:=C3 h2;have z:(EW p.homes).length=p.homes.length:=by simp[EW]
 have t:(p.datas.map lg).length=p.datas.length:=vz _;have n:∀q:Bool,s=false->m=q->(!q)=V:=fun q a b=>by rw[<-hV,a,b];rfl
 have k1:s=true->false=V:=fun a=>by rw[<-hV,a];rfl
 have hC:∀y,0<=x.trait->x.trait<p.homes.length->p.homes[x.trait.toNat]?=some y->s=decide (y=x.module):=fun y a b c=>by
  by_cases e:y=x.module
  ·rw[a1 ⟨a,b,by rw[c,e]⟩,aaN e]
  ·rw[w (fun q=>e (abr (c.symm.trans q.2.2))),aaP e]
 have hD:∀d:Api.Data,x.type.kind=2->0<=x.type.id->x.type.id<p.datas.length->p.datas[x.type.id.toNat]?=some d->m=decide (d.module=x.module):=fun d k a b c=>by
  by_cases e:d.module=x.module
  ·rw[b1 ⟨k,a,b,by rw[c,<-e];rfl⟩,aaN e]
  ·rw[o (fun q=>e (by have:=q.2.2.2;rw[c] at this;exact abr this)),aaP e]
 refine af Try.func41 OL rfl fun hw _=>?_;refine ah (fun u=>ah (fun v=>ul (gO (l:=p.homes) (k:=x.trait.toNat) (by have:x.trait<((EW p.homes).length:Int):=v;omega)) fun y hy=>Rh u hy ?_) (fun v=>?_)) (fun u=>?_)
 ·have h:=hC y u (by rw[<-z];exact v) hy;refine ah (fun k=>ah (fun i0=>ah (fun i1=>ul (gO (l:=p.datas) (k:=x.type.id.toNat) (by have:x.type.id<((p.datas.map lg).length:Int):=i1;omega)) fun d r=>FP i0 r ?_) (fun i1=>?_)) (fun i0=>?_)) (fun k=>?_)
  ·have f:=hD d k i0 (by rw[<-t];exact i1) r;refine aR (fun j=>?_) (fun j=>?_)
   ·exact aC rfl (vv C.bool (n _ (by rw[h,aaP (show¬y=x.module from j)]) f))
   ·exact aC rfl (vv C.bool (k1 (by rw[h,aaN (show y=x.module from j)])))
  ·have f:m=false:=o fun q=>i1 (by rw[t];exact q.2.2.1);refine aR (fun j=>?_) (fun j=>?_)
   ·exact aC rfl (vv C.bool (n _ (by rw[h,aaP (show¬y=x.module from j)]) f))
   ·exact aC rfl (vv C.bool (k1 (by rw[h,aaN (show y=x.module from j)])))
  ·have f:m=false:=o fun q=>i0 q.2.1;refine aR (fun j=>?_) (fun j=>?_)
   ·exact aC rfl (vv C.bool (n _ (by rw[h,aaP (show¬y=x.module from j)]) f))
   ·exact aC rfl (vv C.bool (k1 (by rw[h,aaN (show y=x.module from j)])))
  ·have f:m=false:=o fun q=>k q.1;refine aR (fun j=>?_) (fun j=>?_)
   ·exact aC rfl (vv C.bool (n _ (by rw[h,aaP (show¬y=x.module from j)]) f))
   ·exact aC rfl (vv C.bool (k1 (by rw[h,aaN (show y=x.module from j)])))
 ·have h:s=false:=w fun q=>v (by rw[z];exact q.2.1);refine ah (fun k=>ah (fun i0=>ah (fun i1=>ul (gO (l:=p.datas) (k:=x.type.id.toNat) (by have:x.type.id<((p.datas.map lg).length:Int):=i1;omega)) fun d r=>FP i0 r ?_) (fun i1=>?_)) (fun i0=>?_)) (fun k=>?_)
  ·have f:=hD d k i0 (by rw[<-t];exact i1) r;exact aC rfl (vv C.bool (n _ h f))
  ·have f:m=false:=o fun q=>i1 (by rw[t];exact q.2.2.1);exact aC rfl (vv C.bool (n _ h f))
  ·have f:m=false:=o fun q=>i0 q.2.1;exact aC rfl (vv C.bool (n _ h f))
  ·have f:m=false:=o fun q=>k q.1;exact aC rfl (vv C.bool (n _ h f))
 ·have h:s=false:=w fun q=>u q.1;refine ah (fun k=>ah (fun i0=>ah (fun i1=>ul (gO (l:=p.datas) (k:=x.type.id.toNat) (by have:x.type.id<((p.datas.map lg).length:Int):=i1;omega)) fun d r=>FP i0 r ?_) (fun i1=>?_)) (fun i0=>?_)) (fun k=>?_)
  ·have f:=hD d k i0 (by rw[<-t];exact i1) r;exact aC rfl (vv C.bool (n _ h f))
  ·have f:m=false:=o fun q=>i1 (by rw[t];exact q.2.2.1);exact aC rfl (vv C.bool (n _ h f))
  ·have f:m=false:=o fun q=>i0 q.2.1;exact aC rfl (vv C.bool (n _ h f))
  ·have f:m=false:=o fun q=>k q.1;exact aC rfl (vv C.bool (n _ h f))
theorem t41 (p:Prog) (x:Impl):CallsT P 41 [mQ p,zq x] [] (aU [] (.bool (zB p x))):=X2 p x _ _ _ (Mw p x) (P8 p x) rfl
theorem SS (t:Ty):CallsT P 12 [.sl [[IC t.kind,IC t.id,.sl (t.args.map aI)]]] [] (aU [] (.bool (jw [t]))):=by
 have:=t12 [t];rw[aaX,abC,iJ] at this;exact this
def zD (p:Prog) (a:List bh):Bool:=!decide (20<p.datas.length)&&(!decide (12<p.impls.length)&&(!decide (10<a.length)&&p.impls.all fun x=>!decide (6<x.bounds.length)&&jw [x.type]))
theorem YU (p:Prog) (b:List bh):CallsT P 30 [mQ p,.sl (b.map aZ)] [] (aU [] (.bool (zD p b))):=by
 have h12:=fun x:Impl=>SS x.type;have e:zD p b=(!decide (20<p.datas.length)&&(!decide (12<p.impls.length)&&(!decide (10<b.length)&&p.impls.all fun x=>!decide (6<x.bounds.length)&&jw [x.type]))):=rfl;have l:∀x:Impl,(fun x:Impl=>!decide (6<x.bounds.length)&&jw [x.type]) x=(!decide (6<x.bounds.length)&&jw [x.type]):=fun x=>rfl;generalize(fun x:Impl=>!decide (6<x.bounds.length)&&jw [x.type])=g at e l;generalize jw=sm at h12 l;generalize zD p b=V at e ⊢;have y:(p.datas.map lg).length=p.datas.length:=vz _;have h:(p.impls.map dH).length=p.impls.length:=vz _;have z:(b.map aZ).length=b.length:=vz _;have j:∀x:Impl,(x.bounds.map aZ).length=x.bounds.length:=fun x=>vz _;refine af Try.func30 OG rfl fun u _=>?_;have r:p.impls.length<=9223372036854775807:=by have:=gZ u.1.2.2.2.2.2.1;rwa [h] at this
 refine ah (fun q=>?_) (fun n=>?_)
 ·have q:((p.datas.map lg).length:Int)>20:=q;exact aC rfl (vv C.bool (by rw[e,aaN (by omega)];rfl))
 have n:¬((p.datas.map lg).length:Int)>20:=n;refine ah (fun q=>?_) (fun o=>?_)
 ·have q:((p.impls.map dH).length:Int)>12:=q;exact aC rfl (vv C.bool (by rw[e,aaN (show 12<p.impls.length by omega)];simp))
 have o:¬((p.impls.map dH).length:Int)>12:=o;refine ah (fun q=>?_) (fun m=>?_)
 ·have q:((b.map aZ).length:Int)>10:=q;exact aC rfl (vv C.bool (by rw[e,aaN (show 10<b.length by omega)];simp))
 have m:¬((b.map aZ).length:Int)>10:=m;have e:p.impls.all g=V:=by
  rw[e,aaP (show¬20<p.datas.length by omega),aaP (show¬12<p.impls.length by omega),aaP (show¬10<b.length by omega)];rfl
 refine bX p.impls.length 5 [] () (fun _=>[]) (fun _=>[]) (fun k _=>(p.impls.drop k).all g=V) e (ai rfl) trivial trivial (fun _=>rfl) (fun _=>rfl) ?_;rintro k _ w a _ _ _;have a:(p.impls.drop k).all g=V:=a;refine ah (fun c=>?_) (fun d=>?_)
 ·have c:k<p.impls.length:=by rw[h] at c;omega
  refine aX c fun x s t f=>?_;have v:=j x;rw[f,abd,l] at a;refine j4 (by omega) (show p.impls[((k:Int)).toNat]?=some x from s) ?_;refine ah (fun q=>?_) (fun q=>?_)
  ·have q:((x.bounds.map aZ).length:Int)>6:=q;rw[aaN (show 6<x.bounds.length by omega)] at a;exact aC rfl (vv C.bool (by rw[<-a];rfl))
  have q:¬((x.bounds.map aZ).length:Int)>6:=q;rw[aaP (show¬6<x.bounds.length by omega),abZ,aaS] at a;refine j4 (by omega) (show p.impls[((k:Int)).toNat]?=some x from s) ?_;refine aY (h12 x) rfl fun _=>?_;refine aq (fun q=>?_) (fun q=>?_)
  ·rw[show sm [x.type]=false by simpa using q] at a;exact aC rfl (vv C.bool (by rw[<-a];rfl))
  rw[show sm [x.type]=true by simpa using q,aaS] at a;refine Fit.aaf (by omega) (by omega) ?_;exact⟨(k+1,()),⟨c,a⟩,⟨bM,trivial⟩,trivial,bN c⟩
 ·have d:¬k<p.impls.length:=by rw[h] at d;omega
  rw[bQ d] at a;exact aC rfl (vv C.bool a)
abbrev rN:=List Ty×List Bool
mutual
noncomputable def vL:Ty->Ty->rN->Bool×rN
 | .mk k i l,t,s=>if k=5 then
   (if i<0\/(s.1.length:Int)<=i then(false,s) else if s.2[i.toNat]?=some true then(uP (s.1[i.toNat]?=some t),s) else(true,(s.1.set i.toNat t,s.2.set i.toNat true)))
  else if k≠t.kind\/i≠t.id\/l.length≠t.args.length then(false,s) else EJ l t.args s
noncomputable def EJ:List Ty->List Ty->rN->Bool×rN
 | x::l,y::m,s=>if(vL x y s).1=true then EJ l m (vL x y s).2 else(false,(vL x y s).2)
 | _,_,s=>(true,s)
end
theorem C4 (x t:Ty) (s:rN):vL x t s=if x.kind=5 then
   (if x.id<0\/(s.1.length:Int)<=x.id then(false,s) else if s.2[x.id.toNat]?=some true then(uP (s.1[x.id.toNat]?=some t),s) else(true,(s.1.set x.id.toNat t,s.2.set x.id.toNat true)))
  else if x.kind≠t.kind\/x.id≠t.id\/x.args.length≠t.args.length then(false,s) else EJ x.args t.args s:=by
 cases x;rw[vL];rfl
abbrev LM (s:rN):List TO:=[.row 32 3 (s.1.map aI),.row 4 1 (s.2.map bC)]
abbrev uK (x t:Ty) (s:rN) (r:Bool×rN):Prop:=fG P 100 [aV x,aV t,.agg [.rw 1000,.rw 1001]] (LM s) (aU (LM r.2) (.bool r.1))
theorem uL:qN Try.f100 2=true:=by kernel_rfl
theorem U7 (x t:Ty) (s:rN) (c:x.kind=5) (h:x.id<0\/(s.1.length:Int)<=x.id):uK x t s (false,s):=by
 have d:(s.1.map aI).length=s.1.length:=vz _;refine fS 2 (.agg [.rw 1000,.rw 1001]) Try.func100 ol rfl uL rfl rfl rfl fun e _=>?_;refine ah (fun _=>ah (fun _=>wK rfl rfl rfl rfl rfl) (fun b=>ah (fun _=>wK rfl rfl rfl rfl rfl) (fun a=>fL h ?_))) (fun q=>fL c q);have b:¬x.id<0:=b;have a:¬x.id>=((s.1.map aI).length:Int):=a;omega
theorem U8 (x t y:Ty) (s:rN) (j:x.kind=5) (h:¬(x.id<0\/(s.1.length:Int)<=x.id)) (d:s.1[x.id.toNat]?=some y) (hb:s.2[x.id.toNat]?=some true) (k:s.2.length=s.1.length):uK x t s (uP (s.1[x.id.toNat]?=some t),s):=by
 have o:(s.1.map aI).length=s.1.length:=vz _;have l:(s.2.map bC).length=s.2.length:=vz _;have e:=Hp d;have c:(s.2.map bC)[x.id.toNat]?=some [.bool true]:=by rw[aa4,hb];rfl
 have a:=YK y t;have f:uP (y=t)=uP (s.1[x.id.toNat]?=some t):=by rw[d,xo]
 rw[pT,f] at a;generalize uP (s.1[x.id.toNat]?=some t)=b at a ⊢;refine fS 2 (.agg [.rw 1000,.rw 1001]) Try.func100 ol rfl uL rfl rfl rfl fun p _=>?_;refine ah (fun _=>ah (fun q=>?_) (fun m=>ah (fun q=>?_) (fun n=>?_))) (fun q=>fL j q)
 ·exact fL (show x.id<0 from q) (by omega)
 ·exact fL (show x.id>=((s.1.map aI).length:Int) from q) (by omega)
 refine BS.mk (by omega) (by omega) ?_;refine⟨_,c,rfl,?_⟩;refine BS.mk (by omega) (by omega) ?_;refine Px d ?_;refine bD a rfl fun _=>?_;exact wK rfl rfl rfl rfl rfl
theorem U9 (x t:Ty) (s:rN) (f:x.kind=5) (h:¬(x.id<0\/(s.1.length:Int)<=x.id)) (y:Ty) (e:s.1[x.id.toNat]?=some y) (hb:s.2[x.id.toNat]?=some false) (k:s.2.length=s.1.length):uK x t s (true,(s.1.set x.id.toNat t,s.2.set x.id.toNat true)):=by
 have o:(s.1.map aI).length=s.1.length:=vz _;have l:(s.2.map bC).length=s.2.length:=vz _;have d:=Hp e;have c:(s.2.map bC)[x.id.toNat]?=some [.bool false]:=by rw[aa4,hb];rfl
 have b:=LK (s:=s.1) (j:=x.id.toNat) (t:=t);have a:(s.2.map bC).set x.id.toNat [.bool true]=(s.2.set x.id.toNat true).map bC:=by rw[List.map_set];rfl
 show fG P 100 [aV x,aV t,.agg [.rw 1000,.rw 1001]] (LM s) (aU [.row 32 3 ((s.1.set x.id.toNat t).map aI),.row 4 1 ((s.2.set x.id.toNat true).map bC)] (.bool true));generalize s.1.set x.id.toNat t=s1 at b ⊢;generalize s.2.set x.id.toNat true=s2 at a ⊢;refine fS 2 (.agg [.rw 1000,.rw 1001]) Try.func100 ol rfl uL rfl rfl rfl fun p _=>?_;refine ah (fun _=>ah (fun q=>?_) (fun m=>ah (fun q=>?_) (fun n=>?_))) (fun q=>fL f q)
 ·exact fL (show x.id<0 from q) (by omega)
 ·exact fL (show x.id>=((s.1.map aI).length:Int) from q) (by omega)
 refine BS.mk (by omega) (by omega) ?_;refine⟨_,c,rfl,?_⟩;refine BS.mk (by omega) (by omega) ?_;refine⟨rfl,Bp d rfl ?_⟩;refine BS.mk (by omega) (by omega) ?_;refine⟨rfl,Bp c rfl ?_⟩;exact wK rfl rfl rfl (by rw[<-b,<-a];rfl) rfl
theorem Va (x t:Ty) (s:rN) (d:¬x.kind=5) (h:x.kind≠t.kind\/x.id≠t.id\/x.args.length≠t.args.length):uK x t s (false,s):=by
 have f:(x.args.map aI).length=x.args.length:=vz _;have e:(t.args.map aI).length=t.args.length:=vz _;refine fS 2 (.agg [.rw 1000,.rw 1001]) Try.func100 ol rfl uL rfl rfl rfl fun j _=>?_;refine ah (fun q=>fL q d) (fun _=>aR (fun _=>wK rfl rfl rfl rfl rfl) (fun a=>aR (fun _=>wK rfl rfl rfl rfl rfl) (fun b=>aR (fun _=>wK rfl rfl rfl rfl rfl) (fun c=>fL h ?_))));have c:((x.args.map aI).length:Int)=((t.args.map aI).length:Int):=c;have a:x.kind=t.kind:=a;have b:x.id=t.id:=b;omega
theorem Vb (x t:Ty) (s:rN) (R:Bool×rN) (f:Ty->Ty->rN->Bool×rN) (p:List Ty->List Ty->rN->Bool×rN) (r:∀s,p [] [] s=(true,s)) (n:∀x l y m s,p (x::l) (y::m) s=if(f x y s).1=true then p l m (f x y s).2 else(false,(f x y s).2))
  (h5:¬x.kind=5) (h:¬(x.kind≠t.kind\/x.id≠t.id\/x.args.length≠t.args.length)) (e:p x.args t.args s=R) (w:s.2.length=s.1.length)
  (ih:∀y∈x.args,∀z s,s.2.length=s.1.length->uK y z s (f y z s)/\(f y z s).2.2.length=(f y z s).2.1.length):uK x t s R:=by
 have e1:(x.args.map aI).length=x.args.length:=vz _;have e2:(t.args.map aI).length=t.args.length:=vz _;refine fS 2 (.agg [.rw 1000,.rw 1001]) Try.func100 ol rfl uL rfl rfl rfl fun hw _=>?_;have ac:t.args.length<=9223372036854775807:=f7 hw.2.1.2.2.1;refine ah (fun q=>fL q h5) (fun _=>aR (fun q=>fL (show x.kind=t.kind by omega) q) (fun a=>aR (fun q=>fL (show x.id=t.id by omega) q) (fun b=>aR (fun q=>fL (show((x.args.map aI).length:Int)=((t.args.map aI).length:Int) by omega) q) (fun c=>?_))));have ad:x.args.length=t.args.length:=by omega
 refine bX t.args.length 7 [2] s (fun _=>[.agg [.rw 1000,.rw 1001]]) (fun s=>[(5,.box 125 [.rw 1000,.rw 1001]),(1000,.row 32 3 (s.1.map aI)),(1001,.row 4 1 (s.2.map bC))]) (fun k s=>p (x.args.drop k) (t.args.drop k) s=R/\s.2.length=s.1.length) ⟨e,w⟩ (ai rfl) ⟨ai rfl,trivial⟩ ⟨.inl ⟨_,rfl,.inl ⟨rfl,rfl⟩⟩,.inl ⟨_,rfl,.inl ⟨rfl,rfl⟩⟩,.inl ⟨_,rfl,.inl ⟨rfl,rfl⟩⟩,trivial⟩ (fun _=>rfl) (fun _=>rfl) ?_;rintro k s hk d _ _ _;have d:p (x.args.drop k) (t.args.drop k) s=R/\s.2.length=s.1.length:=d;have e:=d.1;have w:=d.2;refine ah (fun j=>?_) (fun o=>?_)
 ·have j:k<t.args.length:=by rw[e2] at j;omega
  refine aX j fun y hy ae aa=>?_;refine aX (l:=x.args) (k:=k) (by omega) fun z hz u v=>?_;rw[aa,v,n] at e;have i:=ih z u y s w;refine cL hz ?_;refine cL hy ?_;refine SX [1000,1001] i.1 rfl rfl rfl rfl rfl ?_;refine aq (fun q=>?_) (fun q=>?_)
  ·have q:(f z y s).1=false:=by simpa using q
   rw[fo (by rw[q];exact aa7)] at e;exact wK rfl rfl rfl (by rw[<-e];rfl) (by rw[<-e];rfl)
  ·have q:(f z y s).1=true:=by simpa using q
   rw[eu q] at e;refine Fit.aaf (by omega) (by omega) ?_;exact⟨(k+1,(f z y s).2),⟨j,e,i.2⟩,⟨bM,ai rfl,trivial⟩,⟨.inl ⟨_,rfl,.inl ⟨rfl,rfl⟩⟩,.inl ⟨_,rfl,.inl ⟨rfl,rfl⟩⟩,.inl ⟨_,rfl,.inl ⟨rfl,rfl⟩⟩,trivial⟩,bN j⟩
 ·have o:¬k<t.args.length:=by rw[e2] at o;omega
  rw[bQ o,bQ (by omega),r] at e;exact wK rfl rfl rfl (by rw[<-e];rfl) (by rw[<-e];rfl)
theorem C5:∀(x t:Ty) (s:rN),(vL x t s).2.1.length=s.1.length/\(vL x t s).2.2.length=s.2.length:=dc (p:=fun x=>∀(t:Ty) (s:rN),(vL x t s).2.1.length=s.1.length/\(vL x t s).2.2.length=s.2.length) fun x d t s=>by
 rw[C4];have e:∀(l m:List Ty) (s:rN),(∀x∈l,∀(t:Ty) (s:rN),(vL x t s).2.1.length=s.1.length/\(vL x t s).2.2.length=s.2.length)->(EJ l m s).2.1.length=s.1.length/\(EJ l m s).2.2.length=s.2.length:=by
  intro l
  induction l with
  | nil=>intro m s _;cases m<;>exact⟨rfl,rfl⟩
  | cons y l a =>
   intro m s h;cases m with
   | nil=>exact⟨rfl,rfl⟩
   | cons z m =>
    rw[EJ];have:=h y (.head _) z s;split
    ·have b:=a m (vL y z s).2 fun y c=>h y (.tail _ c);exact⟨b.1.trans this.1,b.2.trans this.2⟩
    ·exact this
 split
 ·split
  ·exact⟨rfl,rfl⟩
  ·split
   ·exact⟨rfl,rfl⟩
   ·exact⟨abw,abw⟩
 ·split
  ·exact⟨rfl,rfl⟩
  ·exact e _ _ _ d
theorem X3:∀(x t:Ty) (s:rN),s.2.length=s.1.length->uK x t s (vL x t s):=dc (p:=fun x=>∀(t:Ty) (s:rN),s.2.length=s.1.length->uK x t s (vL x t s)) fun x e t s c=>by
 rw[C4]
 by_cases a:x.kind=5
 ·rw[eu a]
  by_cases h:x.id<0\/(s.1.length:Int)<=x.id
  ·rw[eu h];exact U7 x t s a h
  ·rw[fo h];obtain⟨y,d⟩:=gO (l:=s.1) (k:=x.id.toNat) (by omega);obtain⟨b,hb⟩:=gO (l:=s.2) (k:=x.id.toNat) (by omega);cases b with
   | true=>rw[eu hb];exact U8 x t y s a h d hb c
   | false=>rw[fo (by rw[hb];simp)];exact U9 x t s a h y d hb c
 ·rw[fo a]
  by_cases h:x.kind≠t.kind\/x.id≠t.id\/x.args.length≠t.args.length
  ·rw[eu h];exact Va x t s a h
  ·rw[fo h];exact Vb x t s _ vL EJ (fun s=>by rw[EJ];intros;contradiction) (fun x l y m s=>by rw[EJ]) a h rfl c fun y d z s c=>⟨e y d z s c,by have:=C5 y z s;omega⟩
noncomputable def SY (x t:Ty) (n:Nat):Bool×rN:=vL x t (List.replicate n zT,List.replicate n false)
theorem Vc (x t:Ty) (n:Int) (h:n<0\/n>4):CallsT P 75 [aV x,aV t,IC n] [] (aU [] (.tup [.sl [],.bool false])):=by
 refine af Try.func75 CD rfl fun c _=>?_;refine ah (fun _=>aC rfl rfl) (fun b=>ah (fun _=>aC rfl rfl) (fun a=>fL h ?_));have b:¬n<0:=b;have a:¬n>4:=a;omega
theorem SZ (n:Nat):(List.replicate n zT).map aI=List.replicate n [IC 0,IC 0,.sl []]:=by rw[abW,iJ];rfl
theorem Ve (n:Nat):(List.replicate n false).map bC=List.replicate n [C.bool false]:=by rw[abW];rfl
theorem X4 (x t:Ty) (n:Int) (h:¬(n<0\/n>4)) (r:Bool×rN) (a:uK x t (List.replicate n.toNat zT,List.replicate n.toNat false) r) :
  (r.1=true->CallsT P 75 [aV x,aV t,IC n] [] (aU [.row 32 3 (r.2.1.map aI)] (.tup [.rw 1000,.bool true])))/\(r.1=false->CallsT P 75 [aV x,aV t,IC n] [] (aU [] (.tup [.sl [],.bool false]))):=by
 have a:fG P 100 [aV x,aV t,.agg [.rw 1000,.rw 1001]] [.row 32 3 (List.replicate n.toNat [IC 0,IC 0,.sl []]),.row 4 1 (List.replicate n.toNat [C.bool false])] (aU (LM r.2) (.bool r.1)):=by
  rw[<-SZ,<-Ve];exact a
 refine⟨fun hb=>?_,fun hb=>?_⟩
 ·rw[hb] at a;refine af Try.func75 CD rfl fun c _=>?_;refine ah (fun q=>fL (Or.inl q) h) (fun d=>ah (fun q=>fL (Or.inr q) h) (fun b=>?_));refine nk.mk (by omega) (abb _) (by omega) (by simp only[maxLen];omega) ?_;refine nk.mk (by omega) (abb _) (by omega) (by simp only[maxLen];omega) ?_;refine vK [16,18] a rfl rfl rfl rfl rfl ?_;exact bF [16] rfl rfl rfl rfl
 ·rw[hb] at a;refine af Try.func75 CD rfl fun c _=>?_;refine ah (fun q=>fL (Or.inl q) h) (fun d=>ah (fun q=>fL (Or.inr q) h) (fun b=>?_));refine nk.mk (by omega) (abb _) (by omega) (by simp only[maxLen];omega) ?_;refine nk.mk (by omega) (abb _) (by omega) (by simp only[maxLen];omega) ?_;refine vK [16,18] a rfl rfl rfl rfl rfl ?_;exact aC rfl rfl
noncomputable def Ah (x:Impl) (t:Ty):Bool:=decide (0<=x.params)&&(decide (x.params<=4)&&(SY x.type t x.params.toNat).1)
theorem t33 (x:Impl) (t:Ty):CallsT P 33 [zq x,aV t] [] (aU [] (.bool (Ah x t))):=by
 by_cases h:x.params<0\/x.params>4
 ·have a:=Vc x.type t x.params h;have e:Ah x t=false:=by
   unfold Ah;rcases h with h | h
   ·rw[aaP (by omega)];rfl
   ·rw[aaP (show¬x.params<=4 by omega)];simp
  rw[e];refine af Try.func33 Cx rfl fun b _=>?_;refine aY a rfl fun _=>?_;exact aC rfl rfl
 ·have a:=X4 x.type t x.params h _ (X3 x.type t _ (by rw[abk,abk]));have e:Ah x t=(SY x.type t x.params.toNat).1:=by
   unfold Ah;rw[aaN (by omega),aaN (by omega)];rfl
  rw[e];show CallsT P 33 [zq x,aV t] [] (aU [] (.bool (vL x.type t (List.replicate x.params.toNat zT,List.replicate x.params.toNat false)).1));generalize vL x.type t (List.replicate x.params.toNat zT,List.replicate x.params.toNat false)=r at a ⊢;cases hb:r.1 with
  | true =>
   have a:=a.1 hb;refine af Try.func33 Cx rfl fun b _=>?_;refine callO [] [9000] a rfl rfl rfl rfl rfl fun _ _=>?_;exact aC rfl rfl
  | false =>
   have a:=a.2 hb;refine af Try.func33 Cx rfl fun b _=>?_;refine aY a rfl fun _=>?_;exact aC rfl rfl
end Go.Fr.Try
