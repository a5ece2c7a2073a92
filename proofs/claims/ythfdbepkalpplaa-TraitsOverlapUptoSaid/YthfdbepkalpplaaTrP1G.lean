/- Part of the proofs of the statements of this seat. -/
import Derived.Test.YthfdbepkalpplaaTrT4G
import Derived.Test.YthfdbepkalpplaaFW3
import Derived.Test.YthfdbepkalpplaaUnH1G
set_option maxRecDepth 10000
set_option linter.unusedVariables false
set_option linter.unusedSimpArgs false
namespace Go.Fr.Try
open Go Go.RowKit Go.Proofs Go.Fr Go.Fr.T Go.Fr.Api
def uc (p:Prog) (n:Nat) (b:bH):Bool:=!dU b.param n||!dU b.trait p.traits.length
theorem WI (o:List Bool) (p:Prog) (b:bH):CallsT P 107 [.agg (bP b),.pt [.sl (o.map bC)] 0,.pt (jT p) 0] [] (aT [] (.bool (uc p o.length b))):=by
 have h1:=Wx (o.map bC) b.param;have a:=TD (Ku p.traits) b.trait;have c:(o.map bC).length=o.length:=v5 _;have d:(Ku p.traits).length=p.traits.length:=by simp[Ku]
 have e:uc p o.length b=(!dU b.param o.length||!dU b.trait p.traits.length):=rfl;rw[c] at h1;rw[d] at a;generalize dU b.param o.length=x at h1 e;generalize dU b.trait p.traits.length=y at a e;refine af Try.func107 Kh rfl fun f _=>?_;refine bf h1 rfl fun _=>?_;refine aq (fun q=>?_) (fun q=>?_)
 ·exact aC rfl (vv C.bool (by rw[e];rw[show(!x)=true from q];rfl))
 refine bf a rfl fun _=>?_;exact aC rfl (vv C.bool (by rw[e];rw[show(!x)=false from q];rfl))
theorem WJ (o:List Bool):CallsT P 116 [.sl (o.map bC),.bool false] [] (aT [] (IC (bL (fun x=>!x) o 0))):=by
 have d:(o.map bC).length=o.length:=v5 _;refine af Try.func116 Ko rfl fun m _=>?_;have l:o.length<=9223372036854775807:=by have:=iG m.1;rwa [d] at this
 refine cA o.length 8 [] () (fun _=>[]) (fun _=>[]) (fun k _=>bL (fun x=>!x) (o.drop k) k=bL (fun x=>!x) o 0) rfl (ak rfl) trivial trivial (fun _=>rfl) (fun _=>rfl) ?_;rintro k _ q b _ _ _;refine ah (fun a=>?_) (fun c=>?_)
 ·have a:k<o.length:=by rw[d] at a;omega
  refine aW a fun x n p e=>?_;refine EO (f:=bC) (es:=[.bool x]) n rfl rfl ?_;refine ah (fun h=>?_) (fun h=>?_)
  ·exact aC rfl (vv IC (nT e b (by rw[<-show false=x from h];rfl)))
  ·have j:x=true:=by cases x;exact o5 rfl h;rfl
   refine Fit.aag (by omega) (by omega) ?_;exact⟨(k+1,()),⟨a,qp e b (by rw[j];rfl)⟩,⟨bU,trivial⟩,trivial,bX a⟩
 ·have c:¬k<o.length:=by rw[d] at c;omega
  exact aC rfl (vv IC (nU c b))
theorem WK (o:List Bool):CallsT P 109 [.sl (o.map bC),.bool false] [] (aT [] (.bool (o.any fun x=>!x))):=by
 have h1:=WJ o;have e:=u7 (fun x=>!x) o;generalize bL (fun x=>!x) o 0=n at h1 e;refine af Try.func109 Kj rfl fun a _=>?_;refine bf h1 rfl fun _=>?_;exact aC rfl (vv C.bool e)
def ij (p:Prog) (x:Impl):Bool:=dU x.trait p.traits.length&&!decide (x.module<0)&&iI x.type&&iJ p x.params x.type&&!(mark x.type (List.replicate x.params.toNat false)).any (fun b=>!b)&&!x.bounds.any (uc p x.params.toNat)
theorem Rt {ds:List Api.Data}{n:Int}:∀t:Ty,wz ds n t=true->yP n t=true:=dJ fun t f h=>by
 rw[DZ,xo,aaY]
 by_cases d:t.kind=5
 ·obtain⟨a,b,c⟩:=Ch h d;rw[fo d,c];exact⟨by rw[aaQ a,aaQ b];rfl,fun x e=>by cases e⟩
 ·rw[fL d];obtain⟨_,_,_,j⟩:=Ci h d;exact⟨rfl,fun x e=>f x e (j x e).2⟩
theorem qq {p:Prog}{n:Int}{t:Ty}(h:iJ p n t=true):0<=n/\n<=4/\cn t<=8/\wz p.datas n t=true:=by
 unfold iJ at h;split at h
 ·cases h
 ·exact⟨by omega,by omega,by omega,h⟩
theorem t88 (p:Prog) (x:Impl) (t:cn x.type<=2 ^ 40):CallsT P 88 [qZ p,tX x] [] (aT [] (.bool (ij p x))):=by
 have c:=TD (Ku p.traits) x.trait;have w:(Ku p.traits).length=p.traits.length:=by simp[Ku]
 rw[w] at c;have j:=WA x.type;have UG:=XB x.params p x.type t;have e:ij p x=(dU x.trait p.traits.length&&!decide (x.module<0)&&iI x.type&&iJ p x.params x.type&&!(mark x.type (List.replicate x.params.toNat false)).any (fun b=>!b)&&!x.bounds.any (uc p x.params.toNat)):=rfl;have k:=@qq p x.params x.type;have a:iJ p x.params x.type=true->D3 x.type (List.replicate x.params.toNat false) (mark x.type (List.replicate x.params.toNat false)):=fun h=>WH x.params.toNat x.type (by
  have:=Rt x.type (k h).2.2.2;rw[show((x.params.toNat:Nat):Int)=x.params by have:=k h;omega];exact this) _ abe
 have r:(mark x.type (List.replicate x.params.toNat false)).length=x.params.toNat:=by rw[qo,abe]
 have m:∀n:Nat,(List.replicate n false).map bC=List.replicate n [C.bool false]:=fun n=>by rw[abW];rfl
 generalize mark x.type (List.replicate x.params.toNat false)=o at a r e;have d:=WK o;have f:=Ld o p x.bounds (uc p x.params.toNat) fun b _=>by have:=WI o p b;rw[r] at this;exact this
 generalize x.bounds.any (uc p x.params.toNat)=bb at f e;generalize(o.any fun x=>!x)=oo at d e;generalize dU x.trait p.traits.length=v1 at c e;generalize iI x.type=v2 at j e;generalize iJ p x.params x.type=v3 at UG e k a;refine af Try.func88 Kr rfl fun y _=>?_;refine bf c rfl fun _=>?_;refine aq (fun q=>?_) (fun s=>?_)
 ·exact aC rfl (vv C.bool (by rw[e,show v1=false by simpa using q];rfl))
 refine ah (fun q=>?_) (fun u=>?_)
 ·exact aC rfl (vv C.bool (by rw[e,aaQ (show x.module<0 from q),show v1=true by simpa using s];rfl))
 refine bf j rfl fun _=>?_;refine aq (fun q=>?_) (fun v=>?_)
 ·exact aC rfl (vv C.bool (by rw[e,show v2=false by simpa using q,abh];rfl))
 refine bf UG rfl fun _=>?_;refine aq (fun q=>?_) (fun l=>?_)
 ·exact aC rfl (vv C.bool (by rw[e,show v3=false by simpa using q,abh];rfl))
 have l:v3=true:=by simpa using l
 have k:=k l;have a:CallsT P 105 [aR x.type,.fn 106 [] [.own 1000 0]] [.box 123 [.rw 1001],.row 4 1 (List.replicate x.params.toNat [.bool false])] (aT (LO o) (.tup [])):=by
  have:=a l;rw[D3,LO,m] at this;exact this
 have e:(!oo&&!bb)=ij p x:=by
  rw[e,show v1=true by simpa using s,aaP (show¬x.module<0 from u),show v2=true by simpa using v,l];simp
 refine mP.mk k.1 (abg _) (by omega) (by simp only[maxLen];omega) ?_;refine callO [5,35] [5,35] a rfl rfl rfl rfl rfl fun _ _=>?_;refine bf d rfl fun _=>?_;refine aq (fun q=>?_) (fun q=>?_)
 ·refine bf f rfl fun _=>?_;exact aC rfl (vv C.bool (by rw[<-e,show(!oo)=true from q];rfl))
 ·exact aC rfl (vv C.bool (by rw[<-e,show(!oo)=false from q];rfl))
theorem TI {l:List Int}{z x:Int}{K:List C->Prop}(h0:0<=z) (a:l[z.toNat]?=some x) (h:K [IC x]):uE (HO l) z 1 K:=⟨[IC x],h0,by simp[HO,a],rfl,h⟩
def Le (p:Prog) (x:Impl):Bool:=dU x.trait p.homes.length&&decide (p.homes[x.trait.toNat]?=some x.module)
def ownB (p:Prog) (x:Impl):Bool:=decide (x.type.kind=2)&&(dU x.type.id p.datas.length&&decide ((p.datas[x.type.id.toNat]?).map (·.module)=some x.module))
def GN (p:Prog) (x:Impl):Bool:=!Le p x&&!ownB p x
theorem WL (p:Prog) (x:Impl) (q:Bool) (h:Le p x=q):CallsT P 89 [qZ p,tX x] [] (aT [] (.bool (!q&&!ownB p x))):=by
 have e:=Wy (HO p.homes) x.trait;have t:(HO p.homes).length=p.homes.length:=by simp[HO]
 rw[t] at e;have a:=Wz (p.datas.map nO) x.type.id;have u:(p.datas.map nO).length=p.datas.length:=v5 _;rw[u] at a;have i1:=@ig x.trait p.homes.length;have i2:=@ig x.type.id p.datas.length;unfold Le at h;have j:ownB p x=(decide (x.type.kind=2)&&(dU x.type.id p.datas.length&&decide ((p.datas[x.type.id.toNat]?).map (·.module)=some x.module))):=rfl;generalize ownB p x=ow at j ⊢;generalize dU x.trait p.homes.length=v1 at e i1 h;generalize dU x.type.id p.datas.length=v2 at a i2 j;have o:True:=trivial;refine af Try.func89 NQ rfl fun v _=>?_;refine bJ e rfl fun _=>?_;refine AO (fun n=>vP (kU (l:=p.homes) (k:=x.trait.toNat) (by have:=i1.1 n;omega)) fun y s=>TI (i1.1 n).1 s ?_) (fun n=>?_)
 ·have r:q=decide (y=x.module):=by
   rw[<-h,n,s,aaS];exact decide_eq_decide.2 (by rw[vz])
  subst r;refine ah (fun k=>bJ a rfl fun _=>AO (fun c=>vP (kU (l:=p.datas) (k:=x.type.id.toNat) (by have:=i2.1 c;omega)) fun d m=>Od (i2.1 c).1 m ?_) (fun c=>?_)) (fun k=>?_)
  ·have f:ow=decide (d.module=x.module):=by
    rw[j,aaQ (show x.type.kind=2 from k),c,m,aaS,aaS];exact decide_eq_decide.2 (by rw[abl,vz])
   subst f;refine aS (fun b=>aC rfl (vv C.bool ?_)) (fun b=>aC rfl (vv C.bool ?_))
   ·rw[aaP (show¬y=x.module from b)];rfl
   ·rw[aaQ (show y=x.module from b)];rfl
  ·have f:ow=false:=by rw[j,c,aaV,abh]
   subst f;refine aS (fun b=>aC rfl (vv C.bool ?_)) (fun b=>aC rfl (vv C.bool ?_))
   ·rw[aaP (show¬y=x.module from b)];rfl
   ·rw[aaQ (show y=x.module from b)];rfl
  ·have f:ow=false:=by rw[j,aaP (show¬x.type.kind=2 from k),aaV]
   subst f;refine aS (fun b=>aC rfl (vv C.bool ?_)) (fun b=>aC rfl (vv C.bool ?_))
   ·rw[aaP (show¬y=x.module from b)];rfl
   ·rw[aaQ (show y=x.module from b)];rfl
 ·have r:q=false:=by rw[<-h,n,aaV]
  subst r;refine ah (fun k=>bJ a rfl fun _=>AO (fun c=>vP (kU (l:=p.datas) (k:=x.type.id.toNat) (by have:=i2.1 c;omega)) fun d m=>Od (i2.1 c).1 m ?_) (fun c=>?_)) (fun k=>?_)
  ·have f:ow=decide (d.module=x.module):=by
    rw[j,aaQ (show x.type.kind=2 from k),c,m,aaS,aaS];exact decide_eq_decide.2 (by rw[abl,vz])
   exact aC rfl (vv C.bool (by rw[f];rfl))
  ·have f:ow=false:=by rw[j,c,aaV,abh]
   exact aC rfl (vv C.bool (by rw[f];rfl))
  ·have f:ow=false:=by rw[j,aaP (show¬x.type.kind=2 from k),aaV]
   exact aC rfl (vv C.bool (by rw[f];rfl))
theorem t89 (p:Prog) (x:Impl):CallsT P 89 [qZ p,tX x] [] (aT [] (.bool (GN p x))):=WL p x _ rfl
noncomputable def zu (a b:Impl):Bool:=rY (GI a b)
noncomputable def pz (p:Prog):List Impl->Nat->Int×Int×Int
 | [],_=>(0,0,0)
 | x::l,k=>if ij p x=false then(1,(k:Int),(k:Int)) else if GN p x=true then(9,(k:Int),(k:Int)) else if bL (fun y=>zu y x) (p.impls.take k) 0>=0 then(10,bL (fun y=>zu y x) (p.impls.take k) 0,(k:Int)) else pz p l (k+1)
noncomputable def D4 (p:Prog):Int×Int×Int:=pz p p.impls 0
theorem t91 (x y:Impl) (h:Fm 32 x y):CallsT P 91 [.agg (dF x),.pt [IC y.trait,IC y.module,IC y.params,.sl (y.bounds.map bP),IC y.type.kind,IC y.type.id,.sl (y.type.args.map aG),IC y.func] 0] [] (aT [] (.bool (zu x y))):=by
 refine af Try.func91 NS rfl fun a _=>?_;refine bf h rfl fun _=>?_;exact aC rfl rfl
theorem WM (p:Prog) (hB:∀x∈p.impls,iN x.type/\cn x.type<=2 ^ 40):CallsT P 40 [qZ p] [] (aT [] (.tup [IC (D4 p).1,IC (D4 p).2.1,IC (D4 p).2.2])):=by
 have r:=fun x (j:x∈p.impls)=>t88 p x (hB x j).2;have m:=t89 p;have o:=fun(y:Impl) (k:Nat) (w:y∈p.impls)=>OG y (p.impls.take k) (fun x=>zu x y) fun x j=>t91 x y (t32 x y (hB x (List.take_subset k p.impls j)).1 (hB y w).1 (hB x (List.take_subset k p.impls j)).2 (hB y w).2);have e:(p.impls.map dF).length=p.impls.length:=v5 _;have b:∀x l k,pz p (x::l) k=if ij p x=false then(1,(k:Int),(k:Int)) else if GN p x=true then(9,(k:Int),(k:Int)) else if bL (fun y=>zu y x) (p.impls.take k) 0>=0 then(10,bL (fun y=>zu y x) (p.impls.take k) 0,(k:Int)) else pz p l (k+1):=fun x l k=>rfl;have f:∀k,pz p [] k=(0,0,0):=fun k=>rfl;have c:D4 p=pz p p.impls 0:=rfl;generalize D4 p=R at c ⊢;generalize pz p=cl at b f c;generalize ij p=tv at r b;generalize GN p=ob at m b;generalize zu=ov at o b;refine af Try.func40 Kq rfl fun hw _=>?_;have aa:p.impls.length<=9223372036854775807:=by have:=iG hw.1.2.2.2.2.2.1;rwa [e] at this
 refine cA p.impls.length 11 [] () (fun _=>[]) (fun _=>[]) (fun k _=>cl (p.impls.drop k) k=R) c.symm (ak rfl) trivial trivial (fun _=>rfl) (fun _=>rfl) ?_;rintro k _ hk a _ _ _;have a:cl (p.impls.drop k) k=R:=a;refine ah (fun d=>?_) (fun h=>?_)
 ·have d:k<p.impls.length:=by rw[e] at d;omega
  refine aW d fun x j n u=>?_;rw[u,b] at a;refine AP (by omega) (show p.impls[((k:Int)).toNat]?=some x from j) ?_;refine bf (r x n) rfl fun _=>?_;refine aq (fun q=>?_) (fun q=>?_)
  ·rw[fo (show tv x=false by simpa using q)] at a;exact aC rfl (by rw[<-a];rfl)
  rw[fL (show¬tv x=false by simpa using q)] at a;refine bf (m x) rfl fun _=>?_;refine aq (fun s=>?_) (fun s=>?_)
  ·rw[fo (show ob x=true from s)] at a;exact aC rfl (by rw[<-a];rfl)
  rw[fL (show¬ob x=true by rw[show ob x=false from s];exact aa8)] at a;have t:((p.impls.map dF).drop ((0:Int)).toNat).take (((k:Int)).toNat-((0:Int)).toNat)=(p.impls.take k).map dF:=by
   rw[show((0:Int)).toNat=0 from rfl,List.drop_zero,Nat.sub_zero,show((k:Int)).toNat=k by omega,List.map_take]
  refine Se.mk (by omega) (by omega) (by rw[e];omega) (fun es he=>by obtain⟨y,_,rfl⟩:=abq.1 he;rfl) ?_;refine bf (o x k n) (vv (fun z=>[C.sl z,.fn 91 [] [.pt [IC x.trait,IC x.module,IC x.params,.sl (x.bounds.map bP),IC x.type.kind,IC x.type.id,.sl (x.type.args.map aG),IC x.func] 0]]) t) fun _=>?_;refine ah (fun v=>?_) (fun v=>?_)
  ·rw[fo v] at a;exact aC rfl (by rw[<-a];rfl)
  ·rw[fL v] at a;refine Fit.aag (by omega) (by omega) ?_;exact⟨(k+1,()),⟨d,a⟩,⟨bU,trivial⟩,trivial,bX d⟩
 ·have h:¬k<p.impls.length:=by rw[e] at h;omega
  rw[bS h,f] at a;exact aC rfl (by rw[<-a];rfl)
structure Lg (p:Prog) (pa d:Int) (t:Ty) (V:Bool) (fr:Ty->Bool):Prop where
 hA:t.kind=1\/t.kind=6->V=(decide (t.id=0)&&decide ((t.args.length:Int)=0))
 hP:t.kind=5->V=(decide (0<=t.id)&&decide (t.id<pa)&&decide ((t.args.length:Int)=0))
 hD0:t.kind=2->(t.id<0\/(p.datas.length:Int)<=t.id)->V=false
 hD:t.kind=2->∀dd,0<=t.id->p.datas[t.id.toNat]?=some dd->V=(decide ((t.args.length:Int)=dd.params)&&t.args.all fun x=>iI x&&fr x)
 hB:t.kind=3\/t.kind=4\/t.kind=8->V=(decide (t.id=0)&&decide ((t.args.length:Int)=1)&&t.args.all fun x=>iI x&&fr x)
 hS0:t.kind=7->¬(t.id=0/\(t.args.length:Int)=1)->V=false
 hS:t.kind=7->t.id=0->∀x,t.args=[x]->V=if x.kind=6 then fr x else t.args.all fun x=>iI x&&fr x
 hO:t.kind<1\/8<t.kind->V=false
theorem TJ (p:Prog) (pa d:Int) (t:Ty) (h:d<1):CallsT P 99 [qZ p,IC pa,aR t,IC d] [] (aT [] (.bool false)):=by
 refine af Try.func99 Gd rfl fun a _=>?_;refine ah (fun _=>?_) (fun q=>o5 h q);exact aC rfl rfl
theorem WN (p:Prog) (pa d:Int) (t:Ty) (V:Bool) (v:Ty->Bool) (hd:1<=d/\d<=100) (X:Lg p pa d t V v) (ih:∀x∈t.args,CallsT P 99 [qZ p,IC pa,aR x,IC (d-1)] [] (aT [] (.bool (v x)))):CallsT P 99 [qZ p,IC pa,aR t,IC d] [] (aT [] (.bool V)):=by
 obtain⟨hA,hP,hD0,hD,hB,hS0,hS,hO⟩:=X;have z:=Xz;have o:(t.args.map aG).length=t.args.length:=v5 _;have av:(p.datas.map nO).length=p.datas.length:=v5 _;generalize iI=sto at z hD hB hS;have w:((t.args.map aG).length:Int)=t.args.length:=by rw[o]
 have p3:t.kind=5->0<=t.id->t.id<pa->decide (((t.args.map aG).length:Int)=0)=V:=fun k a b=>by rw[hP k,aaQ a,aaQ b,w];rfl
 have p2:t.kind=5->0<=t.id->¬t.id<pa->false=V:=fun k a b=>by rw[hP k,aaP b,abh];rfl
 have p1:t.kind=5->¬0<=t.id->false=V:=fun k a=>by rw[hP k,aaP a];rfl
 have b0:t.kind=3\/t.kind=4\/t.kind=8->¬t.id=0->false=V:=fun k a=>by rw[hB k,aaP a];rfl
 have b1:t.kind=3\/t.kind=4\/t.kind=8->t.id=0->¬((t.args.map aG).length:Int)=1->false=V:=fun k a b=>by rw[hB k,aaP (show¬(t.args.length:Int)=1 by rw[<-w];exact b),abh];rfl
 have b2:t.kind=3\/t.kind=4\/t.kind=8->t.id=0->((t.args.map aG).length:Int)=1->t.args.all (fun x=>sto x&&v x)=V:=fun k a b=>by rw[hB k,aaQ a,aaQ (show(t.args.length:Int)=1 by rw[<-w];exact b)];rfl
 have s0:t.kind=7->¬t.id=0->false=V:=fun k a=>(hS0 k fun q=>a q.1).symm;have s1:t.kind=7->¬((t.args.map aG).length:Int)=1->false=V:=fun k a=>(hS0 k fun q=>a (by rw[w];exact q.2)).symm;have d2:∀y:Api.Data,t.kind=2->0<=t.id->p.datas[t.id.toNat]?=some y->¬((t.args.map aG).length:Int)=y.params->false=V:=fun y k a b c=>by rw[hD k y a b,aaP (show¬(t.args.length:Int)=y.params by rw[<-w];exact c),aaV]
 have d3:∀y:Api.Data,t.kind=2->0<=t.id->p.datas[t.id.toNat]?=some y->((t.args.map aG).length:Int)=y.params->t.args.all (fun x=>sto x&&v x)=V:=fun y k a b c=>by rw[hD k y a b,aaQ (show(t.args.length:Int)=y.params by rw[<-w];exact c),aaS]
 have one:((t.args.map aG).length:Int)=1->∃x,t.args=[x]/\t.args[0]?=some x:=fun h=>by
  rw[w] at h
  match t.args,h with
  | [x],_=>exact⟨x,rfl,rfl⟩
 generalize hg:(fun x=>sto x&&v x)=g at b2 d3 hS;have hg:∀x,g x=(sto x&&v x):=fun x=>by rw[<-hg]
 refine af Try.func99 Gd rfl fun hw _=>?_;have bc:t.args.length<=9223372036854775807:=fN hw.2.2.1.2.2.1;refine ah (fun q=>o5 hd.1 (by omega)) (fun _=>?_);refine ah (fun k1=>ah (fun _=>ah (fun i0=>?_) (fun i0=>?_)) (fun q=>o5 k1 q)) (fun k1=>ah (fun k6=>ah (fun i0=>?_) (fun i0=>?_)) (fun k6=>?_))
 ·exact aC rfl (vv C.bool (by rw[hA (.inl k1),aaQ (show t.id=0 from i0),aaS,<-o]))
 ·exact aC rfl (vv C.bool (by rw[hA (.inl k1),aaP (show¬t.id=0 from i0),aaV]))
 ·exact aC rfl (vv C.bool (by rw[hA (.inr k6),aaQ (show t.id=0 from i0),aaS,<-o]))
 ·exact aC rfl (vv C.bool (by rw[hA (.inr k6),aaP (show¬t.id=0 from i0),aaV]))
 refine ah (fun k5=>ah (fun a=>ah (fun b=>aC rfl (vv C.bool (p3 k5 a b))) (fun b=>aC rfl (vv C.bool (p2 k5 a b)))) (fun a=>aC rfl (vv C.bool (p1 k5 a)))) (fun k5=>?_);refine ah (fun k2=>ah (fun a=>aC rfl (vv C.bool (hD0 k2 (.inl a)).symm)) (fun a=>ah (fun b=>aC rfl (vv C.bool (hD0 k2 (.inr (by rw[<-av];exact b))).symm)) (fun b=>vP (kU (l:=p.datas) (k:=t.id.toNat) (by have b:¬t.id>=((p.datas.map nO).length:Int):=b;omega)) fun y ad=>Od (by omega) ad <| aS (fun c=>aC rfl (vv C.bool (d2 y k2 (by omega) ad c))) (fun c=>?_)))) (fun k2=>?_)
 ·have e:=d3 y k2 (by omega) ad c;refine cA t.args.length 10 [] () (fun _=>[]) (fun _=>[]) (fun k _=>(t.args.drop k).all g=V) e (ak rfl) trivial trivial (fun _=>rfl) (fun _=>rfl) ?_;rintro k _ hk f _ _ _;have f:(t.args.drop k).all g=V:=f;refine ah (fun j=>?_) (fun n=>?_)
  ·have j:k<t.args.length:=by rw[o] at j;omega
   refine aW j fun x u r s=>?_;rw[s,abd,hg] at f;refine cH u ?_;refine bJ (z x) rfl fun _=>?_;refine aq (fun q=>?_) (fun q=>?_)
   ·have q:sto x=false:=by simpa using q
    rw[q,aaV,aaV] at f;exact aC rfl (vv C.bool f)
   have q:sto x=true:=by simpa using q
   rw[q,aaS] at f;refine cH u ?_;refine Fit.aag (by omega) (by omega) ?_;refine bJ (ih x r) rfl fun _=>?_;refine aq (fun m=>?_) (fun m=>?_)
   ·have m:v x=false:=by simpa using m
    rw[m,aaV] at f;exact aC rfl (vv C.bool f)
   have m:v x=true:=by simpa using m
   rw[m,aaS] at f;refine Fit.aag (by omega) (by omega) ?_;exact⟨(k+1,()),⟨j,f⟩,⟨bU,trivial⟩,trivial,bX j⟩
  ·have n:¬k<t.args.length:=by rw[o] at n;omega
   rw[bS n] at f;exact aC rfl (vv C.bool f)
 have bl:∀K:(t.kind=3\/t.kind=4\/t.kind=8),t.id=0->((t.args.map aG).length:Int)=1->t.args.all g=V:=b2;refine ah (fun k3=>ah (fun _=>aS (fun a=>aC rfl (vv C.bool (b0 (.inl k3) a))) (fun a=>aS (fun b=>aC rfl (vv C.bool (b1 (.inl k3) a b))) (fun b=>?_))) (fun q=>o5 k3 q)) (fun k3=>?_)
 ·have e:=b2 (.inl k3) a b;refine cA t.args.length 10 [] () (fun _=>[]) (fun _=>[]) (fun k _=>(t.args.drop k).all g=V) e (ak rfl) trivial trivial (fun _=>rfl) (fun _=>rfl) ?_;rintro k _ hk f _ _ _;have f:(t.args.drop k).all g=V:=f;refine ah (fun j=>?_) (fun n=>?_)
  ·have j:k<t.args.length:=by rw[o] at j;omega
   refine aW j fun x u r s=>?_;rw[s,abd,hg] at f;refine cH u ?_;refine bJ (z x) rfl fun _=>?_;refine aq (fun q=>?_) (fun q=>?_)
   ·have q:sto x=false:=by simpa using q
    rw[q,aaV,aaV] at f;exact aC rfl (vv C.bool f)
   have q:sto x=true:=by simpa using q
   rw[q,aaS] at f;refine cH u ?_;refine Fit.aag (by omega) (by omega) ?_;refine bJ (ih x r) rfl fun _=>?_;refine aq (fun m=>?_) (fun m=>?_)
   ·have m:v x=false:=by simpa using m
    rw[m,aaV] at f;exact aC rfl (vv C.bool f)
   have m:v x=true:=by simpa using m
   rw[m,aaS] at f;refine Fit.aag (by omega) (by omega) ?_;exact⟨(k+1,()),⟨j,f⟩,⟨bU,trivial⟩,trivial,bX j⟩
  ·have n:¬k<t.args.length:=by rw[o] at n;omega
   rw[bS n] at f;exact aC rfl (vv C.bool f)
 refine ah (fun k4=>ah (fun _=>aS (fun a=>aC rfl (vv C.bool (b0 (.inr (.inl k4)) a))) (fun a=>aS (fun b=>aC rfl (vv C.bool (b1 (.inr (.inl k4)) a b))) (fun b=>?_))) (fun q=>o5 k4 q)) (fun k4=>?_)
 ·have e:=b2 (.inr (.inl k4)) a b;refine cA t.args.length 10 [] () (fun _=>[]) (fun _=>[]) (fun k _=>(t.args.drop k).all g=V) e (ak rfl) trivial trivial (fun _=>rfl) (fun _=>rfl) ?_;rintro k _ hk f _ _ _;have f:(t.args.drop k).all g=V:=f;refine ah (fun j=>?_) (fun n=>?_)
  ·have j:k<t.args.length:=by rw[o] at j;omega
   refine aW j fun x u r s=>?_;rw[s,abd,hg] at f;refine cH u ?_;refine bJ (z x) rfl fun _=>?_;refine aq (fun q=>?_) (fun q=>?_)
   ·have q:sto x=false:=by simpa using q
    rw[q,aaV,aaV] at f;exact aC rfl (vv C.bool f)
   have q:sto x=true:=by simpa using q
   rw[q,aaS] at f;refine cH u ?_;refine Fit.aag (by omega) (by omega) ?_;refine bJ (ih x r) rfl fun _=>?_;refine aq (fun m=>?_) (fun m=>?_)
   ·have m:v x=false:=by simpa using m
    rw[m,aaV] at f;exact aC rfl (vv C.bool f)
   have m:v x=true:=by simpa using m
   rw[m,aaS] at f;refine Fit.aag (by omega) (by omega) ?_;exact⟨(k+1,()),⟨j,f⟩,⟨bU,trivial⟩,trivial,bX j⟩
  ·have n:¬k<t.args.length:=by rw[o] at n;omega
   rw[bS n] at f;exact aC rfl (vv C.bool f)
 refine ah (fun k8=>aS (fun a=>aC rfl (vv C.bool (b0 (.inr (.inr k8)) a))) (fun a=>aS (fun b=>aC rfl (vv C.bool (b1 (.inr (.inr k8)) a b))) (fun b=>?_))) (fun k8=>?_)
 ·have e:=b2 (.inr (.inr k8)) a b;refine cA t.args.length 10 [] () (fun _=>[]) (fun _=>[]) (fun k _=>(t.args.drop k).all g=V) e (ak rfl) trivial trivial (fun _=>rfl) (fun _=>rfl) ?_;rintro k _ hk f _ _ _;have f:(t.args.drop k).all g=V:=f;refine ah (fun j=>?_) (fun n=>?_)
  ·have j:k<t.args.length:=by rw[o] at j;omega
   refine aW j fun x u r s=>?_;rw[s,abd,hg] at f;refine cH u ?_;refine bJ (z x) rfl fun _=>?_;refine aq (fun q=>?_) (fun q=>?_)
   ·have q:sto x=false:=by simpa using q
    rw[q,aaV,aaV] at f;exact aC rfl (vv C.bool f)
   have q:sto x=true:=by simpa using q
   rw[q,aaS] at f;refine cH u ?_;refine Fit.aag (by omega) (by omega) ?_;refine bJ (ih x r) rfl fun _=>?_;refine aq (fun m=>?_) (fun m=>?_)
   ·have m:v x=false:=by simpa using m
    rw[m,aaV] at f;exact aC rfl (vv C.bool f)
   have m:v x=true:=by simpa using m
   rw[m,aaS] at f;refine Fit.aag (by omega) (by omega) ?_;exact⟨(k+1,()),⟨j,f⟩,⟨bU,trivial⟩,trivial,bX j⟩
  ·have n:¬k<t.args.length:=by rw[o] at n;omega
   rw[bS n] at f;exact aC rfl (vv C.bool f)
 refine ah (fun k7=>aS (fun a=>aC rfl (vv C.bool (s0 k7 a))) (fun a=>aS (fun b=>aC rfl (vv C.bool (s1 k7 b))) (fun b=>vP (one b) fun x u=>?_))) (fun k7=>?_)
 ·have e7:V=if x.kind=6 then v x else t.args.all g:=hS k7 a x u.1;refine cH (k:=0) u.2 ?_;refine ah (fun x6=>?_) (fun x6=>?_)
  ·have e:v x=V:=by rw[e7,fo (show x.kind=6 from x6)]
   refine cH (k:=0) u.2 ?_;refine Fit.aag (by omega) (by omega) ?_;refine bJ (ih x (by rw[u.1];exact .head _)) rfl fun _=>?_;exact aC rfl (vv C.bool e)
  have e:t.args.all g=V:=by rw[e7,fL (show¬x.kind=6 from x6)]
  refine cA t.args.length 10 [] () (fun _=>[]) (fun _=>[]) (fun k _=>(t.args.drop k).all g=V) e (ak rfl) trivial trivial (fun _=>rfl) (fun _=>rfl) ?_;rintro k _ hk f _ _ _;have f:(t.args.drop k).all g=V:=f;refine ah (fun j=>?_) (fun n=>?_)
  ·have j:k<t.args.length:=by rw[o] at j;omega
   refine aW j fun x u r s=>?_;rw[s,abd,hg] at f;refine cH u ?_;refine bJ (z x) rfl fun _=>?_;refine aq (fun q=>?_) (fun q=>?_)
   ·have q:sto x=false:=by simpa using q
    rw[q,aaV,aaV] at f;exact aC rfl (vv C.bool f)
   have q:sto x=true:=by simpa using q
   rw[q,aaS] at f;refine cH u ?_;refine Fit.aag (by omega) (by omega) ?_;refine bJ (ih x r) rfl fun _=>?_;refine aq (fun m=>?_) (fun m=>?_)
   ·have m:v x=false:=by simpa using m
    rw[m,aaV] at f;exact aC rfl (vv C.bool f)
   have m:v x=true:=by simpa using m
   rw[m,aaS] at f;refine Fit.aag (by omega) (by omega) ?_;exact⟨(k+1,()),⟨j,f⟩,⟨bU,trivial⟩,trivial,bX j⟩
  ·have n:¬k<t.args.length:=by rw[o] at n;omega
   rw[bS n] at f;exact aC rfl (vv C.bool f)
 exact aC rfl (vv C.bool (hO (by
  have k1:¬t.kind=1:=k1;have k6:¬t.kind=6:=k6;have k5:¬t.kind=5:=k5;have k2:¬t.kind=2:=k2;have k3:¬t.kind=3:=k3;have k4:¬t.kind=4:=k4;have k8:¬t.kind=8:=k8;have k7:¬t.kind=7:=k7;omega)).symm)
def Cz (p:Prog) (pa d:Int) (t:Ty):Bool:=decide ((cn t:Int)<=d)&&wz p.datas pa t
theorem D5 {d:Int}(a:1<=d):∀l:List Ty,decide ((ct l:Int)+1<=d)=l.all fun x=>decide ((cn x:Int)<=d-1)
 | []=>by rw[ct,List.all_nil,aaZ];omega
 | t::l=>by
  rw[abd,<-D5 a l,ct,<-Bool.decide_and];exact decide_eq_decide.2 (by omega)
theorem OH {a:Type}(f:a->Bool) (l:List a):(!l.any f)=l.all fun x=>!f x:=List.not_any_eq_all_not
theorem GP {a:Type}(f g:a->Bool):∀l:List a,(l.all f&&l.all g)=l.all fun x=>f x&&g x
 | []=>rfl
 | x::l=>by
  rw[abd,abd,abd,<-GP f g l];cases f x<;>cases g x<;>cases l.all f<;>rfl
theorem GQ {p:Prog}{pa d:Int}{t:Ty}(c:1<=d) (b:t.kind≠5) {n:Int}(e:Cy p.datas t.kind t.id=some n) (h0:¬(t.kind≠2/\t.id≠0)) (f:t.kind≠7) :
  Cz p pa d t=(decide ((t.args.length:Int)=n)&&t.args.all fun x=>iI x&&Cz p pa (d-1) x):=by
 unfold Cz;rw[mo,fL b,e,cK];show(_&&if _ then _ else _)=_
 by_cases a:(t.args.length:Int)=n
 ·rw[fL (by omega),aaQ a,aaS,OH,show((ct t.args+1:Nat):Int)=(ct t.args:Int)+1 by omega,D5 c,GP];congr 1
  funext x
  unfold EZ;rw[aaP f];cases iI x<;>cases wz p.datas pa x<;>simp
 ·rw[fo (.inr a),aaP a,abh,aaV]
theorem Lh (p:Prog) (pa d:Int) (t:Ty) (c:1<=d):Lg p pa d t (Cz p pa d t) (Cz p pa (d-1)) where
 hA:=fun k=>by
  unfold Cz;rw[mo,fL (by omega),show Cy p.datas t.kind t.id=some 0 by rw[Cy,fo k],cK];show(_&&if _ then _ else _)=_
  by_cases hi:t.id=0
  ·by_cases a:(t.args.length:Int)=0
   ·have:t.args=[]:=List.length_eq_zero_iff.1 (by omega);rw[fL (by omega),this,aaQ hi];simp[ct,c]
   ·rw[fo (.inr a),aaP a,abh,abh]
  ·rw[fo (.inl ⟨by omega,hi⟩),aaP hi,abh,aaV]
 hP:=fun k=>by
  unfold Cz;rw[mo,fo k,cK,show decide ((t.args.length:Int)=0)=decide (t.args.length=0) from decide_eq_decide.2 (by omega)]
  by_cases a:t.args.length=0
  ·have:t.args=[]:=List.length_eq_zero_iff.1 a;rw[this];simp[ct,c]
  ·rw[aaP a];simp
 hD0:=fun k h=>by
  unfold Cz;rw[mo,fL (by omega),Cy,fL (by omega),fo k,fo h,abh]
 hD:=fun k m h0 b=>by
  have j:=(aaR.1 b).1;exact GQ c (by omega) (by rw[Cy,fL (by omega),fo k,fL (by omega),b];rfl) (by omega) (by omega)
 hB:=fun k=>by
  by_cases hi:t.id=0
  ·rw[GQ c (by omega) (n:=1) (by rw[Cy,fL (by omega),fL (by omega),fo (by omega)]) (by omega) (by omega),aaQ hi,aaS]
  ·unfold Cz;rw[mo,fL (by omega),show Cy p.datas t.kind t.id=some 1 by rw[Cy,fL (by omega),fL (by omega),fo (by omega)]];show(_&&if _ then _ else _)=_;rw[fo (.inl ⟨by omega,hi⟩),aaP hi,abh,aaV,aaV]
 hS0:=fun k h=>by
  unfold Cz;rw[mo,fL (by omega),show Cy p.datas t.kind t.id=some 1 by rw[Cy,fL (by omega),fL (by omega),fo (by omega)]];show(_&&if _ then _ else _)=_;rw[fo (by omega),abh]
 hS:=fun k hi x l=>by
  unfold Cz;rw[mo,fL (by omega),show Cy p.datas t.kind t.id=some 1 by rw[Cy,fL (by omega),fL (by omega),fo (by omega)],cK];show(_&&if _ then _ else _)=_;rw[l,fL (by simp[hi])];have e:decide (((ct [x]+1:Nat):Int)<=d)=decide ((cn x:Int)<=d-1):=decide_eq_decide.2 (by simp only[ct];omega);rw[e];unfold EZ;rw[aaQ k];simp only[abI,List.any_nil,abd,List.all_nil]
  by_cases f:x.kind=6
  ·rw[fo f,aaQ f];simp
  ·rw[fL f,aaP f];cases iI x<;>cases wz p.datas pa x<;>simp
 hO:=fun h=>by
  unfold Cz;rw[mo,fL (by omega),Cy,fL (by omega),fL (by omega),fL (by omega),abh]
theorem XJ (p:Prog) (pa:Int):∀(n:Nat) (t:Ty),n<=100->CallsT P 99 [qZ p,IC pa,aR t,IC (n:Int)] [] (aT [] (.bool (Cz p pa n t)))
 | 0,t,_=>by
  have:=TJ p pa 0 t (by omega);have e:Cz p pa ((0:Nat):Int) t=false:=by
   unfold Cz;rw[cK,aaP (by omega),aaV]
  rw[e];exact this
 | n+1,t,h=>by
  have:=WN p pa ((n+1:Nat):Int) t _ _ (by omega) (Lh p pa ((n+1:Nat):Int) t (by omega)) fun x _=>by
   have:=XJ p pa n x (by omega);rw[show((n+1:Nat):Int)-1=(n:Int) by omega];exact this
  exact this
theorem t72 (p:Prog) (pa:Int) (t:Ty):CallsT P 72 [qZ p,IC pa,aR t] [] (aT [] (.bool (iJ p pa t))):=by
 have h:=XJ p pa 8 t (by omega);have e:iJ p pa t=(decide (0<=pa)&&(decide (pa<=4)&&Cz p pa ((8:Nat):Int) t)):=by
  unfold iJ Cz
  by_cases a:0<=pa
  ·by_cases b:pa<=4
   ·rw[aaQ a,aaQ b]
    by_cases c:cn t>8
    ·rw[fo (by omega),aaP (by omega)];rfl
    ·rw[fL (by omega),aaQ (by omega)];rfl
   ·rw[fo (by omega),aaP b];simp
  ·rw[fo (by omega),aaP a];rfl
 rw[e];generalize Cz p pa ((8:Nat):Int) t=v at h ⊢;refine af Try.func72 NF rfl fun j _=>?_;refine ah (fun d=>?_) (fun d=>?_)
 ·refine ah (fun f=>?_) (fun f=>?_)
  ·refine bf h rfl fun _=>?_;exact aC rfl (vv C.bool (by rw[aaQ (show 0<=pa from d),aaQ (show pa<=4 from f)];rfl))
  ·exact aC rfl (vv C.bool (by rw[aaQ (show 0<=pa from d),aaP (show¬pa<=4 from f)];rfl))
 ·exact aC rfl (vv C.bool (by rw[aaP (show¬0<=pa from d)];rfl))
mutual
/-- a parameter occurs -/
def sD (n:Int):Ty->Bool
 | .mk k i l=>if k=5 then decide (i=n) else GR n l
def GR (n:Int):List Ty->Bool
 | []=>false
 | x::l=>sD n x||GR n l
end
theorem AX (n:Int):∀l:List Ty,GR n l=l.any (sD n)
 | []=>rfl
 | x::l=>by rw[GR,AX n l,abI]
theorem Cr (n:Int) (t:Ty):sD n t=if t.kind=5 then decide (t.id=n) else t.args.any (sD n):=by
 cases t;rw[sD,AX];rfl
theorem WO (n:Int) (t:Ty) (V:Bool) (d:Ty->Bool) (p:t.kind=5->V=decide (t.id=n)) (r:t.kind≠5->t.args.any d=V) (m:∀x∈t.args,CallsT P 73 [IC n,aR x] [] (aT [] (.bool (d x)))):CallsT P 73 [IC n,aR t] [] (aT [] (.bool V)):=by
 have e:(t.args.map aG).length=t.args.length:=v5 _;refine af Try.func73 NG rfl fun o _=>?_;have l:t.args.length<=9223372036854775807:=fN o.2.1.2.2.1;refine ah (fun j=>aC rfl (vv C.bool (p j).symm)) (fun j=>?_);refine cA t.args.length 5 [] () (fun _=>[]) (fun _=>[]) (fun k _=>(t.args.drop k).any d=V) (r j) (ak rfl) trivial trivial (fun _=>rfl) (fun _=>rfl) ?_;rintro k _ u a _ _ _;have a:(t.args.drop k).any d=V:=a;refine ah (fun b=>?_) (fun c=>?_)
 ·have b:k<t.args.length:=by rw[e] at b;omega
  refine aW b fun x s f h=>?_;rw[h,abI] at a;refine cH s ?_;refine bf (m x f) rfl fun _=>?_;refine AO (fun q=>?_) (fun q=>?_)
  ·rw[show d x=true from q,Bool.true_or] at a;exact aC rfl (vv C.bool a)
  rw[show d x=false from q,Bool.false_or] at a;refine Fit.aag (by omega) (by omega) ?_;exact⟨(k+1,()),⟨b,a⟩,⟨bU,trivial⟩,trivial,bX b⟩
 ·have c:¬k<t.args.length:=by rw[e] at c;omega
  rw[bS c] at a;exact aC rfl (vv C.bool a)
theorem t73 (n:Int):∀t:Ty,CallsT P 73 [IC n,aR t] [] (aT [] (.bool (sD n t))):=dJ fun t a =>
 WO n t _ (sD n) (fun h=>by rw[Cr,fo h]) (fun h=>by rw[Cr,fL h]) a
def ud (p:Prog) (x:Impl):Bool:=dU x.trait p.traits.length&&(!decide (x.module<0)&&(!decide (x.params<0)&&(!decide (x.params>4)&&(iI x.type&&iJ p x.params x.type))))
theorem WQ (p:Prog) (x:Impl) (V v3:Bool) (w:Int->Bool) (l:bH->Bool) (e3:iJ p x.params x.type=v3)
  (ae:CallsT P 72 [qZ p,IC x.params,aR x.type] [] (aT [] (.bool v3)))
  (aa:∀k:Int,CallsT P 73 [IC k,aR x.type] [] (aT [] (.bool (w k))))
  (hb:0<=x.params->∀b,l b=!(dU b.param x.params.toNat&&dU b.trait p.traits.length))
  (m:ud p x=false->V=false) (y:ud p x=true->∀k:Int,0<=k->k<x.params->w k=false->V=false)
  (s:ud p x=true->(∀k:Int,0<=k->k<x.params->w k=true)->V=!x.bounds.any l) :
  CallsT P 31 [qZ p,tX x] [] (aT [] (.bool V)):=by
 have u:=Xz x.type;have d:ud p x=(dU x.trait p.traits.length&&(!decide (x.module<0)&&(!decide (x.params<0)&&(!decide (x.params>4)&&(iI x.type&&v3))))):=by rw[<-e3];rfl
 generalize iI x.type=v2 at u d;generalize ud p x=pre at d m y s;have i1:∀(a:Int) (n:Nat),¬a<0->¬a>=n->dU a n=true:=fun a n h1 t=>ig.2 ⟨by omega,by omega⟩;have i2:∀(a:Int) (n:Nat),(a<0\/a>=n)->dU a n=false:=fun a n h=>by
  rw[<-abZ,ig];omega
 have v:(Ku p.traits).length=p.traits.length:=by simp[Ku]
 have r:(x.bounds.map bP).length=x.bounds.length:=v5 _;refine af Try.func31 Nq rfl fun hw _=>?_;have al:x.bounds.length<=9223372036854775807:=by have:=iG hw.2.1.2.2.2.1;rwa [r] at this
 refine ah (fun q=>aC rfl (vv C.bool (m (by rw[d,i2 _ _ (.inl q)];rfl)).symm)) (fun q1=>?_);refine ah (fun q=>aC rfl (vv C.bool (m (by rw[d,i2 _ _ (.inr (by rw[<-v];exact q))];rfl)).symm)) (fun q2=>?_);have q2:¬x.trait>=p.traits.length:=by rw[<-v];exact q2
 have d:=d;rw[i1 _ _ q1 q2,aaS] at d;refine ah (fun q=>aC rfl (vv C.bool (m (by rw[d,aaQ (show x.module<0 from q)];rfl)).symm)) (fun q3=>?_);rw[aaP (show¬x.module<0 from q3),abY,aaS] at d;refine ah (fun q=>aC rfl (vv C.bool (m (by rw[d,aaQ (show x.params<0 from q)];rfl)).symm)) (fun z=>?_);have z:¬x.params<0:=z;rw[aaP z,abY,aaS] at d;refine ah (fun q=>aC rfl (vv C.bool (m (by rw[d,aaQ (show x.params>4 from q)];rfl)).symm)) (fun q5=>?_);have q5:¬x.params>4:=q5;rw[aaP q5,abY,aaS] at d;refine bf u rfl fun _=>?_;refine aq (fun q=>?_) (fun q6=>?_)
 ·exact aC rfl (vv C.bool (m (by rw[d,show v2=false by simpa using q];rfl)).symm)
 rw[show v2=true by simpa using q6,aaS] at d;refine bf ae rfl fun _=>?_;refine aq (fun q=>?_) (fun q7=>?_)
 ·exact aC rfl (vv C.bool (m (by rw[d,show v3=false by simpa using q])).symm)
 have d:pre=true:=by rw[d];simpa using q7
 have y:=y d;have s:=s d;have hb:=hb (by omega);refine cA x.params.toNat 5 [] () (fun _=>[]) (fun _=>[]) (fun k _=>∀i:Int,0<=i->i<k->w i=true) (fun i h1 t=>o5 t (by omega)) (ak rfl) trivial trivial (fun _=>rfl) (fun _=>rfl) ?_;rintro k _ hk o _ _ _;refine ah (fun e=>?_) (fun f=>?_)
 ·have e:(k:Int)<x.params:=e;refine bf (aa k) rfl fun _=>?_;refine aq (fun q=>?_) (fun q=>?_)
  ·exact aC rfl (vv C.bool (y k (by omega) e (by simpa using q)).symm)
  ·refine Fit.aag (by omega) (by omega) ?_;refine⟨(k+1,()),⟨by omega,fun i h1 t=>?_⟩,⟨bU,trivial⟩,trivial,by show x.params.toNat-(k+1)<x.params.toNat-k;omega⟩
   by_cases hi:i=k
   ·rw[hi];simpa using q
   ·exact o i h1 (by have:i<((k+1:Nat):Int):=t;omega)
 ·have f:¬(k:Int)<x.params:=f;have s:=s fun i h1 t=>o i h1 (by omega);refine cA x.bounds.length 6 [] () (fun _=>[]) (fun _=>[]) (fun k _=>(!(x.bounds.drop k).any l)=V) s.symm (ak rfl) trivial trivial (fun _=>rfl) (fun _=>rfl) ?_;rintro j _ hj c _ _ _;have c:(!(x.bounds.drop j).any l)=V:=c;refine ah (fun e=>?_) (fun f=>?_)
  ·have e:j<x.bounds.length:=by rw[r] at e;omega
   refine aW e fun b ag av ad=>?_;rw[ad,abI,hb] at c;refine AQ (by omega) (show x.bounds[((j:Int)).toNat]?=some b from ag) ?_;refine ah (fun q=>?_) (fun r1=>?_)
   ·rw[i2 b.param _ (.inl q)] at c;exact aC rfl (vv C.bool c)
   refine ah (fun q=>?_) (fun r2=>?_)
   ·rw[i2 b.param _ (.inr (show b.param>=((x.params.toNat:Nat):Int) by have:b.param>=x.params:=q;omega))] at c;exact aC rfl (vv C.bool c)
   rw[i1 b.param x.params.toNat r1 (by have:¬b.param>=x.params:=r2;omega)] at c;refine ah (fun q=>?_) (fun r3=>?_)
   ·rw[i2 b.trait _ (.inl q)] at c;exact aC rfl (vv C.bool c)
   refine ah (fun q=>?_) (fun r4=>?_)
   ·rw[i2 b.trait _ (.inr (by rw[<-v];exact q))] at c;exact aC rfl (vv C.bool c)
   rw[i1 b.trait p.traits.length r3 (by rw[<-v];exact r4)] at c;refine Fit.aag (by omega) (by omega) ?_;exact⟨(j+1,()),⟨e,c⟩,⟨bU,trivial⟩,trivial,bX e⟩
  ·have f:¬j<x.bounds.length:=by rw[r] at f;omega
   rw[bS f] at c;exact aC rfl (vv C.bool c)
theorem yS (ds:List Api.Data) (n:Nat):∀(t:Ty) (o:List Bool),wz ds n t=true->o.length=n->∀k:Nat,k<n->(mark t o)[k]?=some (sD k t||(o[k]?).getD false):=dJ (p:=fun t=>∀o:List Bool,wz ds n t=true->o.length=n->∀k:Nat,k<n->(mark t o)[k]?=some (sD k t||(o[k]?).getD false)) fun t r o q h k z=>by
 have v:∀(l:List Ty),(∀x∈l,∀o:List Bool,wz ds n x=true->o.length=n->∀k:Nat,k<n->(mark x o)[k]?=some (sD k x||(o[k]?).getD false))->(∀x∈l,wz ds n x=true)->∀o:List Bool,o.length=n->(nS l o)[k]?=some (l.any (sD k)||(o[k]?).getD false):=by
  intro l
  induction l with
  | nil =>
   intro _ _ o h;rw[nS];obtain⟨b,hb⟩:=kU (l:=o) (k:=k) (by omega);rw[hb];rfl
  | cons x l j =>
   intro h1 m o h;rw[nS,j (fun y f=>h1 y (.tail _ f)) (fun y f=>m y (.tail _ f)) _ (by rw[qo,h]),h1 x (.head _) o (m x (.head _)) h k z,abI];cases l.any (sD k)<;>cases sD k x<;>simp
 rw[mark_eq,Cr]
 by_cases d:t.kind=5
 ·obtain⟨a,b,c⟩:=Ch q d;rw[fo d,fo d,c,nS,List.getElem?_set];have s:t.id.toNat<o.length:=by omega
  by_cases e:t.id.toNat=k
  ·rw[fo e,fo s,aaQ (by omega),Bool.true_or]
  ·obtain⟨y,f⟩:=kU (l:=o) (k:=k) (by omega);rw[fL e,aaP (by omega),f];rfl
 ·obtain⟨_,_,_,u⟩:=Ci q d;rw[fL d,fL d];exact v t.args r (fun x w=>(u x w).2) o h
theorem t31 (p:Prog) (x:Impl):CallsT P 31 [qZ p,tX x] [] (aT [] (.bool (ij p x))):=by
 have n:ud p x=false->ij p x=false:=fun h=>by
  unfold ud at h;unfold ij;have:iJ p x.params x.type=true->decide (x.params<0)=false/\decide (x.params>4)=false:=fun r=>by
   obtain⟨a,b,_⟩:=qq r;exact⟨aaP (by omega),aaP (by omega)⟩
  cases h1:dU x.trait p.traits.length<;>rw[h1] at h<;>cases s:decide (x.module<0)<;>rw[s] at h<;>cases v:iI x.type<;>rw[v] at h<;>cases q:iJ p x.params x.type<;>rw[q] at h<;>(try rfl);have:=this q;rw[this.1,this.2] at h;cases h
 have f:ud p x=true->dU x.trait p.traits.length=true/\decide (x.module<0)=false/\iI x.type=true/\iJ p x.params x.type=true:=fun h=>by
  unfold ud at h;simp only[xo,Bool.not_eq_true'] at h;exact⟨h.1,h.2.1,h.2.2.2.2.1,h.2.2.2.2.2⟩
 refine WQ p x _ _ (fun k=>sD k x.type) (uc p x.params.toNat) rfl (t72 p x.params x.type) (fun k=>t73 k x.type) (fun _ b=>by unfold uc;rw[Bool.not_and]) n (fun h k h0 h1 w=>?_) fun h e=>?_
 ·obtain⟨a,b,c,d⟩:=f h;obtain⟨u,y,t,j⟩:=qq d;have:(mark x.type (List.replicate x.params.toNat false)).any (fun b=>!b)=true:=by
   have:=yS p.datas x.params.toNat x.type (List.replicate x.params.toNat false) (by rw[show((x.params.toNat:Nat):Int)=x.params by omega];exact j) abe k.toNat (by omega);rw[show((k.toNat:Nat):Int)=k by omega,w,abV,fo (by omega)] at this;rw[ab4];exact⟨false,aaX this,rfl⟩
  unfold ij;rw[this];simp
 ·obtain⟨a,b,c,d⟩:=f h;obtain⟨u,y,t,j⟩:=qq d;have:(mark x.type (List.replicate x.params.toNat false)).any (fun b=>!b)=false:=by
   rw[abX];intro b hb;obtain⟨k,o,m⟩:=List.mem_iff_getElem.1 hb;have l:k<x.params.toNat:=by rw[qo,abe] at o;exact o
   have:=yS p.datas x.params.toNat x.type (List.replicate x.params.toNat false) (by rw[show((x.params.toNat:Nat):Int)=x.params by omega];exact j) abe k l;rw[e k (by omega) (by omega),aaN o,m] at this;have:b=true:=by simpa using this
   rw[this];simp
  unfold ij;rw[a,b,c,d,this];simp
theorem OI {b:Bool}{p:Prop}(h:b=true↔p):(p->b=true)/\(¬p->b=false):=⟨h.2,fun n=>by rw[<-abZ];exact fun q=>n (h.1 q)⟩
theorem WR (t:Ty):CallsT P 12 [.sl [[IC t.kind,IC t.id,.sl (t.args.map aG)]]] [] (aT [] (.bool (jH [t]))):=by
 have:=Xy [t];rw[aaW,abv,f8] at this;exact this
def Lj (p:Prog) (a:List bH):Bool:=!decide (20<p.datas.length)&&(!decide (12<p.impls.length)&&(!decide (10<a.length)&&p.impls.all fun x=>!decide (6<x.bounds.length)&&jH [x.type]))
theorem t30 (p:Prog) (b:List bH):CallsT P 30 [qZ p,.sl (b.map bP)] [] (aT [] (.bool (Lj p b))):=by
 have f:=fun x:Impl=>WR x.type;have e:Lj p b=(!decide (20<p.datas.length)&&(!decide (12<p.impls.length)&&(!decide (10<b.length)&&p.impls.all fun x=>!decide (6<x.bounds.length)&&jH [x.type]))):=rfl;have j:∀x:Impl,(fun x:Impl=>!decide (6<x.bounds.length)&&jH [x.type]) x=(!decide (6<x.bounds.length)&&jH [x.type]):=fun x=>rfl;generalize(fun x:Impl=>!decide (6<x.bounds.length)&&jH [x.type])=g at e j;generalize jH=sm at f j;generalize Lj p b=V at e ⊢;have y:(p.datas.map nO).length=p.datas.length:=v5 _;have m:(p.impls.map dF).length=p.impls.length:=v5 _;have z:(b.map bP).length=b.length:=v5 _;have l:∀x:Impl,(x.bounds.map bP).length=x.bounds.length:=fun x=>v5 _;refine af Try.func30 Np rfl fun v _=>?_;have s:p.impls.length<=9223372036854775807:=by have:=iG v.1.2.2.2.2.2.1;rwa [m] at this
 refine ah (fun q=>?_) (fun o=>?_)
 ·have q:((p.datas.map nO).length:Int)>20:=q;exact aC rfl (vv C.bool (by rw[e,aaQ (by omega)];rfl))
 have o:¬((p.datas.map nO).length:Int)>20:=o;refine ah (fun q=>?_) (fun n=>?_)
 ·have q:((p.impls.map dF).length:Int)>12:=q;exact aC rfl (vv C.bool (by rw[e,aaQ (show 12<p.impls.length by omega)];simp))
 have n:¬((p.impls.map dF).length:Int)>12:=n;refine ah (fun q=>?_) (fun t=>?_)
 ·have q:((b.map bP).length:Int)>10:=q;exact aC rfl (vv C.bool (by rw[e,aaQ (show 10<b.length by omega)];simp))
 have t:¬((b.map bP).length:Int)>10:=t;have e:p.impls.all g=V:=by
  rw[e,aaP (show¬20<p.datas.length by omega),aaP (show¬12<p.impls.length by omega),aaP (show¬10<b.length by omega)];rfl
 refine cA p.impls.length 5 [] () (fun _=>[]) (fun _=>[]) (fun k _=>(p.impls.drop k).all g=V) e (ak rfl) trivial trivial (fun _=>rfl) (fun _=>rfl) ?_;rintro k _ hk a _ _ _;have a:(p.impls.drop k).all g=V:=a;refine ah (fun c=>?_) (fun d=>?_)
 ·have c:k<p.impls.length:=by rw[m] at c;omega
  refine aW c fun x r w h=>?_;have u:=l x;rw[h,abd,j] at a;refine AP (by omega) (show p.impls[((k:Int)).toNat]?=some x from r) ?_;refine ah (fun q=>?_) (fun q=>?_)
  ·have q:((x.bounds.map bP).length:Int)>6:=q;rw[aaQ (show 6<x.bounds.length by omega)] at a;exact aC rfl (vv C.bool (by rw[<-a];rfl))
  have q:¬((x.bounds.map bP).length:Int)>6:=q;rw[aaP (show¬6<x.bounds.length by omega),abY,aaS] at a;refine AP (by omega) (show p.impls[((k:Int)).toNat]?=some x from r) ?_;refine bf (f x) rfl fun _=>?_;refine aq (fun q=>?_) (fun q=>?_)
  ·rw[show sm [x.type]=false by simpa using q] at a;exact aC rfl (vv C.bool (by rw[<-a];rfl))
  rw[show sm [x.type]=true by simpa using q,aaS] at a;refine Fit.aag (by omega) (by omega) ?_;exact⟨(k+1,()),⟨c,a⟩,⟨bU,trivial⟩,trivial,bX c⟩
 ·have d:¬k<p.impls.length:=by rw[m] at d;omega
  rw[bS d] at a;exact aC rfl (vv C.bool a)
abbrev rf:=List Ty×List Bool
mutual
noncomputable def ve:Ty->Ty->rf->Bool×rf
 | .mk k i l,t,s=>if k=5 then
   (if i<0\/(s.1.length:Int)<=i then(false,s) else if s.2[i.toNat]?=some true then(rY (s.1[i.toNat]?=some t),s) else(true,(s.1.set i.toNat t,s.2.set i.toNat true)))
  else if k≠t.kind\/i≠t.id\/l.length≠t.args.length then(false,s) else D6 l t.args s
noncomputable def D6:List Ty->List Ty->rf->Bool×rf
 | x::l,y::m,s=>if(ve x y s).1=true then D6 l m (ve x y s).2 else(false,(ve x y s).2)
 | _,_,s=>(true,s)
end
theorem Cs (x t:Ty) (s:rf):ve x t s=if x.kind=5 then
   (if x.id<0\/(s.1.length:Int)<=x.id then(false,s) else if s.2[x.id.toNat]?=some true then(rY (s.1[x.id.toNat]?=some t),s) else(true,(s.1.set x.id.toNat t,s.2.set x.id.toNat true)))
  else if x.kind≠t.kind\/x.id≠t.id\/x.args.length≠t.args.length then(false,s) else D6 x.args t.args s:=by
 cases x;rw[ve];rfl
abbrev LM (s:rf):List TO:=[.row 32 3 (s.1.map aG),.row 4 1 (s.2.map bC)]
abbrev uf (x t:Ty) (s:rf) (r:Bool×rf):Prop:=fq P 100 [aR x,aR t,.agg [.rw 1000,.rw 1001]] (LM s) (aT (LM r.2) (.bool r.1))
theorem ug:qt Try.f100 2=true:=by kernel_rfl
theorem TP (x t:Ty) (s:rf) (c:x.kind=5) (h:x.id<0\/(s.1.length:Int)<=x.id):uf x t s (false,s):=by
 have e:(s.1.map aG).length=s.1.length:=v5 _;refine fF 2 (.agg [.rw 1000,.rw 1001]) Try.func100 nN rfl ug rfl rfl rfl fun d _=>?_;refine ah (fun _=>ah (fun _=>vU rfl rfl rfl rfl rfl) (fun a=>ah (fun _=>vU rfl rfl rfl rfl rfl) (fun b=>o5 h ?_))) (fun q=>o5 c q);have a:¬x.id<0:=a;have b:¬x.id>=((s.1.map aG).length:Int):=b;omega
theorem TQ (x t y:Ty) (s:rf) (e:x.kind=5) (h:¬(x.id<0\/(s.1.length:Int)<=x.id)) (c:s.1[x.id.toNat]?=some y) (hb:s.2[x.id.toNat]?=some true) (n:s.2.length=s.1.length):uf x t s (rY (s.1[x.id.toNat]?=some t),s):=by
 have o:(s.1.map aG).length=s.1.length:=v5 _;have p:(s.2.map bC).length=s.2.length:=v5 _;have j:=Gn c;have d:(s.2.map bC)[x.id.toNat]?=some [.bool true]:=by rw[aa5,hb];rfl
 have a:=XA y t;have f:rY (y=t)=rY (s.1[x.id.toNat]?=some t):=by rw[c,vz]
 rw[pq,f] at a;generalize rY (s.1[x.id.toNat]?=some t)=b at a ⊢;refine fF 2 (.agg [.rw 1000,.rw 1001]) Try.func100 nN rfl ug rfl rfl rfl fun k _=>?_;refine ah (fun _=>ah (fun q=>?_) (fun m=>ah (fun q=>?_) (fun l=>?_))) (fun q=>o5 e q)
 ·exact o5 (show x.id<0 from q) (by omega)
 ·exact o5 (show x.id>=((s.1.map aG).length:Int) from q) (by omega)
 refine Bc.mk (by omega) (by omega) ?_;refine⟨_,d,rfl,?_⟩;refine Bc.mk (by omega) (by omega) ?_;refine Oe c ?_;refine bJ a rfl fun _=>?_;exact vU rfl rfl rfl rfl rfl
theorem TR (x t:Ty) (s:rf) (e:x.kind=5) (h:¬(x.id<0\/(s.1.length:Int)<=x.id)) (y:Ty) (f:s.1[x.id.toNat]?=some y) (hb:s.2[x.id.toNat]?=some false) (n:s.2.length=s.1.length):uf x t s (true,(s.1.set x.id.toNat t,s.2.set x.id.toNat true)):=by
 have o:(s.1.map aG).length=s.1.length:=v5 _;have p:(s.2.map bC).length=s.2.length:=v5 _;have d:=Gn f;have c:(s.2.map bC)[x.id.toNat]?=some [.bool false]:=by rw[aa5,hb];rfl
 have b:=KH (s:=s.1) (j:=x.id.toNat) (t:=t);have a:(s.2.map bC).set x.id.toNat [.bool true]=(s.2.set x.id.toNat true).map bC:=by rw[List.map_set];rfl
 show fq P 100 [aR x,aR t,.agg [.rw 1000,.rw 1001]] (LM s) (aT [.row 32 3 ((s.1.set x.id.toNat t).map aG),.row 4 1 ((s.2.set x.id.toNat true).map bC)] (.bool true));generalize s.1.set x.id.toNat t=s1 at b ⊢;generalize s.2.set x.id.toNat true=s2 at a ⊢;refine fF 2 (.agg [.rw 1000,.rw 1001]) Try.func100 nN rfl ug rfl rfl rfl fun k _=>?_;refine ah (fun _=>ah (fun q=>?_) (fun m=>ah (fun q=>?_) (fun l=>?_))) (fun q=>o5 e q)
 ·exact o5 (show x.id<0 from q) (by omega)
 ·exact o5 (show x.id>=((s.1.map aG).length:Int) from q) (by omega)
 refine Bc.mk (by omega) (by omega) ?_;refine⟨_,c,rfl,?_⟩;refine Bc.mk (by omega) (by omega) ?_;refine⟨rfl,Aw d rfl ?_⟩;refine Bc.mk (by omega) (by omega) ?_;refine⟨rfl,Aw c rfl ?_⟩;exact vU rfl rfl rfl (by rw[<-b,<-a];rfl) rfl
theorem TT (x t:Ty) (s:rf) (d:¬x.kind=5) (h:x.kind≠t.kind\/x.id≠t.id\/x.args.length≠t.args.length):uf x t s (false,s):=by
 have j:(x.args.map aG).length=x.args.length:=v5 _;have e:(t.args.map aG).length=t.args.length:=v5 _;refine fF 2 (.agg [.rw 1000,.rw 1001]) Try.func100 nN rfl ug rfl rfl rfl fun f _=>?_;refine ah (fun q=>o5 q d) (fun _=>aS (fun _=>vU rfl rfl rfl rfl rfl) (fun a=>aS (fun _=>vU rfl rfl rfl rfl rfl) (fun b=>aS (fun _=>vU rfl rfl rfl rfl rfl) (fun c=>o5 h ?_))));have c:((x.args.map aG).length:Int)=((t.args.map aG).length:Int):=c;have a:x.kind=t.kind:=a;have b:x.id=t.id:=b;omega
theorem TU (x t:Ty) (s:rf) (R:Bool×rf) (f:Ty->Ty->rf->Bool×rf) (p:List Ty->List Ty->rf->Bool×rf) (r:∀s,p [] [] s=(true,s)) (n:∀x l y m s,p (x::l) (y::m) s=if(f x y s).1=true then p l m (f x y s).2 else(false,(f x y s).2))
  (h5:¬x.kind=5) (h:¬(x.kind≠t.kind\/x.id≠t.id\/x.args.length≠t.args.length)) (e:p x.args t.args s=R) (v:s.2.length=s.1.length)
  (ih:∀y∈x.args,∀z s,s.2.length=s.1.length->uf y z s (f y z s)/\(f y z s).2.2.length=(f y z s).2.1.length):uf x t s R:=by
 have e1:(x.args.map aG).length=x.args.length:=v5 _;have e2:(t.args.map aG).length=t.args.length:=v5 _;refine fF 2 (.agg [.rw 1000,.rw 1001]) Try.func100 nN rfl ug rfl rfl rfl fun hw _=>?_;have ab:t.args.length<=9223372036854775807:=fN hw.2.1.2.2.1;refine ah (fun q=>o5 q h5) (fun _=>aS (fun q=>o5 (show x.kind=t.kind by omega) q) (fun a=>aS (fun q=>o5 (show x.id=t.id by omega) q) (fun b=>aS (fun q=>o5 (show((x.args.map aG).length:Int)=((t.args.map aG).length:Int) by omega) q) (fun c=>?_))));have ao:x.args.length=t.args.length:=by omega
 refine cA t.args.length 7 [2] s (fun _=>[.agg [.rw 1000,.rw 1001]]) (fun s=>[(5,.box 125 [.rw 1000,.rw 1001]),(1000,.row 32 3 (s.1.map aG)),(1001,.row 4 1 (s.2.map bC))]) (fun k s=>p (x.args.drop k) (t.args.drop k) s=R/\s.2.length=s.1.length) ⟨e,v⟩ (ak rfl) ⟨ak rfl,trivial⟩ ⟨.inl ⟨_,rfl,.inl ⟨rfl,rfl⟩⟩,.inl ⟨_,rfl,.inl ⟨rfl,rfl⟩⟩,.inl ⟨_,rfl,.inl ⟨rfl,rfl⟩⟩,trivial⟩ (fun _=>rfl) (fun _=>rfl) ?_;rintro k s hk d _ _ _;have d:p (x.args.drop k) (t.args.drop k) s=R/\s.2.length=s.1.length:=d;have e:=d.1;have v:=d.2;refine ah (fun j=>?_) (fun o=>?_)
 ·have j:k<t.args.length:=by rw[e2] at j;omega
  refine aW j fun y hy am w=>?_;refine aW (l:=x.args) (k:=k) (by omega) fun z hz aa u=>?_;rw[w,u,n] at e;have i:=ih z aa y s v;refine cH hz ?_;refine cH hy ?_;refine Rv [1000,1001] i.1 rfl rfl rfl rfl rfl ?_;refine aq (fun q=>?_) (fun q=>?_)
  ·have q:(f z y s).1=false:=by simpa using q
   rw[fL (by rw[q];exact aa8)] at e;exact vU rfl rfl rfl (by rw[<-e];rfl) (by rw[<-e];rfl)
  ·have q:(f z y s).1=true:=by simpa using q
   rw[fo q] at e;refine Fit.aag (by omega) (by omega) ?_;exact⟨(k+1,(f z y s).2),⟨j,e,i.2⟩,⟨bU,ak rfl,trivial⟩,⟨.inl ⟨_,rfl,.inl ⟨rfl,rfl⟩⟩,.inl ⟨_,rfl,.inl ⟨rfl,rfl⟩⟩,.inl ⟨_,rfl,.inl ⟨rfl,rfl⟩⟩,trivial⟩,bX j⟩
 ·have o:¬k<t.args.length:=by rw[e2] at o;omega
  rw[bS o,bS (by omega),r] at e;exact vU rfl rfl rfl (by rw[<-e];rfl) (by rw[<-e];rfl)
theorem Ct:∀(x t:Ty) (s:rf),(ve x t s).2.1.length=s.1.length/\(ve x t s).2.2.length=s.2.length:=dJ (p:=fun x=>∀(t:Ty) (s:rf),(ve x t s).2.1.length=s.1.length/\(ve x t s).2.2.length=s.2.length) fun x c t s=>by
 rw[Cs];have d:∀(l m:List Ty) (s:rf),(∀x∈l,∀(t:Ty) (s:rf),(ve x t s).2.1.length=s.1.length/\(ve x t s).2.2.length=s.2.length)->(D6 l m s).2.1.length=s.1.length/\(D6 l m s).2.2.length=s.2.length:=by
  intro l
  induction l with
  | nil=>intro m s _;cases m<;>exact⟨rfl,rfl⟩
  | cons y l a =>
   intro m s h;cases m with
   | nil=>exact⟨rfl,rfl⟩
   | cons z m =>
    rw[D6];have:=h y (.head _) z s;split
    ·have b:=a m (ve y z s).2 fun y e=>h y (.tail _ e);exact⟨b.1.trans this.1,b.2.trans this.2⟩
    ·exact this
 split
 ·split
  ·exact⟨rfl,rfl⟩
  ·split
   ·exact⟨rfl,rfl⟩
   ·exact⟨abu,abu⟩
 ·split
  ·exact⟨rfl,rfl⟩
  ·exact d _ _ _ c
theorem WS:∀(x t:Ty) (s:rf),s.2.length=s.1.length->uf x t s (ve x t s):=dJ (p:=fun x=>∀(t:Ty) (s:rf),s.2.length=s.1.length->uf x t s (ve x t s)) fun x e t s c=>by
 rw[Cs]
 by_cases a:x.kind=5
 ·rw[fo a]
  by_cases h:x.id<0\/(s.1.length:Int)<=x.id
  ·rw[fo h];exact TP x t s a h
  ·rw[fL h];obtain⟨y,d⟩:=kU (l:=s.1) (k:=x.id.toNat) (by omega);obtain⟨b,hb⟩:=kU (l:=s.2) (k:=x.id.toNat) (by omega);cases b with
   | true=>rw[fo hb];exact TQ x t y s a h d hb c
   | false=>rw[fL (by rw[hb];simp)];exact TR x t s a h y d hb c
 ·rw[fL a]
  by_cases h:x.kind≠t.kind\/x.id≠t.id\/x.args.length≠t.args.length
  ·rw[fo h];exact TT x t s a h
  ·rw[fL h];exact TU x t s _ ve D6 (fun s=>by rw[D6];intros;contradiction) (fun x l y m s=>by rw[D6]) a h rfl c fun y d z s c=>⟨e y d z s c,by have:=Ct y z s;omega⟩
noncomputable def Rw (x t:Ty) (n:Nat):Bool×rf:=ve x t (List.replicate n zT,List.replicate n false)
theorem TV (x t:Ty) (n:Int) (h:n<0\/n>4):CallsT P 75 [aR x,aR t,IC n] [] (aT [] (.tup [.sl [],.bool false])):=by
 refine af Try.func75 BQ rfl fun c _=>?_;refine ah (fun _=>aC rfl rfl) (fun a=>ah (fun _=>aC rfl rfl) (fun b=>o5 h ?_));have a:¬n<0:=a;have b:¬n>4:=b;omega
theorem Rx (n:Nat):(List.replicate n zT).map aG=List.replicate n [IC 0,IC 0,.sl []]:=by rw[abW,f8];rfl
theorem TW (n:Nat):(List.replicate n false).map bC=List.replicate n [C.bool false]:=by rw[abW];rfl
theorem WT (x t:Ty) (n:Int) (h:¬(n<0\/n>4)) (r:Bool×rf) (a:uf x t (List.replicate n.toNat zT,List.replicate n.toNat false) r) :
  (r.1=true->CallsT P 75 [aR x,aR t,IC n] [] (aT [.row 32 3 (r.2.1.map aG)] (.tup [.rw 1000,.bool true])))/\(r.1=false->CallsT P 75 [aR x,aR t,IC n] [] (aT [] (.tup [.sl [],.bool false]))):=by
 have a:fq P 100 [aR x,aR t,.agg [.rw 1000,.rw 1001]] [.row 32 3 (List.replicate n.toNat [IC 0,IC 0,.sl []]),.row 4 1 (List.replicate n.toNat [C.bool false])] (aT (LM r.2) (.bool r.1)):=by
  rw[<-Rx,<-TW];exact a
 refine⟨fun hb=>?_,fun hb=>?_⟩
 ·rw[hb] at a;refine af Try.func75 BQ rfl fun b _=>?_;refine ah (fun q=>o5 (Or.inl q) h) (fun c=>ah (fun q=>o5 (Or.inr q) h) (fun d=>?_));refine mP.mk (by omega) (abg _) (by omega) (by simp only[maxLen];omega) ?_;refine mP.mk (by omega) (abg _) (by omega) (by simp only[maxLen];omega) ?_;refine u9 [16,18] a rfl rfl rfl rfl rfl ?_;exact bq [16] rfl rfl rfl rfl
 ·rw[hb] at a;refine af Try.func75 BQ rfl fun b _=>?_;refine ah (fun q=>o5 (Or.inl q) h) (fun c=>ah (fun q=>o5 (Or.inr q) h) (fun d=>?_));refine mP.mk (by omega) (abg _) (by omega) (by simp only[maxLen];omega) ?_;refine mP.mk (by omega) (abg _) (by omega) (by simp only[maxLen];omega) ?_;refine u9 [16,18] a rfl rfl rfl rfl rfl ?_;exact aC rfl rfl
noncomputable def Cu (x:Impl) (t:Ty):Bool:=decide (0<=x.params)&&(decide (x.params<=4)&&(Rw x.type t x.params.toNat).1)
theorem t33 (x:Impl) (t:Ty):CallsT P 33 [tX x,aR t] [] (aT [] (.bool (Cu x t))):=by
 by_cases h:x.params<0\/x.params>4
 ·have a:=TV x.type t x.params h;have e:Cu x t=false:=by
   unfold Cu;rcases h with h | h
   ·rw[aaP (by omega)];rfl
   ·rw[aaP (show¬x.params<=4 by omega)];simp
  rw[e];refine af Try.func33 BK rfl fun b _=>?_;refine bf a rfl fun _=>?_;exact aC rfl rfl
 ·have a:=WT x.type t x.params h _ (WS x.type t _ (by rw[abe,abe]));have e:Cu x t=(Rw x.type t x.params.toNat).1:=by
   unfold Cu;rw[aaQ (by omega),aaQ (by omega)];rfl
  rw[e];show CallsT P 33 [tX x,aR t] [] (aT [] (.bool (ve x.type t (List.replicate x.params.toNat zT,List.replicate x.params.toNat false)).1));generalize ve x.type t (List.replicate x.params.toNat zT,List.replicate x.params.toNat false)=r at a ⊢;cases hb:r.1 with
  | true =>
   have a:=a.1 hb;refine af Try.func33 BK rfl fun b _=>?_;refine callO [] [9000] a rfl rfl rfl rfl rfl fun _ _=>?_;exact aC rfl rfl
  | false =>
   have a:=a.2 hb;refine af Try.func33 BK rfl fun b _=>?_;refine bf a rfl fun _=>?_;exact aC rfl rfl
structure di where
 tr:Int
 t:Ty
def jU (g:di):List C:=[IC g.tr,IC g.t.kind,IC g.t.id,.sl (g.t.args.map aG)]
inductive kX where
 | mk (assumed:Bool) (index:Int) (types:List Ty) (proofs:List kX)
def kX.assumed:kX->Bool | .mk b _ _ _=>b
def kX.index:kX->Int | .mk _ i _ _=>i
def kX.types:kX->List Ty | .mk _ _ l _=>l
def kX.proofs:kX->List kX | .mk _ _ _ l=>l
mutual
def jf:kX->List C
 | .mk b i l ps=>[.bool b,IC i,.sl (l.map aG),.sl (OL ps)]
def OL:List kX->List (List C)
 | []=>[]
 | p::l=>jf p::OL l
end
theorem D7:∀l:List kX,OL l=l.map jf
 | []=>rfl
 | p::l=>by rw[OL,D7 l,aaW]
theorem jK (p:kX):jf p=[.bool p.assumed,IC p.index,.sl (p.types.map aG),.sl (p.proofs.map jf)]:=by
 cases p;rw[jf,D7];rfl
noncomputable def iq (h g:di):Bool:=decide (h.tr=g.tr)&&rY (h.t=g.t)
theorem t79 (h g:di):CallsT P 79 [.agg (jU h),.pt (jU g) 0] [] (aT [] (.bool (iq h g))):=by
 have a:=XH h.t g.t;rw[pq] at a;unfold iq;generalize rY (h.t=g.t)=b at a ⊢;refine af Try.func79 NI rfl fun c _=>?_;refine ah (fun q=>?_) (fun q=>?_)
 ·refine bf a rfl fun _=>?_;exact aC rfl (vv C.bool (by rw[aaQ (show h.tr=g.tr from q),aaS]))
 ·exact aC rfl (vv C.bool (by rw[aaP (show¬h.tr=g.tr from q),aaV]))
theorem TY {l:List di}{k:Nat}{x:di}{K:List C->Prop}(a:l[k]?=some x) (h:K (jU x)):EA (l.map jU) k 0 4 K :=
 ⟨jU x,by rw[aa5,a];rfl,rfl,h⟩
theorem OO:qt Try.f101 0=true:=by kernel_rfl
theorem Ry:qt Try.f78 0=true:=by kernel_rfl
abbrev zw (gs:List di):TO:=.row 110 4 (gs.map jU)
theorem WU (gs:List di) (g:di) (l:gs.length<=400):fq P 101 [.rw 1000,.fn 79 [] [.pt (jU g) 0]] [zw gs] (aT [zw gs] (IC (bL (fun h=>iq h g) gs 0))):=by
 have c:=fun h=>t79 h g;generalize e:(fun h=>iq h g)=q;have c:∀h:di,CallsT P 79 [.agg (jU h),.pt (jU g) 0] [] (aT [] (.bool (q h))):=fun h=>by rw[<-e];exact c h
 have j:(gs.map jU).length=gs.length:=v5 _;refine fF 0 (.rw 1000) Try.func101 Kb rfl OO rfl rfl rfl fun p n=>?_;refine cA gs.length 8 [0] () (fun _=>[.rw 1000]) (fun _=>[(1000,zw gs)]) (fun k _=>bL q (gs.drop k) k=bL q gs 0) rfl (ak rfl) ⟨ak rfl,trivial⟩ ⟨.inl ⟨_,rfl,.inl ⟨rfl,rfl⟩⟩,trivial⟩ (fun _=>rfl) (fun _=>rfl) ?_;rintro k _ r a _ _ _;refine ah (fun b=>?_) (fun d=>?_)
 ·have b:k<gs.length:=by rw[j] at b;omega
  refine aW b fun x o m f=>?_;refine Bc.mk (by omega) (by omega) ?_;refine TY o ?_;refine bf (c x) rfl fun _=>?_;refine aq (fun e=>?_) (fun e=>?_)
  ·exact vU rfl rfl rfl rfl (vv IC (nT f a e))
  ·refine Fit.aag (by omega) (by omega) ?_;exact⟨(k+1,()),⟨b,qp f a e⟩,⟨bU,ak rfl,trivial⟩,⟨.inl ⟨_,rfl,.inl ⟨rfl,rfl⟩⟩,trivial⟩,bX b⟩
 ·have d:¬k<gs.length:=by rw[j] at d;omega
  exact vU rfl rfl rfl rfl (vv IC (nU d a))
theorem t78 (gs:List di) (g:di) (a:gs.length<=400):fq P 78 [.rw 1000,.fn 79 [] [.pt (jU g) 0]] [zw gs] (aT [zw gs] (.bool (gs.any fun h=>iq h g))):=by
 have h1:=WU gs g a;have e:=u7 (fun h=>iq h g) gs;generalize bL (fun h=>iq h g) gs 0=n at h1 e;refine fF 0 (.rw 1000) Try.func78 NH rfl Ry rfl rfl rfl fun b _=>?_;refine u9 [1000] h1 rfl rfl rfl rfl rfl ?_;exact vU rfl rfl rfl rfl (vv C.bool e)
def nW (g:di) (b:bH):Bool:=decide (g.t.kind=5)&&(decide (b.param=g.t.id)&&decide (b.trait=g.tr))
theorem t82 (g:di) (b:bH):CallsT P 82 [.agg (bP b),.pt (jU g) 0] [] (aT [] (.bool (nW g b))):=by
 unfold nW;refine af Try.func82 NK rfl fun a _=>?_;refine ah (fun q=>?_) (fun q=>?_)
 ·refine aC rfl (vv C.bool ?_);rw[aaQ (show g.t.kind=5 from q),aaS]
  first | rfl | trace_state
 ·exact aC rfl (vv C.bool (by rw[aaP (show¬g.t.kind=5 from q),aaV]))
end Go.Fr.Try
