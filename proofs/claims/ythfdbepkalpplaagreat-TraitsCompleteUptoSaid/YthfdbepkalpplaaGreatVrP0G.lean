/- Part of the proofs of the statements of this seat. -/
import Derived.Test.YthfdbepkalpplaaGreatVrT4G
import Derived.Test.YthfdbepkalpplaaGreatFW3
import Derived.Test.YthfdbepkalpplaaGreatVrT1G
set_option maxRecDepth 10000
set_option linter.unusedVariables false
set_option linter.unusedSimpArgs false
namespace Go.Fr.Tryz
open Go Go.RowKit Go.Proofs Go.Fr Go.Fr.T Go.Fr.Api
def uN (p:Prog) (n:Nat) (b:aT):Bool:=!dX b.param n||!dX b.trait p.traits.length
theorem t62 (o:List Bool) (p:Prog) (b:aT):CallsT P 62 [.agg (aW b),.pt [.sl (o.map bC)] 0,.pt (kh p) 0] [] (aR [] (.bool (uN p o.length b))):=by
 have h1:=t63 (o.map bC) b.param;have h2:=YT (Lu p.traits) b.trait;have a:(o.map bC).length=o.length:=xo _;have c:(Lu p.traits).length=p.traits.length:=by simp[Lu]
 have e:uN p o.length b=(!dX b.param o.length||!dX b.trait p.traits.length):=rfl;rw[a] at h1;rw[c] at h2;generalize dX b.param o.length=x at h1 e;generalize dX b.trait p.traits.length=y at h2 e;refine af Tryz.func62 O5 rfl fun d _=>?_;refine aF h1 rfl fun _=>?_;refine aq (fun q=>?_) (fun q=>?_)
 ·exact ay rfl (vz C.bool (by rw[e];rw[show(!x)=true from q];rfl))
 refine aF h2 rfl fun _=>?_;exact ay rfl (vz C.bool (by rw[e];rw[show(!x)=false from q];rfl))
theorem t82 (o:List Bool):CallsT P 82 [.sl (o.map bC),.bool false] [] (aR [] (IC (bL (fun x=>!x) o 0))):=by
 have d:(o.map bC).length=o.length:=xo _;refine af Tryz.func82 Pj rfl fun m _=>?_;have l:o.length<=9223372036854775807:=by have:=gS m.1;rwa [d] at this
 refine bN o.length 8 [] () (fun _=>[]) (fun _=>[]) (fun k _=>bL (fun x=>!x) (o.drop k) k=bL (fun x=>!x) o 0) rfl (ai rfl) trivial trivial (fun _=>rfl) (fun _=>rfl) ?_;rintro k _ q b _ _ _;refine ah (fun a=>?_) (fun c=>?_)
 ·have a:k<o.length:=by rw[d] at a;omega
  refine bf a fun x p n e=>?_;refine FP (f:=bC) (es:=[.bool x]) p rfl rfl ?_;refine ah (fun h=>?_) (fun h=>?_)
  ·exact ay rfl (vz IC (oL e b (by rw[<-show false=x from h];rfl)))
  ·have j:x=true:=by cases x;exact vv rfl h;rfl
   refine Fit.aae (by omega) (by omega) ?_;exact⟨(k+1,()),⟨a,qR e b (by rw[j];rfl)⟩,⟨bw,trivial⟩,trivial,bB a⟩
 ·have c:¬k<o.length:=by rw[d] at c;omega
  exact ay rfl (vz IC (oM c b))
theorem t64 (o:List Bool):CallsT P 64 [.sl (o.map bC),.bool false] [] (aR [] (.bool (o.any fun x=>!x))):=by
 have h1:=t82 o;have e:=rL (fun x=>!x) o;generalize bL (fun x=>!x) o 0=n at h1 e;refine af Tryz.func64 O7 rfl fun a _=>?_;refine aF h1 rfl fun _=>?_;exact ay rfl (vz C.bool e)
def ij (p:Prog) (x:Impl):Bool:=dX x.trait p.traits.length&&!decide (x.module<0)&&jc x.type&&jd p x.params x.type&&!(mark x.type (List.replicate x.params.toNat false)).any (fun b=>!b)&&!x.bounds.any (uN p x.params.toNat)
theorem Tx {ds:List Api.Data}{n:Int}:∀t:Ty,wK ds n t=true->zI n t=true:=cV fun t f h=>by
 rw[EI,aaN,aa1]
 by_cases h5:t.kind=5
 ·obtain⟨a,b,c⟩:=xG h h5;rw[fo h5,c];exact⟨by rw[aaP a,aaP b];rfl,fun x d=>by cases d⟩
 ·rw[o5 h5];obtain⟨_,_,_,e⟩:=xH h h5;exact⟨rfl,fun x d=>f x d (e x d).2⟩
theorem qU {p:Prog}{n:Int}{t:Ty}(h:jd p n t=true):0<=n/\n<=4/\bW t<=8/\wK p.datas n t=true:=by
 unfold jd at h;split at h
 ·cases h
 ·exact⟨by omega,by omega,by omega,h⟩
theorem t37 (p:Prog) (x:Impl) (hd:bW x.type<=2 ^ 40):CallsT P 37 [nu p,zZ x] [] (aR [] (.bool (ij p x))):=by
 have c:=YT (Lu p.traits) x.trait;have v:(Lu p.traits).length=p.traits.length:=by simp[Lu]
 rw[v] at c;have d:=t59 x.type;have Ws:=YP x.params p x.type hd;have e:ij p x=(dX x.trait p.traits.length&&!decide (x.module<0)&&jc x.type&&jd p x.params x.type&&!(mark x.type (List.replicate x.params.toNat false)).any (fun b=>!b)&&!x.bounds.any (uN p x.params.toNat)):=rfl;have k:=@qU p x.params x.type;have a:jd p x.params x.type=true->EJ x.type (List.replicate x.params.toNat false) (mark x.type (List.replicate x.params.toNat false)):=fun h=>t60 x.params.toNat x.type (by
  have:=Tx x.type (k h).2.2.2;rw[show((x.params.toNat:Nat):Int)=x.params by have:=k h;omega];exact this) _ abo
 have l:(mark x.type (List.replicate x.params.toNat false)).length=x.params.toNat:=by rw[qQ,abo]
 have r:∀n:Nat,(List.replicate n false).map bC=List.replicate n [C.bool false]:=fun n=>by rw[abV];rfl
 generalize mark x.type (List.replicate x.params.toNat false)=o at a l e;have j:=t64 o;have f:=Ql o p x.bounds (uN p x.params.toNat) fun b _=>by have:=t62 o p b;rw[l] at this;exact this
 generalize x.bounds.any (uN p x.params.toNat)=bb at f e;generalize(o.any fun x=>!x)=oo at j e;generalize dX x.trait p.traits.length=v1 at c e;generalize jc x.type=v2 at d e;generalize jd p x.params x.type=v3 at Ws e k a;refine af Tryz.func37 Ln rfl fun w _=>?_;refine aF c rfl fun _=>?_;refine aq (fun q=>?_) (fun s=>?_)
 ·exact ay rfl (vz C.bool (by rw[e,show v1=false by simpa using q];rfl))
 refine ah (fun q=>?_) (fun u=>?_)
 ·exact ay rfl (vz C.bool (by rw[e,aaP (show x.module<0 from q),show v1=true by simpa using s];rfl))
 refine aF d rfl fun _=>?_;refine aq (fun q=>?_) (fun t=>?_)
 ·exact ay rfl (vz C.bool (by rw[e,show v2=false by simpa using q,abl];rfl))
 refine aF Ws rfl fun _=>?_;refine aq (fun q=>?_) (fun m=>?_)
 ·exact ay rfl (vz C.bool (by rw[e,show v3=false by simpa using q,abl];rfl))
 have m:v3=true:=by simpa using m
 have k:=k m;have a:CallsT P 60 [aP x.type,.fn 61 [] [.own 1000 0]] [.box 96 [.rw 1001],.row 4 1 (List.replicate x.params.toNat [.bool false])] (aR (LO o) (.tup [])):=by
  have:=a m;rw[EJ,LO,r] at this;exact this
 have e:(!oo&&!bb)=ij p x:=by
  rw[e,show v1=true by simpa using s,aaS (show¬x.module<0 from u),show v2=true by simpa using t,m];simp
 refine oQ.mk k.1 (aa7 _) (by omega) (by simp only[maxLen];omega) ?_;refine callO [5,35] [5,35] a rfl rfl rfl rfl rfl fun _ _=>?_;refine aF j rfl fun _=>?_;refine aq (fun q=>?_) (fun q=>?_)
 ·refine aF f rfl fun _=>?_;exact ay rfl (vz C.bool (by rw[<-e,show(!oo)=true from q];rfl))
 ·exact ay rfl (vz C.bool (by rw[<-e,show(!oo)=false from q];rfl))
theorem RO {l:List Int}{z x:Int}{K:List C->Prop}(h0:0<=z) (a:l[z.toNat]?=some x) (h:K [IC x]):tL (uh l) z 1 K:=⟨[IC x],h0,by simp[uh,a],rfl,h⟩
def EL (p:Prog) (x:Impl):Bool:=dX x.trait p.homes.length&&decide (p.homes[x.trait.toNat]?=some x.module)
def ownB (p:Prog) (x:Impl):Bool:=decide (x.type.kind=2)&&(dX x.type.id p.datas.length&&decide ((p.datas[x.type.id.toNat]?).map (·.module)=some x.module))
def BO (p:Prog) (x:Impl):Bool:=!EL p x&&!ownB p x
theorem X0 (p:Prog) (x:Impl) (o:Bool) (h:EL p x=o):CallsT P 38 [nu p,zZ x] [] (aR [] (.bool (!o&&!ownB p x))):=by
 have c:=t66 (uh p.homes) x.trait;have s:(uh p.homes).length=p.homes.length:=by simp[uh]
 rw[s] at c;have a:=t67 (p.datas.map lC) x.type.id;have t:(p.datas.map lC).length=p.datas.length:=xo _;rw[t] at a;have i1:=@dU x.trait p.homes.length;have i2:=@dU x.type.id p.datas.length;unfold EL at h;have j:ownB p x=(decide (x.type.kind=2)&&(dX x.type.id p.datas.length&&decide ((p.datas[x.type.id.toNat]?).map (·.module)=some x.module))):=rfl;generalize ownB p x=ow at j ⊢;generalize dX x.trait p.homes.length=v1 at c i1 h;generalize dX x.type.id p.datas.length=v2 at a i2 j;have n:True:=trivial;refine af Tryz.func38 OJ rfl fun u _=>?_;refine bG c rfl fun _=>?_;refine BI (fun m=>qe (fK (l:=p.homes) (k:=x.trait.toNat) (by have:=i1.1 m;omega)) fun y r=>RO (i1.1 m).1 r ?_) (fun m=>?_)
 ·have q:o=decide (y=x.module):=by
   rw[<-h,m,r,aaW];exact decide_eq_decide.2 (by rw[aaO])
  subst q;refine ah (fun k=>bG a rfl fun _=>BI (fun e=>qe (fK (l:=p.datas) (k:=x.type.id.toNat) (by have:=i2.1 e;omega)) fun d hd=>Ga (i2.1 e).1 hd ?_) (fun e=>?_)) (fun k=>?_)
  ·have b:ow=decide (d.module=x.module):=by
    rw[j,aaP (show x.type.kind=2 from k),e,hd,aaW,aaW];exact decide_eq_decide.2 (by rw[abt,aaO])
   subst b;refine aV (fun f=>ay rfl (vz C.bool ?_)) (fun f=>ay rfl (vz C.bool ?_))
   ·rw[aaS (show¬y=x.module from f)];rfl
   ·rw[aaP (show y=x.module from f)];rfl
  ·have b:ow=false:=by rw[j,e,aaY,abl]
   subst b;refine aV (fun f=>ay rfl (vz C.bool ?_)) (fun f=>ay rfl (vz C.bool ?_))
   ·rw[aaS (show¬y=x.module from f)];rfl
   ·rw[aaP (show y=x.module from f)];rfl
  ·have b:ow=false:=by rw[j,aaS (show¬x.type.kind=2 from k),aaY]
   subst b;refine aV (fun f=>ay rfl (vz C.bool ?_)) (fun f=>ay rfl (vz C.bool ?_))
   ·rw[aaS (show¬y=x.module from f)];rfl
   ·rw[aaP (show y=x.module from f)];rfl
 ·have q:o=false:=by rw[<-h,m,aaY]
  subst q;refine ah (fun k=>bG a rfl fun _=>BI (fun e=>qe (fK (l:=p.datas) (k:=x.type.id.toNat) (by have:=i2.1 e;omega)) fun d hd=>Ga (i2.1 e).1 hd ?_) (fun e=>?_)) (fun k=>?_)
  ·have b:ow=decide (d.module=x.module):=by
    rw[j,aaP (show x.type.kind=2 from k),e,hd,aaW,aaW];exact decide_eq_decide.2 (by rw[abt,aaO])
   exact ay rfl (vz C.bool (by rw[b];rfl))
  ·have b:ow=false:=by rw[j,e,aaY,abl]
   exact ay rfl (vz C.bool (by rw[b];rfl))
  ·have b:ow=false:=by rw[j,aaS (show¬x.type.kind=2 from k),aaY]
   exact ay rfl (vz C.bool (by rw[b];rfl))
theorem t38 (p:Prog) (x:Impl):CallsT P 38 [nu p,zZ x] [] (aR [] (.bool (BO p x))):=X0 p x _ rfl
noncomputable def Ap (a b:Impl):Bool:=xA (Tp a b)
noncomputable def qg (p:Prog):List Impl->Nat->Int×Int×Int
 | [],_=>(0,0,0)
 | x::l,k=>if ij p x=false then(1,(k:Int),(k:Int)) else if BO p x=true then(9,(k:Int),(k:Int)) else if bL (fun y=>Ap y x) (p.impls.take k) 0>=0 then(10,bL (fun y=>Ap y x) (p.impls.take k) 0,(k:Int)) else qg p l (k+1)
noncomputable def EM (p:Prog):Int×Int×Int:=qg p p.impls 0
theorem t40 (x y:Impl) (h:Ml 17 x y):CallsT P 40 [.agg (dN x),.pt [IC y.trait,IC y.module,IC y.params,.sl (y.bounds.map aW),IC y.type.kind,IC y.type.id,.sl (y.type.args.map aD),IC y.func] 0] [] (aR [] (.bool (Ap x y))):=by
 refine af Tryz.func40 OO rfl fun a _=>?_;refine aF h rfl fun _=>?_;exact ay rfl rfl
theorem t16 (p:Prog) (hB:∀x∈p.impls,iA x.type/\bW x.type<=2 ^ 40):CallsT P 16 [nu p] [] (aR [] (.tup [IC (EM p).1,IC (EM p).2.1,IC (EM p).2.2])):=by
 have n:=fun x (j:x∈p.impls)=>t37 p x (hB x j).2;have o:=t38 p;have r:=fun(y:Impl) (k:Nat) (w:y∈p.impls)=>Qn y (p.impls.take k) (fun x=>Ap x y) fun x j=>t40 x y (XU x y (hB x (List.take_subset k p.impls j)).1 (hB y w).1 (hB x (List.take_subset k p.impls j)).2 (hB y w).2);have e:(p.impls.map dN).length=p.impls.length:=xo _;have b:∀x l k,qg p (x::l) k=if ij p x=false then(1,(k:Int),(k:Int)) else if BO p x=true then(9,(k:Int),(k:Int)) else if bL (fun y=>Ap y x) (p.impls.take k) 0>=0 then(10,bL (fun y=>Ap y x) (p.impls.take k) 0,(k:Int)) else qg p l (k+1):=fun x l k=>rfl;have f:∀k,qg p [] k=(0,0,0):=fun k=>rfl;have c:EM p=qg p p.impls 0:=rfl;generalize EM p=R at c ⊢;generalize qg p=cl at b f c;generalize ij p=tv at n b;generalize BO p=ob at o b;generalize Ap=ov at r b;refine af Tryz.func16 Lm rfl fun hw _=>?_;have aa:p.impls.length<=9223372036854775807:=by have:=gS hw.1.2.2.2.2.2.1;rwa [e] at this
 refine bN p.impls.length 11 [] () (fun _=>[]) (fun _=>[]) (fun k _=>cl (p.impls.drop k) k=R) c.symm (ai rfl) trivial trivial (fun _=>rfl) (fun _=>rfl) ?_;rintro k _ hk a _ _ _;have a:cl (p.impls.drop k) k=R:=a;refine ah (fun d=>?_) (fun h=>?_)
 ·have d:k<p.impls.length:=by rw[e] at d;omega
  refine bf d fun x j m t=>?_;rw[t,b] at a;refine rZ (by omega) (show p.impls[((k:Int)).toNat]?=some x from j) ?_;refine aF (n x m) rfl fun _=>?_;refine aq (fun q=>?_) (fun q=>?_)
  ·rw[fo (show tv x=false by simpa using q)] at a;exact ay rfl (by rw[<-a];rfl)
  rw[o5 (show¬tv x=false by simpa using q)] at a;refine aF (o x) rfl fun _=>?_;refine aq (fun u=>?_) (fun u=>?_)
  ·rw[fo (show ob x=true from u)] at a;exact ay rfl (by rw[<-a];rfl)
  rw[o5 (show¬ob x=true by rw[show ob x=false from u];exact abf)] at a;have v:((p.impls.map dN).drop ((0:Int)).toNat).take (((k:Int)).toNat-((0:Int)).toNat)=(p.impls.take k).map dN:=by
   rw[show((0:Int)).toNat=0 from rfl,List.drop_zero,Nat.sub_zero,show((k:Int)).toNat=k by omega,List.map_take]
  refine Uq.mk (by omega) (by omega) (by rw[e];omega) (fun es he=>by obtain⟨y,_,rfl⟩:=abq.1 he;rfl) ?_;refine aF (r x k m) (vz (fun z=>[C.sl z,.fn 40 [] [.pt [IC x.trait,IC x.module,IC x.params,.sl (x.bounds.map aW),IC x.type.kind,IC x.type.id,.sl (x.type.args.map aD),IC x.func] 0]]) v) fun _=>?_;refine ah (fun s=>?_) (fun s=>?_)
  ·rw[fo s] at a;exact ay rfl (by rw[<-a];rfl)
  ·rw[o5 s] at a;refine Fit.aae (by omega) (by omega) ?_;exact⟨(k+1,()),⟨d,a⟩,⟨bw,trivial⟩,trivial,bB d⟩
 ·have h:¬k<p.impls.length:=by rw[e] at h;omega
  rw[bU h,f] at a;exact ay rfl (by rw[<-a];rfl)
structure Ms (p:Prog) (pa d:Int) (t:Ty) (V:Bool) (fr:Ty->Bool):Prop where
 hA:t.kind=1\/t.kind=6->V=(decide (t.id=0)&&decide ((t.args.length:Int)=0))
 hP:t.kind=5->V=(decide (0<=t.id)&&decide (t.id<pa)&&decide ((t.args.length:Int)=0))
 hD0:t.kind=2->(t.id<0\/(p.datas.length:Int)<=t.id)->V=false
 hD:t.kind=2->∀dd,0<=t.id->p.datas[t.id.toNat]?=some dd->V=(decide ((t.args.length:Int)=dd.params)&&t.args.all fun x=>jc x&&fr x)
 hB:t.kind=3\/t.kind=4\/t.kind=8->V=(decide (t.id=0)&&decide ((t.args.length:Int)=1)&&t.args.all fun x=>jc x&&fr x)
 hS0:t.kind=7->¬(t.id=0/\(t.args.length:Int)=1)->V=false
 hS:t.kind=7->t.id=0->∀x,t.args=[x]->V=if x.kind=6 then fr x else t.args.all fun x=>jc x&&fr x
 hO:t.kind<1\/8<t.kind->V=false
theorem VD (p:Prog) (pa d:Int) (t:Ty) (h:d<1):CallsT P 89 [nu p,IC pa,aP t,IC d] [] (aR [] (.bool false)):=by
 refine af Tryz.func89 Ho rfl fun a _=>?_;refine ah (fun _=>?_) (fun q=>vv h q);exact ay rfl rfl
theorem X1 (p:Prog) (pa d:Int) (t:Ty) (V:Bool) (fr:Ty->Bool) (hd:1<=d/\d<=100) (X:Ms p pa d t V fr) (ih:∀x∈t.args,CallsT P 89 [nu p,IC pa,aP x,IC (d-1)] [] (aR [] (.bool (fr x)))):CallsT P 89 [nu p,IC pa,aP t,IC d] [] (aR [] (.bool V)):=by
 obtain⟨hA,hP,hD0,hD,hB,hS0,hS,hO⟩:=X;have y:=YN;have o:(t.args.map aD).length=t.args.length:=xo _;have av:(p.datas.map lC).length=p.datas.length:=xo _;generalize jc=sto at y hD hB hS;have v:((t.args.map aD).length:Int)=t.args.length:=by rw[o]
 have p3:t.kind=5->0<=t.id->t.id<pa->decide (((t.args.map aD).length:Int)=0)=V:=fun k a b=>by rw[hP k,aaP a,aaP b,v];rfl
 have p2:t.kind=5->0<=t.id->¬t.id<pa->false=V:=fun k a b=>by rw[hP k,aaS b,abl];rfl
 have p1:t.kind=5->¬0<=t.id->false=V:=fun k a=>by rw[hP k,aaS a];rfl
 have b0:t.kind=3\/t.kind=4\/t.kind=8->¬t.id=0->false=V:=fun k a=>by rw[hB k,aaS a];rfl
 have b1:t.kind=3\/t.kind=4\/t.kind=8->t.id=0->¬((t.args.map aD).length:Int)=1->false=V:=fun k a b=>by rw[hB k,aaS (show¬(t.args.length:Int)=1 by rw[<-v];exact b),abl];rfl
 have b2:t.kind=3\/t.kind=4\/t.kind=8->t.id=0->((t.args.map aD).length:Int)=1->t.args.all (fun x=>sto x&&fr x)=V:=fun k a b=>by rw[hB k,aaP a,aaP (show(t.args.length:Int)=1 by rw[<-v];exact b)];rfl
 have s0:t.kind=7->¬t.id=0->false=V:=fun k a=>(hS0 k fun q=>a q.1).symm;have s1:t.kind=7->¬((t.args.map aD).length:Int)=1->false=V:=fun k a=>(hS0 k fun q=>a (by rw[v];exact q.2)).symm;have d2:∀w:Api.Data,t.kind=2->0<=t.id->p.datas[t.id.toNat]?=some w->¬((t.args.map aD).length:Int)=w.params->false=V:=fun w k a b c=>by rw[hD k w a b,aaS (show¬(t.args.length:Int)=w.params by rw[<-v];exact c),aaY]
 have d3:∀w:Api.Data,t.kind=2->0<=t.id->p.datas[t.id.toNat]?=some w->((t.args.map aD).length:Int)=w.params->t.args.all (fun x=>sto x&&fr x)=V:=fun w k a b c=>by rw[hD k w a b,aaP (show(t.args.length:Int)=w.params by rw[<-v];exact c),aaW]
 have one:((t.args.map aD).length:Int)=1->∃x,t.args=[x]/\t.args[0]?=some x:=fun h=>by
  rw[v] at h
  match t.args,h with
  | [x],_=>exact⟨x,rfl,rfl⟩
 generalize hg:(fun x=>sto x&&fr x)=g at b2 d3 hS;have hg:∀x,g x=(sto x&&fr x):=fun x=>by rw[<-hg]
 refine af Tryz.func89 Ho rfl fun hw _=>?_;have ba:t.args.length<=9223372036854775807:=fB hw.2.2.1.2.2.1;refine ah (fun q=>vv hd.1 (by omega)) (fun _=>?_);refine ah (fun k1=>ah (fun _=>ah (fun i0=>?_) (fun i0=>?_)) (fun q=>vv k1 q)) (fun k1=>ah (fun k6=>ah (fun i0=>?_) (fun i0=>?_)) (fun k6=>?_))
 ·exact ay rfl (vz C.bool (by rw[hA (.inl k1),aaP (show t.id=0 from i0),aaW,<-o]))
 ·exact ay rfl (vz C.bool (by rw[hA (.inl k1),aaS (show¬t.id=0 from i0),aaY]))
 ·exact ay rfl (vz C.bool (by rw[hA (.inr k6),aaP (show t.id=0 from i0),aaW,<-o]))
 ·exact ay rfl (vz C.bool (by rw[hA (.inr k6),aaS (show¬t.id=0 from i0),aaY]))
 refine ah (fun k5=>ah (fun a=>ah (fun b=>ay rfl (vz C.bool (p3 k5 a b))) (fun b=>ay rfl (vz C.bool (p2 k5 a b)))) (fun a=>ay rfl (vz C.bool (p1 k5 a)))) (fun k5=>?_);refine ah (fun z=>ah (fun a=>ay rfl (vz C.bool (hD0 z (.inl a)).symm)) (fun a=>ah (fun b=>ay rfl (vz C.bool (hD0 z (.inr (by rw[<-av];exact b))).symm)) (fun b=>qe (fK (l:=p.datas) (k:=t.id.toNat) (by have b:¬t.id>=((p.datas.map lC).length:Int):=b;omega)) fun w ab=>Ga (by omega) ab <| aV (fun c=>ay rfl (vz C.bool (d2 w z (by omega) ab c))) (fun c=>?_)))) (fun z=>?_)
 ·have e:=d3 w z (by omega) ab c;refine bN t.args.length 10 [] () (fun _=>[]) (fun _=>[]) (fun k _=>(t.args.drop k).all g=V) e (ai rfl) trivial trivial (fun _=>rfl) (fun _=>rfl) ?_;rintro k _ hk f _ _ _;have f:(t.args.drop k).all g=V:=f;refine ah (fun j=>?_) (fun n=>?_)
  ·have j:k<t.args.length:=by rw[o] at j;omega
   refine bf j fun x u s r=>?_;rw[r,abg,hg] at f;refine cA u ?_;refine bG (y x) rfl fun _=>?_;refine aq (fun q=>?_) (fun q=>?_)
   ·have q:sto x=false:=by simpa using q
    rw[q,aaY,aaY] at f;exact ay rfl (vz C.bool f)
   have q:sto x=true:=by simpa using q
   rw[q,aaW] at f;refine cA u ?_;refine Fit.aae (by omega) (by omega) ?_;refine bG (ih x s) rfl fun _=>?_;refine aq (fun m=>?_) (fun m=>?_)
   ·have m:fr x=false:=by simpa using m
    rw[m,aaY] at f;exact ay rfl (vz C.bool f)
   have m:fr x=true:=by simpa using m
   rw[m,aaW] at f;refine Fit.aae (by omega) (by omega) ?_;exact⟨(k+1,()),⟨j,f⟩,⟨bw,trivial⟩,trivial,bB j⟩
  ·have n:¬k<t.args.length:=by rw[o] at n;omega
   rw[bU n] at f;exact ay rfl (vz C.bool f)
 have bi:∀K:(t.kind=3\/t.kind=4\/t.kind=8),t.id=0->((t.args.map aD).length:Int)=1->t.args.all g=V:=b2;refine ah (fun k3=>ah (fun _=>aV (fun a=>ay rfl (vz C.bool (b0 (.inl k3) a))) (fun a=>aV (fun b=>ay rfl (vz C.bool (b1 (.inl k3) a b))) (fun b=>?_))) (fun q=>vv k3 q)) (fun k3=>?_)
 ·have e:=b2 (.inl k3) a b;refine bN t.args.length 10 [] () (fun _=>[]) (fun _=>[]) (fun k _=>(t.args.drop k).all g=V) e (ai rfl) trivial trivial (fun _=>rfl) (fun _=>rfl) ?_;rintro k _ hk f _ _ _;have f:(t.args.drop k).all g=V:=f;refine ah (fun j=>?_) (fun n=>?_)
  ·have j:k<t.args.length:=by rw[o] at j;omega
   refine bf j fun x u s r=>?_;rw[r,abg,hg] at f;refine cA u ?_;refine bG (y x) rfl fun _=>?_;refine aq (fun q=>?_) (fun q=>?_)
   ·have q:sto x=false:=by simpa using q
    rw[q,aaY,aaY] at f;exact ay rfl (vz C.bool f)
   have q:sto x=true:=by simpa using q
   rw[q,aaW] at f;refine cA u ?_;refine Fit.aae (by omega) (by omega) ?_;refine bG (ih x s) rfl fun _=>?_;refine aq (fun m=>?_) (fun m=>?_)
   ·have m:fr x=false:=by simpa using m
    rw[m,aaY] at f;exact ay rfl (vz C.bool f)
   have m:fr x=true:=by simpa using m
   rw[m,aaW] at f;refine Fit.aae (by omega) (by omega) ?_;exact⟨(k+1,()),⟨j,f⟩,⟨bw,trivial⟩,trivial,bB j⟩
  ·have n:¬k<t.args.length:=by rw[o] at n;omega
   rw[bU n] at f;exact ay rfl (vz C.bool f)
 refine ah (fun k4=>ah (fun _=>aV (fun a=>ay rfl (vz C.bool (b0 (.inr (.inl k4)) a))) (fun a=>aV (fun b=>ay rfl (vz C.bool (b1 (.inr (.inl k4)) a b))) (fun b=>?_))) (fun q=>vv k4 q)) (fun k4=>?_)
 ·have e:=b2 (.inr (.inl k4)) a b;refine bN t.args.length 10 [] () (fun _=>[]) (fun _=>[]) (fun k _=>(t.args.drop k).all g=V) e (ai rfl) trivial trivial (fun _=>rfl) (fun _=>rfl) ?_;rintro k _ hk f _ _ _;have f:(t.args.drop k).all g=V:=f;refine ah (fun j=>?_) (fun n=>?_)
  ·have j:k<t.args.length:=by rw[o] at j;omega
   refine bf j fun x u s r=>?_;rw[r,abg,hg] at f;refine cA u ?_;refine bG (y x) rfl fun _=>?_;refine aq (fun q=>?_) (fun q=>?_)
   ·have q:sto x=false:=by simpa using q
    rw[q,aaY,aaY] at f;exact ay rfl (vz C.bool f)
   have q:sto x=true:=by simpa using q
   rw[q,aaW] at f;refine cA u ?_;refine Fit.aae (by omega) (by omega) ?_;refine bG (ih x s) rfl fun _=>?_;refine aq (fun m=>?_) (fun m=>?_)
   ·have m:fr x=false:=by simpa using m
    rw[m,aaY] at f;exact ay rfl (vz C.bool f)
   have m:fr x=true:=by simpa using m
   rw[m,aaW] at f;refine Fit.aae (by omega) (by omega) ?_;exact⟨(k+1,()),⟨j,f⟩,⟨bw,trivial⟩,trivial,bB j⟩
  ·have n:¬k<t.args.length:=by rw[o] at n;omega
   rw[bU n] at f;exact ay rfl (vz C.bool f)
 refine ah (fun k8=>aV (fun a=>ay rfl (vz C.bool (b0 (.inr (.inr k8)) a))) (fun a=>aV (fun b=>ay rfl (vz C.bool (b1 (.inr (.inr k8)) a b))) (fun b=>?_))) (fun k8=>?_)
 ·have e:=b2 (.inr (.inr k8)) a b;refine bN t.args.length 10 [] () (fun _=>[]) (fun _=>[]) (fun k _=>(t.args.drop k).all g=V) e (ai rfl) trivial trivial (fun _=>rfl) (fun _=>rfl) ?_;rintro k _ hk f _ _ _;have f:(t.args.drop k).all g=V:=f;refine ah (fun j=>?_) (fun n=>?_)
  ·have j:k<t.args.length:=by rw[o] at j;omega
   refine bf j fun x u s r=>?_;rw[r,abg,hg] at f;refine cA u ?_;refine bG (y x) rfl fun _=>?_;refine aq (fun q=>?_) (fun q=>?_)
   ·have q:sto x=false:=by simpa using q
    rw[q,aaY,aaY] at f;exact ay rfl (vz C.bool f)
   have q:sto x=true:=by simpa using q
   rw[q,aaW] at f;refine cA u ?_;refine Fit.aae (by omega) (by omega) ?_;refine bG (ih x s) rfl fun _=>?_;refine aq (fun m=>?_) (fun m=>?_)
   ·have m:fr x=false:=by simpa using m
    rw[m,aaY] at f;exact ay rfl (vz C.bool f)
   have m:fr x=true:=by simpa using m
   rw[m,aaW] at f;refine Fit.aae (by omega) (by omega) ?_;exact⟨(k+1,()),⟨j,f⟩,⟨bw,trivial⟩,trivial,bB j⟩
  ·have n:¬k<t.args.length:=by rw[o] at n;omega
   rw[bU n] at f;exact ay rfl (vz C.bool f)
 refine ah (fun k7=>aV (fun a=>ay rfl (vz C.bool (s0 k7 a))) (fun a=>aV (fun b=>ay rfl (vz C.bool (s1 k7 b))) (fun b=>qe (one b) fun x u=>?_))) (fun k7=>?_)
 ·have e7:V=if x.kind=6 then fr x else t.args.all g:=hS k7 a x u.1;refine cA (k:=0) u.2 ?_;refine ah (fun x6=>?_) (fun x6=>?_)
  ·have e:fr x=V:=by rw[e7,fo (show x.kind=6 from x6)]
   refine cA (k:=0) u.2 ?_;refine Fit.aae (by omega) (by omega) ?_;refine bG (ih x (by rw[u.1];exact .head _)) rfl fun _=>?_;exact ay rfl (vz C.bool e)
  have e:t.args.all g=V:=by rw[e7,o5 (show¬x.kind=6 from x6)]
  refine bN t.args.length 10 [] () (fun _=>[]) (fun _=>[]) (fun k _=>(t.args.drop k).all g=V) e (ai rfl) trivial trivial (fun _=>rfl) (fun _=>rfl) ?_;rintro k _ hk f _ _ _;have f:(t.args.drop k).all g=V:=f;refine ah (fun j=>?_) (fun n=>?_)
  ·have j:k<t.args.length:=by rw[o] at j;omega
   refine bf j fun x u s r=>?_;rw[r,abg,hg] at f;refine cA u ?_;refine bG (y x) rfl fun _=>?_;refine aq (fun q=>?_) (fun q=>?_)
   ·have q:sto x=false:=by simpa using q
    rw[q,aaY,aaY] at f;exact ay rfl (vz C.bool f)
   have q:sto x=true:=by simpa using q
   rw[q,aaW] at f;refine cA u ?_;refine Fit.aae (by omega) (by omega) ?_;refine bG (ih x s) rfl fun _=>?_;refine aq (fun m=>?_) (fun m=>?_)
   ·have m:fr x=false:=by simpa using m
    rw[m,aaY] at f;exact ay rfl (vz C.bool f)
   have m:fr x=true:=by simpa using m
   rw[m,aaW] at f;refine Fit.aae (by omega) (by omega) ?_;exact⟨(k+1,()),⟨j,f⟩,⟨bw,trivial⟩,trivial,bB j⟩
  ·have n:¬k<t.args.length:=by rw[o] at n;omega
   rw[bU n] at f;exact ay rfl (vz C.bool f)
 exact ay rfl (vz C.bool (hO (by
  have k1:¬t.kind=1:=k1;have k6:¬t.kind=6:=k6;have k5:¬t.kind=5:=k5;have z:¬t.kind=2:=z;have k3:¬t.kind=3:=k3;have k4:¬t.kind=4:=k4;have k8:¬t.kind=8:=k8;have k7:¬t.kind=7:=k7;omega)).symm)
def C6 (p:Prog) (pa d:Int) (t:Ty):Bool:=decide ((bW t:Int)<=d)&&wK p.datas pa t
theorem EN {d:Int}(hd:1<=d):∀l:List Ty,decide ((cG l:Int)+1<=d)=l.all fun x=>decide ((bW x:Int)<=d-1)
 | []=>by rw[cG,List.all_nil,aa0];omega
 | t::l=>by
  rw[abg,<-EN hd l,cG,<-Bool.decide_and];exact decide_eq_decide.2 (by omega)
theorem Qo {a:Type}(f:a->Bool) (l:List a):(!l.any f)=l.all fun x=>!f x:=List.not_any_eq_all_not
theorem HX {a:Type}(f g:a->Bool):∀l:List a,(l.all f&&l.all g)=l.all fun x=>f x&&g x
 | []=>rfl
 | x::l=>by
  rw[abg,abg,abg,<-HX f g l];cases f x<;>cases g x<;>cases l.all f<;>rfl
theorem HY {p:Prog}{pa d:Int}{t:Ty}(hd:1<=d) (h5:t.kind≠5) {n:Int}(b:C5 p.datas t.kind t.id=some n) (h0:¬(t.kind≠2/\t.id≠0)) (h7:t.kind≠7) :
  C6 p pa d t=(decide ((t.args.length:Int)=n)&&t.args.all fun x=>jc x&&C6 p pa (d-1) x):=by
 unfold C6;rw[mT,o5 h5,b,cQ];show(_&&if _ then _ else _)=_
 by_cases a:(t.args.length:Int)=n
 ·rw[o5 (by omega),aaP a,aaW,Qo,show((cG t.args+1:Nat):Int)=(cG t.args:Int)+1 by omega,EN hd,HX];congr 1
  funext x
  unfold F9;rw[aaS h7];cases jc x<;>cases wK p.datas pa x<;>simp
 ·rw[fo (.inr a),aaS a,abl,aaY]
theorem Mt (p:Prog) (pa d:Int) (t:Ty) (hd:1<=d):Ms p pa d t (C6 p pa d t) (C6 p pa (d-1)) where
 hA:=fun k=>by
  unfold C6;rw[mT,o5 (by omega),show C5 p.datas t.kind t.id=some 0 by rw[C5,fo k],cQ];show(_&&if _ then _ else _)=_
  by_cases hi:t.id=0
  ·by_cases b:(t.args.length:Int)=0
   ·have:t.args=[]:=List.length_eq_zero_iff.1 (by omega);rw[o5 (by omega),this,aaP hi];simp[cG,hd]
   ·rw[fo (.inr b),aaS b,abl,abl]
  ·rw[fo (.inl ⟨by omega,hi⟩),aaS hi,abl,aaY]
 hP:=fun k=>by
  unfold C6;rw[mT,fo k,cQ,show decide ((t.args.length:Int)=0)=decide (t.args.length=0) from decide_eq_decide.2 (by omega)]
  by_cases b:t.args.length=0
  ·have:t.args=[]:=List.length_eq_zero_iff.1 b;rw[this];simp[cG,hd]
  ·rw[aaS b];simp
 hD0:=fun k h=>by
  unfold C6;rw[mT,o5 (by omega),C5,o5 (by omega),fo k,fo h,abl]
 hD:=fun k l h0 a=>by
  have f:=(aaT.1 a).1;exact HY hd (by omega) (by rw[C5,o5 (by omega),fo k,o5 (by omega),a];rfl) (by omega) (by omega)
 hB:=fun k=>by
  by_cases hi:t.id=0
  ·rw[HY hd (by omega) (n:=1) (by rw[C5,o5 (by omega),o5 (by omega),fo (by omega)]) (by omega) (by omega),aaP hi,aaW]
  ·unfold C6;rw[mT,o5 (by omega),show C5 p.datas t.kind t.id=some 1 by rw[C5,o5 (by omega),o5 (by omega),fo (by omega)]];show(_&&if _ then _ else _)=_;rw[fo (.inl ⟨by omega,hi⟩),aaS hi,abl,aaY,aaY]
 hS0:=fun k h=>by
  unfold C6;rw[mT,o5 (by omega),show C5 p.datas t.kind t.id=some 1 by rw[C5,o5 (by omega),o5 (by omega),fo (by omega)]];show(_&&if _ then _ else _)=_;rw[fo (by omega),abl]
 hS:=fun k hi x j=>by
  unfold C6;rw[mT,o5 (by omega),show C5 p.datas t.kind t.id=some 1 by rw[C5,o5 (by omega),o5 (by omega),fo (by omega)],cQ];show(_&&if _ then _ else _)=_;rw[j,o5 (by simp[hi])];have e:decide (((cG [x]+1:Nat):Int)<=d)=decide ((bW x:Int)<=d-1):=decide_eq_decide.2 (by simp only[cG];omega);rw[e];unfold F9;rw[aaP k];simp only[abD,List.any_nil,abg,List.all_nil]
  by_cases c:x.kind=6
  ·rw[fo c,aaP c];simp
  ·rw[o5 c,aaS c];cases jc x<;>cases wK p.datas pa x<;>simp
 hO:=fun h=>by
  unfold C6;rw[mT,o5 (by omega),C5,o5 (by omega),o5 (by omega),o5 (by omega),abl]
theorem YX (p:Prog) (pa:Int):∀(n:Nat) (t:Ty),n<=100->CallsT P 89 [nu p,IC pa,aP t,IC (n:Int)] [] (aR [] (.bool (C6 p pa n t)))
 | 0,t,_=>by
  have:=VD p pa 0 t (by omega);have e:C6 p pa ((0:Nat):Int) t=false:=by
   unfold C6;rw[cQ,aaS (by omega),aaY]
  rw[e];exact this
 | n+1,t,h=>by
  have:=X1 p pa ((n+1:Nat):Int) t _ _ (by omega) (Mt p pa ((n+1:Nat):Int) t (by omega)) fun x _=>by
   have:=YX p pa n x (by omega);rw[show((n+1:Nat):Int)-1=(n:Int) by omega];exact this
  exact this
theorem t78 (p:Prog) (pa:Int) (t:Ty):CallsT P 78 [nu p,IC pa,aP t] [] (aR [] (.bool (jd p pa t))):=by
 have h:=YX p pa 8 t (by omega);have e:jd p pa t=(decide (0<=pa)&&(decide (pa<=4)&&C6 p pa ((8:Nat):Int) t)):=by
  unfold jd C6
  by_cases a:0<=pa
  ·by_cases b:pa<=4
   ·rw[aaP a,aaP b]
    by_cases c:bW t>8
    ·rw[fo (by omega),aaS (by omega)];rfl
    ·rw[o5 (by omega),aaP (by omega)];rfl
   ·rw[fo (by omega),aaS b];simp
  ·rw[fo (by omega),aaS a];rfl
 rw[e];generalize C6 p pa ((8:Nat):Int) t=v at h ⊢;refine af Tryz.func78 Pf rfl fun j _=>?_;refine ah (fun d=>?_) (fun d=>?_)
 ·refine ah (fun f=>?_) (fun f=>?_)
  ·refine aF h rfl fun _=>?_;exact ay rfl (vz C.bool (by rw[aaP (show 0<=pa from d),aaP (show pa<=4 from f)];rfl))
  ·exact ay rfl (vz C.bool (by rw[aaP (show 0<=pa from d),aaS (show¬pa<=4 from f)];rfl))
 ·exact ay rfl (vz C.bool (by rw[aaS (show¬0<=pa from d)];rfl))
mutual
/-- a parameter occurs -/
def qV (n:Int):Ty->Bool
 | .mk k i l=>if k=5 then decide (i=n) else HZ n l
def HZ (n:Int):List Ty->Bool
 | []=>false
 | x::l=>qV n x||HZ n l
end
theorem BP (n:Int):∀l:List Ty,HZ n l=l.any (qV n)
 | []=>rfl
 | x::l=>by rw[HZ,BP n l,abD]
theorem uO (n:Int) (t:Ty):qV n t=if t.kind=5 then decide (t.id=n) else t.args.any (qV n):=by
 cases t;rw[qV,BP];rfl
theorem X2 (n:Int) (t:Ty) (V:Bool) (d:Ty->Bool) (h5:t.kind=5->V=decide (t.id=n)) (r:t.kind≠5->t.args.any d=V) (o:∀x∈t.args,CallsT P 79 [IC n,aP x] [] (aR [] (.bool (d x)))):CallsT P 79 [IC n,aP t] [] (aR [] (.bool V)):=by
 have e:(t.args.map aD).length=t.args.length:=xo _;refine af Tryz.func79 Pg rfl fun m _=>?_;have l:t.args.length<=9223372036854775807:=fB m.2.1.2.2.1;refine ah (fun j=>ay rfl (vz C.bool (h5 j).symm)) (fun j=>?_);refine bN t.args.length 5 [] () (fun _=>[]) (fun _=>[]) (fun k _=>(t.args.drop k).any d=V) (r j) (ai rfl) trivial trivial (fun _=>rfl) (fun _=>rfl) ?_;rintro k _ s a _ _ _;have a:(t.args.drop k).any d=V:=a;refine ah (fun b=>?_) (fun c=>?_)
 ·have b:k<t.args.length:=by rw[e] at b;omega
  refine bf b fun x p h f=>?_;rw[f,abD] at a;refine cA p ?_;refine aF (o x h) rfl fun _=>?_;refine BI (fun q=>?_) (fun q=>?_)
  ·rw[show d x=true from q,Bool.true_or] at a;exact ay rfl (vz C.bool a)
  rw[show d x=false from q,Bool.false_or] at a;refine Fit.aae (by omega) (by omega) ?_;exact⟨(k+1,()),⟨b,a⟩,⟨bw,trivial⟩,trivial,bB b⟩
 ·have c:¬k<t.args.length:=by rw[e] at c;omega
  rw[bU c] at a;exact ay rfl (vz C.bool a)
theorem t79 (n:Int):∀t:Ty,CallsT P 79 [IC n,aP t] [] (aR [] (.bool (qV n t))):=cV fun t a =>
 X2 n t _ (qV n) (fun h=>by rw[uO,fo h]) (fun h=>by rw[uO,o5 h]) a
def uP (p:Prog) (x:Impl):Bool:=dX x.trait p.traits.length&&(!decide (x.module<0)&&(!decide (x.params<0)&&(!decide (x.params>4)&&(jc x.type&&jd p x.params x.type))))
theorem X3 (p:Prog) (x:Impl) (V v3:Bool) (u:Int->Bool) (l:aT->Bool) (e3:jd p x.params x.type=v3)
  (ae:CallsT P 78 [nu p,IC x.params,aP x.type] [] (aR [] (.bool v3)))
  (ab:∀k:Int,CallsT P 79 [IC k,aP x.type] [] (aR [] (.bool (u k))))
  (hb:0<=x.params->∀b,l b=!(dX b.param x.params.toNat&&dX b.trait p.traits.length))
  (o:uP p x=false->V=false) (v:uP p x=true->∀k:Int,0<=k->k<x.params->u k=false->V=false)
  (s:uP p x=true->(∀k:Int,0<=k->k<x.params->u k=true)->V=!x.bounds.any l) :
  CallsT P 48 [nu p,zZ x] [] (aR [] (.bool V)):=by
 have t:=YN x.type;have d:uP p x=(dX x.trait p.traits.length&&(!decide (x.module<0)&&(!decide (x.params<0)&&(!decide (x.params>4)&&(jc x.type&&v3))))):=by rw[<-e3];rfl
 generalize jc x.type=v2 at t d;generalize uP p x=pre at d o v s;have i1:∀(a:Int) (n:Nat),¬a<0->¬a>=n->dX a n=true:=fun a n h1 h2=>dU.2 ⟨by omega,by omega⟩;have i2:∀(a:Int) (n:Nat),(a<0\/a>=n)->dX a n=false:=fun a n h=>by
  rw[<-ab3,dU];omega
 have w:(Lu p.traits).length=p.traits.length:=by simp[Lu]
 have r:(x.bounds.map aW).length=x.bounds.length:=xo _;refine af Tryz.func48 OV rfl fun hw _=>?_;have ag:x.bounds.length<=9223372036854775807:=by have:=gS hw.2.1.2.2.2.1;rwa [r] at this
 refine ah (fun q=>ay rfl (vz C.bool (o (by rw[d,i2 _ _ (.inl q)];rfl)).symm)) (fun q1=>?_);refine ah (fun q=>ay rfl (vz C.bool (o (by rw[d,i2 _ _ (.inr (by rw[<-w];exact q))];rfl)).symm)) (fun q2=>?_);have q2:¬x.trait>=p.traits.length:=by rw[<-w];exact q2
 have d:=d;rw[i1 _ _ q1 q2,aaW] at d;refine ah (fun q=>ay rfl (vz C.bool (o (by rw[d,aaP (show x.module<0 from q)];rfl)).symm)) (fun q3=>?_);rw[aaS (show¬x.module<0 from q3),ab1,aaW] at d;refine ah (fun q=>ay rfl (vz C.bool (o (by rw[d,aaP (show x.params<0 from q)];rfl)).symm)) (fun q4=>?_);have q4:¬x.params<0:=q4;rw[aaS q4,ab1,aaW] at d;refine ah (fun q=>ay rfl (vz C.bool (o (by rw[d,aaP (show x.params>4 from q)];rfl)).symm)) (fun y=>?_);have y:¬x.params>4:=y;rw[aaS y,ab1,aaW] at d;refine aF t rfl fun _=>?_;refine aq (fun q=>?_) (fun q6=>?_)
 ·exact ay rfl (vz C.bool (o (by rw[d,show v2=false by simpa using q];rfl)).symm)
 rw[show v2=true by simpa using q6,aaW] at d;refine aF ae rfl fun _=>?_;refine aq (fun q=>?_) (fun q7=>?_)
 ·exact ay rfl (vz C.bool (o (by rw[d,show v3=false by simpa using q])).symm)
 have d:pre=true:=by rw[d];simpa using q7
 have v:=v d;have s:=s d;have hb:=hb (by omega);refine bN x.params.toNat 5 [] () (fun _=>[]) (fun _=>[]) (fun k _=>∀i:Int,0<=i->i<k->u i=true) (fun i h1 h2=>vv h2 (by omega)) (ai rfl) trivial trivial (fun _=>rfl) (fun _=>rfl) ?_;rintro k _ hk m _ _ _;refine ah (fun e=>?_) (fun f=>?_)
 ·have e:(k:Int)<x.params:=e;refine aF (ab k) rfl fun _=>?_;refine aq (fun q=>?_) (fun q=>?_)
  ·exact ay rfl (vz C.bool (v k (by omega) e (by simpa using q)).symm)
  ·refine Fit.aae (by omega) (by omega) ?_;refine⟨(k+1,()),⟨by omega,fun i h1 h2=>?_⟩,⟨bw,trivial⟩,trivial,by show x.params.toNat-(k+1)<x.params.toNat-k;omega⟩
   by_cases hi:i=k
   ·rw[hi];simpa using q
   ·exact m i h1 (by have:i<((k+1:Nat):Int):=h2;omega)
 ·have f:¬(k:Int)<x.params:=f;have s:=s fun i h1 h2=>m i h1 (by omega);refine bN x.bounds.length 6 [] () (fun _=>[]) (fun _=>[]) (fun k _=>(!(x.bounds.drop k).any l)=V) s.symm (ai rfl) trivial trivial (fun _=>rfl) (fun _=>rfl) ?_;rintro j _ hj c _ _ _;have c:(!(x.bounds.drop j).any l)=V:=c;refine ah (fun e=>?_) (fun f=>?_)
  ·have e:j<x.bounds.length:=by rw[r] at e;omega
   refine bf e fun b ad av z=>?_;rw[z,abD,hb] at c;refine BJ (by omega) (show x.bounds[((j:Int)).toNat]?=some b from ad) ?_;refine ah (fun q=>?_) (fun r1=>?_)
   ·rw[i2 b.param _ (.inl q)] at c;exact ay rfl (vz C.bool c)
   refine ah (fun q=>?_) (fun r2=>?_)
   ·rw[i2 b.param _ (.inr (show b.param>=((x.params.toNat:Nat):Int) by have:b.param>=x.params:=q;omega))] at c;exact ay rfl (vz C.bool c)
   rw[i1 b.param x.params.toNat r1 (by have:¬b.param>=x.params:=r2;omega)] at c;refine ah (fun q=>?_) (fun r3=>?_)
   ·rw[i2 b.trait _ (.inl q)] at c;exact ay rfl (vz C.bool c)
   refine ah (fun q=>?_) (fun r4=>?_)
   ·rw[i2 b.trait _ (.inr (by rw[<-w];exact q))] at c;exact ay rfl (vz C.bool c)
   rw[i1 b.trait p.traits.length r3 (by rw[<-w];exact r4)] at c;refine Fit.aae (by omega) (by omega) ?_;exact⟨(j+1,()),⟨e,c⟩,⟨bw,trivial⟩,trivial,bB e⟩
  ·have f:¬j<x.bounds.length:=by rw[r] at f;omega
   rw[bU f] at c;exact ay rfl (vz C.bool c)
theorem zM (ds:List Api.Data) (n:Nat):∀(t:Ty) (o:List Bool),wK ds n t=true->o.length=n->∀k:Nat,k<n->(mark t o)[k]?=some (qV k t||(o[k]?).getD false):=cV (p:=fun t=>∀o:List Bool,wK ds n t=true->o.length=n->∀k:Nat,k<n->(mark t o)[k]?=some (qV k t||(o[k]?).getD false)) fun t r o j f k v=>by
 have m:∀(l:List Ty),(∀x∈l,∀o:List Bool,wK ds n x=true->o.length=n->∀k:Nat,k<n->(mark x o)[k]?=some (qV k x||(o[k]?).getD false))->(∀x∈l,wK ds n x=true)->∀o:List Bool,o.length=n->(oJ l o)[k]?=some (l.any (qV k)||(o[k]?).getD false):=by
  intro l
  induction l with
  | nil =>
   intro _ _ o f;rw[oJ];obtain⟨b,hb⟩:=fK (l:=o) (k:=k) (by omega);rw[hb];rfl
  | cons x l h =>
   intro h1 h2 o f;rw[oJ,h (fun y d=>h1 y (.tail _ d)) (fun y d=>h2 y (.tail _ d)) _ (by rw[qQ,f]),h1 x (.head _) o (h2 x (.head _)) f k v,abD];cases l.any (qV k)<;>cases qV k x<;>simp
 rw[mark_eq,uO]
 by_cases h5:t.kind=5
 ·obtain⟨a,b,c⟩:=xG j h5;rw[fo h5,fo h5,c,oJ,List.getElem?_set];have u:t.id.toNat<o.length:=by omega
  by_cases e:t.id.toNat=k
  ·rw[fo e,fo u,aaP (by omega),Bool.true_or]
  ·obtain⟨y,d⟩:=fK (l:=o) (k:=k) (by omega);rw[o5 e,aaS (by omega),d];rfl
 ·obtain⟨_,_,_,q⟩:=xH j h5;rw[o5 h5,o5 h5];exact m t.args r (fun x s=>(q x s).2) o f
theorem t48 (p:Prog) (x:Impl):CallsT P 48 [nu p,zZ x] [] (aR [] (.bool (ij p x))):=by
 have l:uP p x=false->ij p x=false:=fun h=>by
  unfold uP at h;unfold ij;have:jd p x.params x.type=true->decide (x.params<0)=false/\decide (x.params>4)=false:=fun t=>by
   obtain⟨a,b,_⟩:=qU t;exact⟨aaS (by omega),aaS (by omega)⟩
  cases h1:dX x.trait p.traits.length<;>rw[h1] at h<;>cases h2:decide (x.module<0)<;>rw[h2] at h<;>cases h3:jc x.type<;>rw[h3] at h<;>cases h4:jd p x.params x.type<;>rw[h4] at h<;>(try rfl);have:=this h4;rw[this.1,this.2] at h;cases h
 have e:uP p x=true->dX x.trait p.traits.length=true/\decide (x.module<0)=false/\jc x.type=true/\jd p x.params x.type=true:=fun h=>by
  unfold uP at h;simp only[aaN,Bool.not_eq_true'] at h;exact⟨h.1,h.2.1,h.2.2.2.2.1,h.2.2.2.2.2⟩
 refine X3 p x _ _ (fun k=>qV k x.type) (uN p x.params.toNat) rfl (t78 p x.params x.type) (fun k=>t79 k x.type) (fun _ b=>by unfold uN;rw[Bool.not_and]) l (fun h k h0 h1 u=>?_) fun h f=>?_
 ·obtain⟨a,b,c,d⟩:=e h;obtain⟨r,s,q,m⟩:=qU d;have:(mark x.type (List.replicate x.params.toNat false)).any (fun b=>!b)=true:=by
   have:=zM p.datas x.params.toNat x.type (List.replicate x.params.toNat false) (by rw[show((x.params.toNat:Nat):Int)=x.params by omega];exact m) abo k.toNat (by omega);rw[show((k.toNat:Nat):Int)=k by omega,u,ab2,fo (by omega)] at this;rw[abN];exact⟨false,aaU this,rfl⟩
  unfold ij;rw[this];simp
 ·obtain⟨a,b,c,d⟩:=e h;obtain⟨r,s,q,m⟩:=qU d;have:(mark x.type (List.replicate x.params.toNat false)).any (fun b=>!b)=false:=by
   rw[abZ];intro b hb;obtain⟨k,n,o⟩:=List.mem_iff_getElem.1 hb;have j:k<x.params.toNat:=by rw[qQ,abo] at n;exact n
   have:=zM p.datas x.params.toNat x.type (List.replicate x.params.toNat false) (by rw[show((x.params.toNat:Nat):Int)=x.params by omega];exact m) abo k j;rw[f k (by omega) (by omega),aaQ n,o] at this;have:b=true:=by simpa using this
   rw[this];simp
  unfold ij;rw[a,b,c,d,this];simp
theorem Qp (p:Prog) (x:Impl):(ownB p x=true↔x.type.kind=2/\0<=x.type.id/\x.type.id<p.datas.length/\(p.datas[x.type.id.toNat]?).map (·.module)=some x.module):=by
 unfold ownB;rw[aaN,aaN,dU,aa0,aa0];exact⟨fun⟨a,⟨b,c⟩,d⟩=>⟨a,b,c,d⟩,fun⟨a,b,c,d⟩=>⟨a,⟨b,c⟩,d⟩⟩
theorem Mu (p:Prog) (x:Impl):(EL p x=true↔0<=x.trait/\x.trait<p.homes.length/\p.homes[x.trait.toNat]?=some x.module):=by
 unfold EL;rw[aaN,dU,aa0];exact⟨fun⟨⟨a,b⟩,d⟩=>⟨a,b,d⟩,fun⟨a,b,d⟩=>⟨⟨a,b⟩,d⟩⟩
theorem CW {b:Bool}{p:Prop}(h:b=true↔p):(p->b=true)/\(¬p->b=false):=⟨h.2,fun n=>by rw[<-ab3];exact fun q=>n (h.1 q)⟩
theorem X4 (p:Prog) (x:Impl) (r m V:Bool) (h1:r=true↔0<=x.trait/\x.trait<p.homes.length/\p.homes[x.trait.toNat]?=some x.module)
  (h2:m=true↔x.type.kind=2/\0<=x.type.id/\x.type.id<p.datas.length/\(p.datas[x.type.id.toNat]?).map (·.module)=some x.module) (z:(!r&&!m)=V):CallsT P 49 [nu p,zZ x] [] (aR [] (.bool V)):=by
 obtain⟨a1,v⟩:=CW h1;obtain⟨b1,o⟩:=CW h2;have eo:(uh p.homes).length=p.homes.length:=by simp[uh]
 have s:(p.datas.map lC).length=p.datas.length:=xo _;have n:∀q:Bool,r=false->m=q->(!q)=V:=fun q a b=>by rw[<-z,a,b];rfl
 have k1:r=true->false=V:=fun a=>by rw[<-z,a];rfl
 have hC:∀y,0<=x.trait->x.trait<p.homes.length->p.homes[x.trait.toNat]?=some y->r=decide (y=x.module):=fun y a b c=>by
  by_cases e:y=x.module
  ·rw[a1 ⟨a,b,by rw[c,e]⟩,aaP e]
  ·rw[v (fun q=>e (abB (c.symm.trans q.2.2))),aaS e]
 have hD:∀d:Api.Data,x.type.kind=2->0<=x.type.id->x.type.id<p.datas.length->p.datas[x.type.id.toNat]?=some d->m=decide (d.module=x.module):=fun d k a b c=>by
  by_cases e:d.module=x.module
  ·rw[b1 ⟨k,a,b,by rw[c,<-e];rfl⟩,aaP e]
  ·rw[o (fun q=>e (by have:=q.2.2.2;rw[c] at this;exact abB this)),aaS e]
 refine af Tryz.func49 OW rfl fun hw _=>?_;refine ah (fun u=>ah (fun t=>qe (fK (l:=p.homes) (k:=x.trait.toNat) (by have:x.trait<((uh p.homes).length:Int):=t;omega)) fun y w=>RO u w ?_) (fun t=>?_)) (fun u=>?_)
 ·have h:=hC y u (by rw[<-eo];exact t) w;refine ah (fun k=>ah (fun i0=>ah (fun i1=>qe (fK (l:=p.datas) (k:=x.type.id.toNat) (by have:x.type.id<((p.datas.map lC).length:Int):=i1;omega)) fun d hd=>Ga i0 hd ?_) (fun i1=>?_)) (fun i0=>?_)) (fun k=>?_)
  ·have f:=hD d k i0 (by rw[<-s];exact i1) hd;refine aV (fun j=>?_) (fun j=>?_)
   ·exact ay rfl (vz C.bool (n _ (by rw[h,aaS (show¬y=x.module from j)]) f))
   ·exact ay rfl (vz C.bool (k1 (by rw[h,aaP (show y=x.module from j)])))
  ·have f:m=false:=o fun q=>i1 (by rw[s];exact q.2.2.1);refine aV (fun j=>?_) (fun j=>?_)
   ·exact ay rfl (vz C.bool (n _ (by rw[h,aaS (show¬y=x.module from j)]) f))
   ·exact ay rfl (vz C.bool (k1 (by rw[h,aaP (show y=x.module from j)])))
  ·have f:m=false:=o fun q=>i0 q.2.1;refine aV (fun j=>?_) (fun j=>?_)
   ·exact ay rfl (vz C.bool (n _ (by rw[h,aaS (show¬y=x.module from j)]) f))
   ·exact ay rfl (vz C.bool (k1 (by rw[h,aaP (show y=x.module from j)])))
  ·have f:m=false:=o fun q=>k q.1;refine aV (fun j=>?_) (fun j=>?_)
   ·exact ay rfl (vz C.bool (n _ (by rw[h,aaS (show¬y=x.module from j)]) f))
   ·exact ay rfl (vz C.bool (k1 (by rw[h,aaP (show y=x.module from j)])))
 ·have h:r=false:=v fun q=>t (by rw[eo];exact q.2.1);refine ah (fun k=>ah (fun i0=>ah (fun i1=>qe (fK (l:=p.datas) (k:=x.type.id.toNat) (by have:x.type.id<((p.datas.map lC).length:Int):=i1;omega)) fun d hd=>Ga i0 hd ?_) (fun i1=>?_)) (fun i0=>?_)) (fun k=>?_)
  ·have f:=hD d k i0 (by rw[<-s];exact i1) hd;exact ay rfl (vz C.bool (n _ h f))
  ·have f:m=false:=o fun q=>i1 (by rw[s];exact q.2.2.1);exact ay rfl (vz C.bool (n _ h f))
  ·have f:m=false:=o fun q=>i0 q.2.1;exact ay rfl (vz C.bool (n _ h f))
  ·have f:m=false:=o fun q=>k q.1;exact ay rfl (vz C.bool (n _ h f))
 ·have h:r=false:=v fun q=>u q.1;refine ah (fun k=>ah (fun i0=>ah (fun i1=>qe (fK (l:=p.datas) (k:=x.type.id.toNat) (by have:x.type.id<((p.datas.map lC).length:Int):=i1;omega)) fun d hd=>Ga i0 hd ?_) (fun i1=>?_)) (fun i0=>?_)) (fun k=>?_)
  ·have f:=hD d k i0 (by rw[<-s];exact i1) hd;exact ay rfl (vz C.bool (n _ h f))
  ·have f:m=false:=o fun q=>i1 (by rw[s];exact q.2.2.1);exact ay rfl (vz C.bool (n _ h f))
  ·have f:m=false:=o fun q=>i0 q.2.1;exact ay rfl (vz C.bool (n _ h f))
  ·have f:m=false:=o fun q=>k q.1;exact ay rfl (vz C.bool (n _ h f))
theorem t49 (p:Prog) (x:Impl):CallsT P 49 [nu p,zZ x] [] (aR [] (.bool (BO p x))):=X4 p x _ _ _ (Mu p x) (Qp p x) rfl
theorem YZ (t:Ty):CallsT P 6 [.sl [[IC t.kind,IC t.id,.sl (t.args.map aD)]]] [] (aR [] (.bool (jx [t]))):=by
 have:=t6 [t];rw[aaZ,abJ,iM] at this;exact this
def wA (p:Prog) (a:List aT):Bool:=!decide (20<p.datas.length)&&(!decide (12<p.impls.length)&&(!decide (10<a.length)&&p.impls.all fun x=>!decide (6<x.bounds.length)&&jx [x.type]))
theorem t20 (p:Prog) (c:List aT):CallsT P 20 [nu p,.sl (c.map aW)] [] (aR [] (.bool (wA p c))):=by
 have h12:=fun x:Impl=>YZ x.type;have e:wA p c=(!decide (20<p.datas.length)&&(!decide (12<p.impls.length)&&(!decide (10<c.length)&&p.impls.all fun x=>!decide (6<x.bounds.length)&&jx [x.type]))):=rfl;have h:∀x:Impl,(fun x:Impl=>!decide (6<x.bounds.length)&&jx [x.type]) x=(!decide (6<x.bounds.length)&&jx [x.type]):=fun x=>rfl;generalize(fun x:Impl=>!decide (6<x.bounds.length)&&jx [x.type])=g at e h;generalize jx=sm at h12 h;generalize wA p c=V at e ⊢;have y:(p.datas.map lC).length=p.datas.length:=xo _;have l:(p.impls.map dN).length=p.impls.length:=xo _;have w:(c.map aW).length=c.length:=xo _;have j:∀x:Impl,(x.bounds.map aW).length=x.bounds.length:=fun x=>xo _;refine af Tryz.func20 Ow rfl fun u _=>?_;have n:p.impls.length<=9223372036854775807:=by have:=gS u.1.2.2.2.2.2.1;rwa [l] at this
 refine ah (fun q=>?_) (fun r=>?_)
 ·have q:((p.datas.map lC).length:Int)>20:=q;exact ay rfl (vz C.bool (by rw[e,aaP (by omega)];rfl))
 have r:¬((p.datas.map lC).length:Int)>20:=r;refine ah (fun q=>?_) (fun o=>?_)
 ·have q:((p.impls.map dN).length:Int)>12:=q;exact ay rfl (vz C.bool (by rw[e,aaP (show 12<p.impls.length by omega)];simp))
 have o:¬((p.impls.map dN).length:Int)>12:=o;refine ah (fun q=>?_) (fun m=>?_)
 ·have q:((c.map aW).length:Int)>10:=q;exact ay rfl (vz C.bool (by rw[e,aaP (show 10<c.length by omega)];simp))
 have m:¬((c.map aW).length:Int)>10:=m;have e:p.impls.all g=V:=by
  rw[e,aaS (show¬20<p.datas.length by omega),aaS (show¬12<p.impls.length by omega),aaS (show¬10<c.length by omega)];rfl
 refine bN p.impls.length 5 [] () (fun _=>[]) (fun _=>[]) (fun k _=>(p.impls.drop k).all g=V) e (ai rfl) trivial trivial (fun _=>rfl) (fun _=>rfl) ?_;rintro k _ z a _ _ _;have a:(p.impls.drop k).all g=V:=a;refine ah (fun b=>?_) (fun d=>?_)
 ·have b:k<p.impls.length:=by rw[l] at b;omega
  refine bf b fun x s t f=>?_;have v:=j x;rw[f,abg,h] at a;refine rZ (by omega) (show p.impls[((k:Int)).toNat]?=some x from s) ?_;refine ah (fun q=>?_) (fun q=>?_)
  ·have q:((x.bounds.map aW).length:Int)>6:=q;rw[aaP (show 6<x.bounds.length by omega)] at a;exact ay rfl (vz C.bool (by rw[<-a];rfl))
  have q:¬((x.bounds.map aW).length:Int)>6:=q;rw[aaS (show¬6<x.bounds.length by omega),ab1,aaW] at a;refine rZ (by omega) (show p.impls[((k:Int)).toNat]?=some x from s) ?_;refine aF (h12 x) rfl fun _=>?_;refine aq (fun q=>?_) (fun q=>?_)
  ·rw[show sm [x.type]=false by simpa using q] at a;exact ay rfl (vz C.bool (by rw[<-a];rfl))
  rw[show sm [x.type]=true by simpa using q,aaW] at a;refine Fit.aae (by omega) (by omega) ?_;exact⟨(k+1,()),⟨b,a⟩,⟨bw,trivial⟩,trivial,bB b⟩
 ·have d:¬k<p.impls.length:=by rw[l] at d;omega
  rw[bU d] at a;exact ay rfl (vz C.bool a)
structure cK where
 tr:Int
 t:Ty
def ku (g:cK):List C:=[IC g.tr,IC g.t.kind,IC g.t.id,.sl (g.t.args.map aD)]
inductive eI where
 | mk (assumed:Bool) (index:Int) (types:List Ty) (proofs:List eI)
def eI.assumed:eI->Bool | .mk b _ _ _=>b
def eI.index:eI->Int | .mk _ i _ _=>i
def eI.types:eI->List Ty | .mk _ _ l _=>l
def eI.proofs:eI->List eI | .mk _ _ _ l=>l
mutual
def iB:eI->List C
 | .mk b i l ps=>[.bool b,IC i,.sl (l.map aD),.sl (Jy ps)]
def Jy:List eI->List (List C)
 | []=>[]
 | p::l=>iB p::Jy l
end
theorem EO:∀l:List eI,Jy l=l.map iB
 | []=>rfl
 | p::l=>by rw[Jy,EO l,aaZ]
theorem iY (p:eI):iB p=[.bool p.assumed,IC p.index,.sl (p.types.map aD),.sl (p.proofs.map iB)]:=by
 cases p;rw[iB,EO];rfl
noncomputable def gX (h g:cK):Bool:=decide (h.tr=g.tr)&&xA (h.t=g.t)
theorem t31 (h g:cK):CallsT P 31 [.agg (ku h),.pt (ku g) 0] [] (aR [] (.bool (gX h g))):=by
 have a:=YU h.t g.t;rw[qN] at a;unfold gX;generalize xA (h.t=g.t)=b at a ⊢;refine af Tryz.func31 OG rfl fun c _=>?_;refine ah (fun q=>?_) (fun q=>?_)
 ·refine aF a rfl fun _=>?_;exact ay rfl (vz C.bool (by rw[aaP (show h.tr=g.tr from q),aaW]))
 ·exact ay rfl (vz C.bool (by rw[aaS (show¬h.tr=g.tr from q),aaY]))
theorem VE {l:List cK}{k:Nat}{x:cK}{K:List C->Prop}(a:l[k]?=some x) (h:K (ku x)):FA (l.map ku) k 0 4 K :=
 ⟨ku x,by rw[aa6,a];rfl,rfl,h⟩
theorem Tz:uM Tryz.f54 0=true:=by kernel_rfl
theorem TA:uM Tryz.f30 0=true:=by kernel_rfl
abbrev Aq (gs:List cK):TO:=.row 70 4 (gs.map ku)
theorem t54 (gs:List cK) (g:cK) (l:gs.length<=400):iw P 54 [.rw 1000,.fn 31 [] [.pt (ku g) 0]] [Aq gs] (aR [Aq gs] (IC (bL (fun h=>gX h g) gs 0))):=by
 have c:=fun h=>t31 h g;generalize f:(fun h=>gX h g)=q;have c:∀h:cK,CallsT P 31 [.agg (ku h),.pt (ku g) 0] [] (aR [] (.bool (q h))):=fun h=>by rw[<-f];exact c h
 have j:(gs.map ku).length=gs.length:=xo _;refine r9 0 (.rw 1000) Tryz.func54 OY rfl Tz rfl rfl rfl fun p n=>?_;refine bN gs.length 8 [0] () (fun _=>[.rw 1000]) (fun _=>[(1000,Aq gs)]) (fun k _=>bL q (gs.drop k) k=bL q gs 0) rfl (ai rfl) ⟨ai rfl,trivial⟩ ⟨.inl ⟨_,rfl,.inl ⟨rfl,rfl⟩⟩,trivial⟩ (fun _=>rfl) (fun _=>rfl) ?_;rintro k _ r b _ _ _;refine ah (fun a=>?_) (fun d=>?_)
 ·have a:k<gs.length:=by rw[j] at a;omega
  refine bf a fun x o m e=>?_;refine zV.mk (by omega) (by omega) ?_;refine VE o ?_;refine aF (c x) rfl fun _=>?_;refine aq (fun f=>?_) (fun f=>?_)
  ·exact Tv rfl rfl rfl rfl (vz IC (oL e b f))
  ·refine Fit.aae (by omega) (by omega) ?_;exact⟨(k+1,()),⟨a,qR e b f⟩,⟨bw,ai rfl,trivial⟩,⟨.inl ⟨_,rfl,.inl ⟨rfl,rfl⟩⟩,trivial⟩,bB a⟩
 ·have d:¬k<gs.length:=by rw[j] at d;omega
  exact Tv rfl rfl rfl rfl (vz IC (oM d b))
theorem t30 (gs:List cK) (g:cK) (a:gs.length<=400):iw P 30 [.rw 1000,.fn 31 [] [.pt (ku g) 0]] [Aq gs] (aR [Aq gs] (.bool (gs.any fun h=>gX h g))):=by
 have h1:=t54 gs g a;have e:=rL (fun h=>gX h g) gs;generalize bL (fun h=>gX h g) gs 0=n at h1 e;refine r9 0 (.rw 1000) Tryz.func30 OE rfl TA rfl rfl rfl fun b _=>?_;refine zK [1000] h1 rfl rfl rfl rfl rfl ?_;exact Tv rfl rfl rfl rfl (vz C.bool e)
def m9 (g:cK) (b:aT):Bool:=decide (g.t.kind=5)&&(decide (b.param=g.t.id)&&decide (b.trait=g.tr))
theorem t33 (g:cK) (b:aT):CallsT P 33 [.agg (aW b),.pt (ku g) 0] [] (aR [] (.bool (m9 g b))):=by
 unfold m9;refine af Tryz.func33 OH rfl fun a _=>?_;refine ah (fun q=>?_) (fun q=>?_)
 ·refine ay rfl (vz C.bool ?_);rw[aaP (show g.t.kind=5 from q),aaW]
  first | rfl | trace_state
 ·exact ay rfl (vz C.bool (by rw[aaS (show¬g.t.kind=5 from q),aaY]))
noncomputable def uQ:Code:=Tryz.f29.body.getD .skip
noncomputable def Y0:Code:=wO uQ
noncomputable def Y1:Code:=wO (gk uQ)
noncomputable def Y2:Code:=wO (gk (gk uQ))
noncomputable def Y3:Code:=wO (gk (gk (gk uQ)))
noncomputable def Y4:Code:=wO (gk (gk (gk (gk uQ))))
noncomputable def Y5:Code:=wO (gk (gk (gk (gk (gk uQ)))))
noncomputable def Y6:Code:=wO (gk (gk (gk (gk (gk (gk uQ))))))
noncomputable def Y7:Code:=gk (gk (gk (gk (gk (gk (gk (gk uQ)))))))
noncomputable def X5:Code:=wO (gk (gk (gk (gk (gk (gk (gk uQ)))))))
theorem EP:Tryz.f29.body=some (Y0.seq (Y1.seq (Y2.seq (Y3.seq (Y4.seq (Y5.seq (Y6.seq (X5.seq Y7)))))))):=by kernel_rfl
def Qq:cI:={n:=97,own:=[6],frz:=[(26,0,[91])],ord:=[(24,[0,1,2,3,4,5,6,7,8,9,10,11],[[],[0],[],[],[3],[],[3,4,5],[2,3,4,5,6],[2,3,4,5,6,7],[0,1,2,3,4,5,6,7,8],[0,1,2,3,4,5,6,7,8,9],[0,1,2,3,4,5,6,7,8,9,10]])],pan:=[(3,1),(5,1),(28,1)],px:=[89],bk:=[(82,13)]}
def Y8:au:=(.reg [.op (some 6) (.boxF 70 (.t 0)) none,
  .op (some 7) (.alloc 36 [(.bool false),(.int .i64 0),(.slice none 0 0),(.slice none 0 0)]) none])
def X6:au:=(.reg [.op (some 17) (.load false 1 (.t 1)) none,
  .op (some 18) (.bin .add (.t 17) (.c (.int .i64 1))) none,
  .op none (.store 1 (.t 1) (.t 18)) none])
def Wn:au:=(.seq (.reg [.op (some 19) (.load false 1 (.t 1)) none,
  .op (some 20) (.bin .gtr (.t 19) (.c (.int .i64 400))) none])
 (.cond (.t 20)
 (.reg [.op (some 21) (.mkif 43 (.c (.int .i64 2))) none,
   .pc none (.pan (.t 21)) none])
 .skip))
def VF:au:=(.seq (.reg [.op (some 22) (.load false 1 (.t 2)) none,
  .op (some 23) (.mkfn 31 [] [(.t 6)]) none,
  .op (some 24) (.call 30 [(.t 22),(.t 23)]) none])
 (.cond (.t 24)
 (.reg [.op (some 25) (.mkif 43 (.c (.int .i64 15))) none,
   .pc none (.pan (.t 25)) none])
 .skip))
def Uh:au:=(.reg [.op (some 26) (.load false 1 (.t 3)) none,
  .op (some 27) (.mkfn 33 [] [(.t 6)]) none,
  .op (some 28) (.call 32 [(.t 26),(.t 27)]) none,
  .op (some 8) (.mov (.t 28)) none])
def TB:au:=(.seq (.reg [.op (some 29) (.mov (.t 8)) none,
  .op (some 30) (.bin .geq (.t 29) (.c (.int .i64 0))) none])
 (.cond (.t 30)
 (.seq (.reg [.op (some 31) (.mov (.t 8)) none,
   .op (some 32) (.build [(.bool false),(.int .i64 0),(.slice none 0 0),(.slice none 0 0)] [(0,1,(.c (.bool true))),(1,1,(.t 31))]) none,
   .op none (.store 4 (.t 7) (.t 32)) none])
  .ret)
 .skip))
def RP:au:=(.reg [.op (some 33) (.load false 1 (.t 2)) none,
  .op (some 34) (.load true 4 (.t 6)) none,
  .op (some 35) (.mkF 70 1 4 [(.t 34)]) none,
  .op (some 36) (.app 70 4 48 [(.int .i64 0),(.int .i64 0),(.int .i64 0),(.slice none 0 0)] (.t 33) (.t 35)) none,
  .op none (.store 1 (.t 2) (.t 36)) none])
def X7:au:=(.seq (.seq (.reg [.op (some 38) (.fieldA 5 (.t 4)) none,
  .op (some 39) (.load false 1 (.t 38)) none,
  .op (some 40) (.len (.t 39)) none,
  .op (some 41) (.mov (.c (.int .i64 0))) none])
 (.block 0
 (.loop [42,43,44,45,10,9,46,47,48,49,50,52,53,54,55,56,57,58,51,59,60,11,12,61,62,63,64,65,13,66,67,68,69,70,71,72,15,16,73,74,75,76,77,78,79,80,81,82,83,84,85,86,87,88,89,90,91,92,93,69,94,95,41]
  (.seq (.reg [.op (some 42) (.bin .lss (.t 41) (.t 40)) none])
   (.seq (.cond (.t 42)
   .skip
   (.exit 0))
   (.seq (.block 1
   (.seq (.reg [.op (some 43) (.mov (.t 41)) none,
     .op (some 44) (.idxA 8 (.t 39) (.t 41)) none,
     .op (some 45) (.load true 8 (.t 44)) none,
     .op (some 10) (.alloc 57 [(.int .i64 0),(.int .i64 0),(.int .i64 0),(.slice none 0 0),(.int .i64 0),(.int .i64 0),(.slice none 0 0),(.int .i64 0)]) none,
     .op (some 9) (.mov (.t 43)) none,
     .op none (.store 8 (.t 10) (.t 45)) none])
    (.seq (.seq (.reg [.op (some 46) (.fieldA 0 (.t 10)) none,
     .op (some 47) (.load false 1 (.t 46)) none,
     .op (some 48) (.fieldA 0 (.t 6)) none,
     .op (some 49) (.load false 1 (.t 48)) none,
     .op (some 50) (.bin .neq (.t 47) (.t 49)) none])
    (.cond (.t 50)
    (.exit 1)
    .skip))
    (.seq (.reg [.op (some 52) (.fieldA 4 (.t 10)) none,
     .op (some 53) (.load true 3 (.t 52)) none,
     .op (some 54) (.fieldA 1 (.t 6)) none,
     .op (some 55) (.load true 3 (.t 54)) none,
     .op (some 56) (.fieldA 2 (.t 10)) none,
     .op (some 57) (.load false 1 (.t 56)) none,
     .op (some 58) (.call 35 [(.t 53),(.t 55),(.t 57)]) none,
     .op (some 51) (.mov (.t 58)) none,
     .op (some 59) (.extr (.t 51) 0) none,
     .op (some 60) (.extr (.t 51) 1) none,
     .op (some 11) (.mov (.t 59)) none,
     .op (some 12) (.mov (.t 60)) none])
    (.seq (.seq (.reg [.op (some 61) (.mov (.t 12)) none,
     .op (some 62) (.un .not (.t 61)) none])
    (.cond (.t 62)
    (.exit 1)
    .skip))
    (.seq (.reg [.op (some 63) (.mov (.t 9)) none,
     .op (some 64) (.mov (.t 11)) none,
     .op (some 65) (.build [(.bool false),(.int .i64 0),(.slice none 0 0),(.slice none 0 0)] [(1,1,(.t 63)),(2,1,(.t 64))]) none,
     .op (some 13) (.alloc 36 [(.bool false),(.int .i64 0),(.slice none 0 0),(.slice none 0 0)]) none,
     .op none (.store 4 (.t 13) (.t 65)) none])
    (.seq (.seq (.reg [.op (some 66) (.fieldA 3 (.t 10)) none,
     .op (some 67) (.load false 1 (.t 66)) none,
     .op (some 68) (.len (.t 67)) none,
     .op (some 69) (.mov (.c (.int .i64 0))) none])
    (.block 2
    (.loop [70,71,72,15,16,73,74,75,76,77,78,79,80,81,82,83,84,85,86,87,88,89,90,91,92,93,69]
     (.seq (.reg [.op (some 70) (.bin .lss (.t 69) (.t 68)) none])
      (.seq (.cond (.t 70)
      .skip
      (.exit 2))
      (.seq (.block 3
      (.seq (.reg [.op (some 71) (.idxA 2 (.t 67) (.t 69)) none,
        .op (some 72) (.load true 2 (.t 71)) none,
        .op (some 15) (.alloc 52 [(.int .i64 0),(.int .i64 0)]) none,
        .op none (.store 2 (.t 15) (.t 72)) none])
       (.seq (.reg [.op (some 16) (.alloc 33 [(.int .i64 0),(.int .i64 0),(.slice none 0 0)]) none])
       (.seq (.seq (.reg [.op (some 73) (.mov (.t 11)) none,
        .op (some 74) (.fieldA 0 (.t 15)) none,
        .op (some 75) (.load false 1 (.t 74)) none,
        .op (some 76) (.call 27 [(.t 73),(.t 75)]) none])
       (.cond (.t 76)
       (.reg [.op (some 77) (.mov (.t 11)) none,
         .op (some 78) (.fieldA 0 (.t 15)) none,
         .op (some 79) (.load false 1 (.t 78)) none,
         .op (some 80) (.idxA 3 (.t 77) (.t 79)) none,
         .op (some 81) (.load true 3 (.t 80)) none,
         .op none (.store 3 (.t 16) (.t 81)) none])
       .skip))
       (.regX [.op (some 82) (.fieldA 3 (.t 13)) none,
        .op (some 83) (.loadK 13 false 1 (.t 82)) none,
        .op (some 84) (.loadD false 1 (.t 5)) none,
        .op (some 85) (.fieldA 1 (.t 15)) none,
        .op (some 86) (.loadD false 1 (.t 85)) none,
        .op (some 87) (.loadD true 3 (.t 16)) none,
        .op (some 88) (.build [(.int .i64 0),(.int .i64 0),(.int .i64 0),(.slice none 0 0)] [(0,1,(.t 86)),(1,3,(.t 87))]) none,
        .pc (some 89) (.callV (.t 84) [(.t 88)]) none,
        .op (some 90) (.mkFD 36 1 4 [(.t 89)]) none,
        .op (some 91) (.appD 36 4 64 [(.bool false),(.int .i64 0),(.slice none 0 0),(.slice none 0 0)] (.t 83) (.t 90)) none,
        .op (some 92) (.fieldA 3 (.t 13)) none,
        .op none (.storeD 1 (.t 92) (.t 91)) none])))))
      (.reg [.op (some 93) (.bin .add (.t 69) (.c (.int .i64 1))) none,
       .op (some 69) (.mov (.t 93)) none])))))))
    (.seq (.reg [.frz 91,
     .op (some 94) (.load true 4 (.t 13)) none,
     .op none (.store 4 (.t 7) (.t 94)) none])
    .ret))))))))
   (.reg [.op (some 95) (.bin .add (.t 41) (.c (.int .i64 1))) none,
    .op (some 41) (.mov (.t 95)) none])))))))
 (.reg [.op (some 96) (.mkif 43 (.c (.int .i64 9))) none,
  .pc none (.pan (.t 96)) none]))
theorem VG:low Tryz.prog Qq Y0=some Y8:=by kernel_rfl
theorem VH:low Tryz.prog Qq Y1=some X6:=by kernel_rfl
theorem VI:low Tryz.prog Qq Y2=some Wn:=by kernel_rfl
theorem VJ:low Tryz.prog Qq Y3=some VF:=by kernel_rfl
theorem VK:low Tryz.prog Qq Y4=some Uh:=by kernel_rfl
theorem VL:low Tryz.prog Qq Y5=some TB:=by kernel_rfl
theorem VN:low Tryz.prog Qq Y6=some RP:=by kernel_rfl
theorem VO:low Tryz.prog Qq Y7=some X7:=by kernel_rfl
end Go.Fr.Tryz
