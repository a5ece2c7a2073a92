/- Part of the proofs of the statements of this seat. -/
import Derived.Test.YtnlegbokpofcaaaGreatDoorSpE7G
import Derived.Test.YtnlegbokpofcaaaGreatDoorSpP4G
set_option maxRecDepth 10000
set_option linter.unusedVariables false
set_option linter.unusedSimpArgs false
namespace Go.Fr.Tryz
open Go Go.RowKit Go.Proofs Go.Fr Go.Fr.T Go.Fr.Api
def Al (f:Nat) (args:List C):Prop:=CallsT PZ f args [] (fun Mo v=>Mo=[]/\∃n:Int,v=IC n)
section
variable {L:TL}{ρ:aY}
theorem u6 {f:Nat}{args a:List C}{K:TL->aY->C->Prop}(h:Al f a) (d:(args.map fun c=>c.aaj.ren (cn [] 1000))=a) (k:∀n:Int,K L ρ (IC n)):pE PZ f args L ρ K:=by
 subst d;exact .mk ⟨[],[],[],L,[],_,.inl rfl,rfl,rfl,rfl,rfl,rfl,h,fun v Mo ⟨b,n,e⟩ j _=>by subst b e;exact⟨rfl,k n⟩⟩
theorem tX {f:Nat}{args a:List C}{K:TL->aY->C->Prop}{d:Option Nat}(h:Al f a) (e:(args.map fun c=>c.aaj.ren (cn [] 1000))=a) (k:∀n:Int,K L ρ (IC n)):tL PZ f args L ρ d K:=by
 subst e;exact .frz _ h fun v Mo ⟨b,n,j⟩ l=>by subst b j;exact⟨rfl,k n⟩
theorem zb {Lin:List TO}{v:C}(n:Int) (hb:aW Lin (List.range' 1000 Lin.length) []=true) (e:v.aar.ren (cn [] 1000)=IC n):pF Lin L v (fun Mo v=>Mo=[]/\∃n:Int,v=IC n) :=
 ⟨[],[],L,v,v,[],rfl,.inl ⟨rfl,rfl⟩,rfl,rfl,hb,fun _=>⟨rfl,n,e⟩⟩
end
theorem U1:∀(n:Nat) (x:Ty) (l:Int),SizeOf.sizeOf x<n->Al 72 [Ak x,IC l]
 | 0,x,l,h=>p7 h (by omega)
 | n+1,x,l,h=>by
  have o:∀z∈x.args,∀m,Al 72 [Ak z,IC m]:=fun z r m=>U1 n z m (by have:=LI r;omega);refine aq Tryz.func72 OJ rfl fun j _=>?_;have d:Wf (.sl (x.args.map s5)):=by have h:=j.1;simp only[Ak,Wf,sU] at h;exact h.2.2.1
  refine Fit.mk ?_;refine Fit.mk ?_;refine aZ x.args.length 5 [1] (_:Int) (fun n=>[IC n]) (fun _=>[]) (fun _ _=>True) trivial (aj rfl) ⟨aj rfl,trivial⟩ trivial (fun _=>rfl) (fun _=>rfl) ?_;rintro e s k _ _ _ _;refine aK (fun a=>?_) (fun q=>?_)
  ·refine aK (fun c=>?_) (fun c=>?_)
   ·have a:e<x.args.length:=by rw[bQ] at a;omega
    have p:=bA d;obtain⟨f,b⟩:=aS a;refine wC b ?_;refine u6 (o f (aaS b) _) rfl fun m=>?_;refine Fit.aad (by omega) (by omega) ?_;exact⟨(e+1,_),⟨a,trivial⟩,⟨bn,⟨aj rfl,trivial⟩⟩,trivial,bq a⟩
   skip
   exact zb _ rfl rfl
  ·skip
   exact zb _ rfl rfl
theorem Vy (x:Ty) (l:Int):Al 72 [Ak x,IC l]:=U1 _ x l (abH _)
theorem Y7 (a:List Ty) (l:Int):Al 27 [.sl (a.map s5),IC l]:=by
 refine aq Tryz.func27 N9 rfl fun f _=>?_;refine Fit.mk ?_;refine aZ a.length 5 [1] (_:Int) (fun n=>[IC n]) (fun _=>[]) (fun _ _=>True) trivial (aj rfl) ⟨aj rfl,trivial⟩ trivial (fun _=>rfl) (fun _=>rfl) ?_;rintro e p k _ _ _ _;refine aK (fun b=>?_) (fun j=>?_)
 ·refine aK (fun d=>?_) (fun d=>?_)
  ·have b:e<a.length:=by rw[bQ] at b;omega
   have o:=bA f.1;obtain⟨h,c⟩:=aS b;refine wC c ?_;refine u6 (Vy h _) rfl fun m=>?_;refine Fit.aad (by omega) (by omega) ?_;exact⟨(e+1,_),⟨b,trivial⟩,⟨bn,⟨aj rfl,trivial⟩⟩,trivial,bq b⟩
  skip
  exact zb _ rfl rfl
 ·skip
  exact zb _ rfl rfl
theorem t28 (x:zw) (l:Int):Al 28 [.agg (iT x),IC l]:=by
 refine aq Tryz.func28 Oa rfl fun hw _=>?_;have r:Wf (.sl (x.blocks.map iF)):=hw.1.2.2.2.2.2.2.2.1;have j:Wf (.sl (x.entry.map nV)):=hw.1.2.2.2.2.2.2.2.2.1;refine Fit.mk ?_;refine Fit.mk ?_;refine Fit.mk ?_;refine Fit.mk ?_;refine tX (Vy x.result _) rfl fun m1=>?_;refine tX (Y7 x.params _) rfl fun m2=>?_;refine aZ x.blocks.length 5 [1] (_:Int) (fun n=>[IC n]) (fun _=>[]) (fun _ _=>True) trivial (aj rfl) ⟨aj rfl,trivial⟩ trivial (fun _=>rfl) (fun _=>rfl) ?_;rintro kA lA aw _ _ _ _;refine aK (fun d=>?_) (fun aE=>?_)
 ·refine aK (fun ad=>?_) (fun ad=>?_)
  ·have d:kA<x.blocks.length:=by rw[bQ] at d;omega
   have az:=bA r;obtain⟨w,e⟩:=aS d;have ab:Wf (.sl (w.code.map qw)):=(nX r (aaS e)).1;refine bw e rfl rfl ?_;refine Fit.mk ?_;refine bw e rfl rfl ?_;refine Fit.mk ?_;refine aZ w.code.length 6 [1] (_:Int) (fun n=>[IC n]) (fun _=>[]) (fun _ _=>True) trivial (aj rfl) ⟨aj rfl,trivial⟩ trivial (fun _=>rfl) (fun _=>rfl) ?_;rintro kB lB ay _ _ _ _;refine bw e rfl rfl ?_;refine aK (fun h=>?_) (fun av=>?_)
   ·refine aK (fun v=>?_) (fun v=>?_)
    ·have h:kB<w.code.length:=by rw[bQ] at h;omega
     have ap:=bA ab;obtain⟨xB,t⟩:=aS h;refine bw e rfl rfl ?_;refine bw t rfl rfl ?_;refine bw e rfl rfl ?_;refine bw t rfl rfl ?_;refine Fit.mk ?_;refine tX (Y7 xB.types _) rfl fun m3=>?_;refine Fit.aad (by omega) (by omega) ?_;exact⟨(kB+1,_),⟨h,trivial⟩,⟨bn,⟨aj rfl,trivial⟩⟩,trivial,bq h⟩
    skip
    refine Fit.aad (by omega) (by omega) ?_;exact⟨(kA+1,_),⟨d,trivial⟩,⟨bn,⟨aj rfl,trivial⟩⟩,trivial,bq d⟩
   ·skip
    refine Fit.aad (by omega) (by omega) ?_;exact⟨(kA+1,_),⟨d,trivial⟩,⟨bn,⟨aj rfl,trivial⟩⟩,trivial,bq d⟩
  skip
  refine aZ x.entry.length 7 [1] (_:Int) (fun n=>[IC n]) (fun _=>[]) (fun _ _=>True) trivial (aj rfl) ⟨aj rfl,trivial⟩ trivial (fun _=>rfl) (fun _=>rfl) ?_;rintro m lC aa _ _ _ _;refine aK (fun a=>?_) (fun ac=>?_)
  ·refine aK (fun q=>?_) (fun q=>?_)
   ·have a:m<x.entry.length:=by rw[bQ] at a;omega
    have u:=bA j;obtain⟨p,b⟩:=aS a;have k:Wf (.sl (p.map iM)):=(nX j (aaS b)).1;refine bw b rfl rfl ?_;refine Fit.mk ?_;refine aZ p.length 8 [1] (_:Int) (fun n=>[IC n]) (fun _=>[]) (fun _ _=>True) trivial (aj rfl) ⟨aj rfl,trivial⟩ trivial (fun _=>rfl) (fun _=>rfl) ?_;rintro s lD ae _ _ _ _;refine bw b rfl rfl ?_;refine aK (fun c=>?_) (fun al=>?_)
    ·refine aK (fun o=>?_) (fun o=>?_)
     ·have c:s<p.length:=by rw[bQ] at c;omega
      have y:=bA k;obtain⟨z,f⟩:=aS c;refine bw b rfl rfl ?_;refine bw f rfl rfl ?_;refine bw b rfl rfl ?_;refine bw f rfl rfl ?_;refine Fit.mk ?_;refine tX (Vy z.type _) rfl fun m3=>?_;refine Fit.aad (by omega) (by omega) ?_;exact⟨(s+1,_),⟨c,trivial⟩,⟨bn,⟨aj rfl,trivial⟩⟩,trivial,bq c⟩
     skip
     refine Fit.aad (by omega) (by omega) ?_;exact⟨(m+1,_),⟨a,trivial⟩,⟨bn,⟨aj rfl,trivial⟩⟩,trivial,bq a⟩
    ·skip
     refine Fit.aad (by omega) (by omega) ?_;exact⟨(m+1,_),⟨a,trivial⟩,⟨bn,⟨aj rfl,trivial⟩⟩,trivial,bq a⟩
   skip
   exact zb _ rfl rfl
  ·skip
   exact zb _ rfl rfl
 ·skip
  refine aZ x.entry.length 7 [1] (_:Int) (fun n=>[IC n]) (fun _=>[]) (fun _ _=>True) trivial (aj rfl) ⟨aj rfl,trivial⟩ trivial (fun _=>rfl) (fun _=>rfl) ?_;rintro m lC aa _ _ _ _;refine aK (fun a=>?_) (fun ac=>?_)
  ·refine aK (fun q=>?_) (fun q=>?_)
   ·have a:m<x.entry.length:=by rw[bQ] at a;omega
    have u:=bA j;obtain⟨p,b⟩:=aS a;have k:Wf (.sl (p.map iM)):=(nX j (aaS b)).1;refine bw b rfl rfl ?_;refine Fit.mk ?_;refine aZ p.length 8 [1] (_:Int) (fun n=>[IC n]) (fun _=>[]) (fun _ _=>True) trivial (aj rfl) ⟨aj rfl,trivial⟩ trivial (fun _=>rfl) (fun _=>rfl) ?_;rintro s lD ae _ _ _ _;refine bw b rfl rfl ?_;refine aK (fun c=>?_) (fun al=>?_)
    ·refine aK (fun o=>?_) (fun o=>?_)
     ·have c:s<p.length:=by rw[bQ] at c;omega
      have y:=bA k;obtain⟨z,f⟩:=aS c;refine bw b rfl rfl ?_;refine bw f rfl rfl ?_;refine bw b rfl rfl ?_;refine bw f rfl rfl ?_;refine Fit.mk ?_;refine tX (Vy z.type _) rfl fun m3=>?_;refine Fit.aad (by omega) (by omega) ?_;exact⟨(s+1,_),⟨c,trivial⟩,⟨bn,⟨aj rfl,trivial⟩⟩,trivial,bq c⟩
     skip
     refine Fit.aad (by omega) (by omega) ?_;exact⟨(m+1,_),⟨a,trivial⟩,⟨bn,⟨aj rfl,trivial⟩⟩,trivial,bq a⟩
    ·skip
     refine Fit.aad (by omega) (by omega) ?_;exact⟨(m+1,_),⟨a,trivial⟩,⟨bn,⟨aj rfl,trivial⟩⟩,trivial,bq a⟩
   skip
   exact zb _ rfl rfl
  ·skip
   exact zb _ rfl rfl
theorem t9 (x:wG):CallsT PZ 9 [.agg (Aj x)] [] (Such True):=by
 refine aq Tryz.func9 Sd rfl fun y _=>?_;have j:Wf (.sl (x.datas.map iL)):=y.1.1;have k:Wf (.sl (x.routs.map iT)):=y.1.2.1;refine Fit.mk ?_;refine Fit.mk ?_;refine aZ x.datas.length 4 [3] (_:Int) (fun n=>[IC n]) (fun _=>[]) (fun _ _=>True) trivial (aj rfl) ⟨aj rfl,trivial⟩ trivial (fun _=>rfl) (fun _=>rfl) ?_;rintro v lA ad _ _ _ _;refine aK (fun b=>?_) (fun al=>?_)
 ·refine aK (fun t=>?_) (fun t=>?_)
  ·have b:v<x.datas.length:=by rw[bQ] at b;omega
   have ag:=bA j;obtain⟨p,c⟩:=aS b;have r:Wf (.sl (p.variants.map fB)):=(nX j (aaS c)).2.2.2.1;refine bw c rfl rfl ?_;refine Fit.mk ?_;refine bw c rfl rfl ?_;refine Fit.mk ?_;refine aZ p.variants.length 5 [3] (_:Int) (fun n=>[IC n]) (fun _=>[]) (fun _ _=>True) trivial (aj rfl) ⟨aj rfl,trivial⟩ trivial (fun _=>rfl) (fun _=>rfl) ?_;rintro w lB ae _ _ _ _;refine bw c rfl rfl ?_;refine aK (fun d=>?_) (fun ac=>?_)
   ·refine aK (fun o=>?_) (fun o=>?_)
    ·have d:w<p.variants.length:=by rw[bQ] at d;omega
     have aa:=bA r;obtain⟨xB,l⟩:=aS d;refine bw c rfl rfl ?_;refine bw l rfl rfl ?_;refine bw c rfl rfl ?_;refine bw l rfl rfl ?_;refine Fit.mk ?_;refine tX (Y7 xB.fields _) rfl fun z=>?_;refine Fit.aad (by omega) (by omega) ?_;exact⟨(w+1,_),⟨d,trivial⟩,⟨bn,⟨aj rfl,trivial⟩⟩,trivial,bq d⟩
    skip
    refine Fit.aad (by omega) (by omega) ?_;exact⟨(v+1,_),⟨b,trivial⟩,⟨bn,⟨aj rfl,trivial⟩⟩,trivial,bq b⟩
   ·skip
    refine Fit.aad (by omega) (by omega) ?_;exact⟨(v+1,_),⟨b,trivial⟩,⟨bn,⟨aj rfl,trivial⟩⟩,trivial,bq b⟩
  skip
  refine aZ x.routs.length 6 [3] (_:Int) (fun n=>[IC n]) (fun _=>[]) (fun _ _=>True) trivial (aj rfl) ⟨aj rfl,trivial⟩ trivial (fun _=>rfl) (fun _=>rfl) ?_;rintro h lC q _ _ _ _;refine aK (fun a=>?_) (fun s=>?_)
  ·refine aK (fun f=>?_) (fun f=>?_)
   ·have a:h<x.routs.length:=by rw[bQ] at a;omega
    have m:=bA k;obtain⟨u,e⟩:=aS a;refine bw e rfl rfl ?_;refine u6 (t28 u _) rfl fun z=>?_;refine Fit.aad (by omega) (by omega) ?_;exact⟨(h+1,_),⟨a,trivial⟩,⟨bn,⟨aj rfl,trivial⟩⟩,trivial,bq a⟩
   skip
   exact iG _ rfl rfl fun _=>trivial
  ·skip
   exact iG _ rfl rfl fun _=>trivial
 ·skip
  refine aZ x.routs.length 6 [3] (_:Int) (fun n=>[IC n]) (fun _=>[]) (fun _ _=>True) trivial (aj rfl) ⟨aj rfl,trivial⟩ trivial (fun _=>rfl) (fun _=>rfl) ?_;rintro h lC q _ _ _ _;refine aK (fun a=>?_) (fun s=>?_)
  ·refine aK (fun f=>?_) (fun f=>?_)
   ·have a:h<x.routs.length:=by rw[bQ] at a;omega
    have m:=bA k;obtain⟨u,e⟩:=aS a;refine bw e rfl rfl ?_;refine u6 (t28 u _) rfl fun z=>?_;refine Fit.aad (by omega) (by omega) ?_;exact⟨(h+1,_),⟨a,trivial⟩,⟨bn,⟨aj rfl,trivial⟩⟩,trivial,bq a⟩
   skip
   exact iG _ rfl rfl fun _=>trivial
  ·skip
   exact iG _ rfl rfl fun _=>trivial
def Vl.kind:Vl->Int | .mk a _ _ _ _ _ _ _=>a
def Vl.id:Vl->Int | .mk _ a _ _ _ _ _ _=>a
def Vl.var:Vl->Int | .mk _ _ a _ _ _ _ _=>a
def Vl.num:Vl->Int | .mk _ _ _ a _ _ _ _=>a
def Vl.fs:Vl->List Vl | .mk _ _ _ _ a _ _ _=>a
def Vl.ex:Vl->Bool | .mk _ _ _ _ _ a _ _=>a
def Vl.path:Vl->List Int | .mk _ _ _ _ _ _ a _=>a
def Vl.lns:Vl->List Int | .mk _ _ _ _ _ _ _ a=>a
def Vz (x:Vl):List C:=[IC x.kind,IC x.id,IC x.var,IC x.num,.sl (x.fs.map n9),.bool x.ex,.sl (qK x.path),.sl (qK x.lns)]
theorem QI (x:Vl):n9 x=Vz x:=by
 cases x;rw[n9,rJ];rfl
def I3 (x:Vl):C:=.agg (Vz x)
def VA (x:Ce):List C:=.bool x.live::IC x.arena::Vz x.value
theorem U2 (x:Ce):wO x=VA x:=by rw[wO,QI];rfl
theorem U3 {x y:Vl}(b:x.kind=y.kind) (h:x.id=y.id) (d:x.var=y.var) (c:x.num=y.num) (f:x.ex=y.ex) (e:x.path=y.path) (j:x.lns=y.lns) (a:x.fs=y.fs):x=y:=by
 cases x;cases y
 simp_all [Vl.kind,Vl.id,Vl.var,Vl.num,Vl.ex,Vl.path,Vl.lns,Vl.fs]
theorem LW {x t:Vl}(h:x∈t.fs):SizeOf.sizeOf x<SizeOf.sizeOf t:=by
 cases t;have:=List.sizeOf_lt_of_mem h;simp only[Vl.fs] at this;simp only[Vl.mk.sizeOf_spec];omega
theorem ZA {p:Prop}[Decidable p] (h:lS true (decide p)=true):¬p:=by simpa[lS] using h
theorem ZB {p:Prop}[Decidable p] (h:lS true (decide p)=false):p:=by simpa[lS] using h
section
variable {K:List C->Prop}{k:Nat}
theorem rS {l:List Vl}{x:Vl}(a:l[k]?=some x) (h:K (Vz x)):BQ (l.map n9) (k:Int) 8 K:=bw a (QI x) rfl h
theorem G9 {l:List Ce}{x:Ce}(a:l[k]?=some x) (h:K (VA x)):BQ (l.map wO) (k:Int) 10 K:=bw a (U2 x) rfl h
end
theorem Pz (a b:List Int):dI 121 [.sl (qK a),.sl (qK b)] (a=b):=by
 refine aq Tryz.func121 KF rfl fun t _=>?_;refine af (fun p=>?_) (fun p=>?_)
 ·exact aO rfl (j3 C.bool (aD fun e=>(jw (by have q:=lJ p;rwa [zD,zD] at q)) (by rw[e])))
 have p:=LV p;refine aZ a.length 5 [] () (fun _=>[]) (fun _=>[]) (fun k _=>∀j<k,a[j]?=b[j]?) (fun j u=>p7 u (by omega)) (aj rfl) trivial trivial (fun _=>rfl) (fun _=>rfl) ?_;rintro m ⟨⟩ v d _ _ _;refine aK (fun c=>?_) (fun o=>?_)
 ·have c:m<a.length:=by rw[zD] at c;omega
  have w:=(bA t.1:a.length<=_);obtain⟨x,h⟩:=aS c;obtain⟨y,f⟩:=aS (l:=b) (k:=m) (by omega);refine Cv h ?_;refine Cv f ?_;refine af (fun r=>?_) (fun r=>?_)
  ·exact aO rfl (j3 C.bool (aD fun e=>cq h f (lJ r) (by rw[e])))
  refine Fit.aad (by omega) (by omega) ?_;exact⟨(m+1,()),⟨c,bX d h f (rR r)⟩,⟨bn,trivial⟩,trivial,bq c⟩
 ·have o:¬m<a.length:=by rw[zD] at o;omega
  have s:a=b:=bW (n:=m) (by omega) (by omega) d;exact aO rfl (j3 C.bool (dF s))
theorem U4:∀(n:Nat) (x y:Vl),SizeOf.sizeOf x<n->dI 96 [I3 x,I3 y] (x=y)
 | 0,x,y,h=>p7 h (by omega)
 | n+1,x,y,h=>by
  have ih:∀z∈x.fs,∀w,dI 96 [I3 z,I3 w] (z=w):=fun z hz w=>U4 n z w (by have:=LW hz;omega);refine aq Tryz.func96 OW rfl fun hw _=>?_;have v:Wf (.sl (x.fs.map n9)):=hw.1.2.2.2.2.1;refine af (fun p=>?_) (fun p=>?_)
  ·exact aO rfl (j3 C.bool (aD fun e=>(lJ p) (by rw[e])))
  refine af (fun u=>?_) (fun u=>?_)
  ·exact aO rfl (j3 C.bool (aD fun e=>(lJ u) (by rw[e])))
  refine af (fun r=>?_) (fun r=>?_)
  ·exact aO rfl (j3 C.bool (aD fun e=>(lJ r) (by rw[e])))
  refine af (fun h3=>?_) (fun h3=>?_)
  ·exact aO rfl (j3 C.bool (aD fun e=>(lJ h3) (by rw[e])))
  refine af (fun h4=>?_) (fun h4=>?_)
  ·exact aO rfl (j3 C.bool (aD fun e=>(ZA h4) (by rw[e])))
  refine af (fun o=>?_) (fun o=>?_)
  ·exact aO rfl (j3 C.bool (aD fun e=>(jw (by have q:=lJ o;rwa [bQ,bQ] at q)) (by rw[e])))
  have o:=iA o;refine bM (Pz x.path y.path) rfl fun _=>?_;refine af (fun h5=>?_) (fun h5=>?_)
  ·exact aO rfl (j3 C.bool (aD fun e=>(wR h5) (by rw[e])))
  refine bM (Pz x.lns y.lns) rfl fun _=>?_;refine af (fun s=>?_) (fun s=>?_)
  ·exact aO rfl (j3 C.bool (aD fun e=>(wR s) (by rw[e])))
  refine aZ x.fs.length 5 [] () (fun _=>[]) (fun _=>[]) (fun k _=>∀j<k,x.fs[j]?=y.fs[j]?) (fun j hj=>p7 hj (by omega)) (aj rfl) trivial trivial (fun _=>rfl) (fun _=>rfl) ?_;rintro f ⟨⟩ am c _ _ _;refine aK (fun a=>?_) (fun m=>?_)
  ·have a:f<x.fs.length:=by rw[bQ] at a;omega
   have ao:=bA v;obtain⟨xA,b⟩:=aS a;obtain⟨yA,d⟩:=aS (l:=y.fs) (k:=f) (by omega);refine rS b ?_;refine rS d ?_;refine eK (ih xA (aaS b) yA) rfl fun _=>?_;refine af (fun t=>?_) (fun t=>?_)
   ·exact aO rfl (j3 C.bool (aD fun e=>cq b d (wR t) (by rw[e])))
   refine Fit.aad (by omega) (by omega) ?_;exact⟨(f+1,()),⟨a,bX c b d (wS t)⟩,⟨bn,trivial⟩,trivial,bq a⟩
  ·have m:¬f<x.fs.length:=by rw[bQ] at m;omega
   have eA:x.fs=y.fs:=bW (n:=f) (by omega) (by omega) c;exact aO rfl (j3 C.bool (dF (U3 (rR p) (rR u) (rR r) (rR h3) (ZB h4) (wS h5) (wS s) eA)))
theorem Y8 (x y:Vl):dI 96 [I3 x,I3 y] (x=y):=U4 _ x y (abH _)
theorem U5 {x y:Ce}(a:x.live=y.live) (c:x.arena=y.arena) (b:x.value=y.value):x=y:=by
 rcases x with⟨⟩
 rcases y with⟨⟩
 simp_all
theorem Y9 (x y:Ce):dI 120 [.agg (VA x),.agg (VA y)] (x=y):=by
 refine aq Tryz.func120 KE rfl fun c _=>?_;refine aK (fun a=>?_) (fun a=>aO rfl (j3 C.bool (aD fun e=>a (by rw[e]))));refine aK (fun b=>?_) (fun b=>aO rfl (j3 C.bool (aD fun e=>b (by rw[e]))));refine bM (Y8 x.value y.value) rfl fun _=>?_;exact aO rfl (j3 C.bool (iy ⟨fun h=>U5 a b h,fun e=>by rw[e]⟩))
theorem t93 (a b:List Ce) (p q:List Bool):dI 93 [.agg [.sl (a.map wO),.sl (p.map EH)],.agg [.sl (b.map wO),.sl (q.map EH)]] (a=b/\p=q):=by
 refine aq Tryz.func93 OT rfl fun hw _=>?_;have ab:Wf (.sl (a.map wO)):=hw.1.1;have ad:Wf (.sl (p.map EH)):=hw.1.2.1;refine af (fun x=>?_) (fun x=>?_)
 ·exact aO rfl (j3 C.bool (aD fun e=>(jw (by have q:=lJ x;rwa [bQ,bQ] at q)) (by rw[e.1])))
 have x:=iA x;refine af (fun y=>?_) (fun y=>?_)
 ·exact aO rfl (j3 C.bool (aD fun e=>(jw (by have q:=lJ y;rwa [bQ,bQ] at q)) (by rw[e.2])))
 have y:=iA y;refine aZ a.length 5 [] () (fun _=>[]) (fun _=>[]) (fun k _=>∀j<k,a[j]?=b[j]?) (fun j hj=>p7 hj (by omega)) (aj rfl) trivial trivial (fun _=>rfl) (fun _=>rfl) ?_;rintro v ⟨⟩ ao h _ _ _;refine aK (fun c=>?_) (fun w=>?_)
 ·have c:v<a.length:=by rw[bQ] at c;omega
  have ar:=bA ab;obtain⟨xA,o⟩:=aS c;obtain⟨yA,m⟩:=aS (l:=b) (k:=v) (by omega);refine G9 o ?_;refine G9 m ?_;refine eK (Y9 xA yA) rfl fun _=>?_;refine af (fun z=>?_) (fun z=>?_)
  ·exact aO rfl (j3 C.bool (aD fun e=>cq o m (wR z) e.1))
  refine Fit.aad (by omega) (by omega) ?_;exact⟨(v+1,()),⟨c,bX h o m (wS z)⟩,⟨bn,trivial⟩,trivial,bq c⟩
 ·have w:¬v<a.length:=by rw[bQ] at w;omega
  have eA:a=b:=bW (n:=v) (by omega) (by omega) h;refine aZ p.length 6 [] () (fun _=>[]) (fun _=>[]) (fun k _=>∀j<k,p[j]?=q[j]?) (fun j hj=>p7 hj (by omega)) (aj rfl) trivial trivial (fun _=>rfl) (fun _=>rfl) ?_;rintro t ⟨⟩ ap f _ _ _;refine aK (fun d=>?_) (fun u=>?_)
  ·have d:t<p.length:=by rw[bQ] at d;omega
   have al:=bA ad;obtain⟨xB,s⟩:=aS d;obtain⟨yB,r⟩:=aS (l:=q) (k:=t) (by omega);refine bw s rfl rfl ?_;refine bw r rfl rfl ?_;refine af (fun h3=>?_) (fun h3=>?_)
   ·exact aO rfl (j3 C.bool (aD fun e=>cq s r (ZA h3) e.2))
   refine Fit.aad (by omega) (by omega) ?_;exact⟨(t+1,()),⟨d,bX f s r (ZB h3)⟩,⟨bn,trivial⟩,trivial,bq d⟩
  ·have u:¬t<p.length:=by rw[bQ] at u;omega
   have eB:p=q:=bW (n:=t) (by omega) (by omega) f;exact aO rfl (j3 C.bool (dF ⟨eA,eB⟩))
theorem t94 (a b:List Ou):dI 94 [.sl (a.map Lh),.sl (b.map Lh)] (a=b):=by
 refine aq Tryz.func94 OU rfl fun u _=>?_;refine af (fun p=>?_) (fun p=>?_)
 ·exact aO rfl (j3 C.bool (aD fun e=>(jw (by have q:=lJ p;rwa [bQ,bQ] at q)) (by rw[e])))
 have p:=iA p;refine aZ a.length 5 [] () (fun _=>[]) (fun _=>[]) (fun k _=>∀j<k,a[j]?=b[j]?) (fun j v=>p7 v (by omega)) (aj rfl) trivial trivial (fun _=>rfl) (fun _=>rfl) ?_;rintro m ⟨⟩ w d _ _ _;refine aK (fun c=>?_) (fun o=>?_)
 ·have c:m<a.length:=by rw[bQ] at c;omega
  have x:=bA u.1;obtain⟨t,h⟩:=aS c;obtain⟨y,f⟩:=aS (l:=b) (k:=m) (by omega);refine bw h rfl rfl ?_;refine bw f rfl rfl ?_;refine af (fun r=>?_) (fun r=>?_)
  ·exact aO rfl (j3 C.bool (aD fun e=>cq h f ((fun e=>by subst e;simp[lS] at r)) (by rw[e])))
  refine Fit.aad (by omega) (by omega) ?_;exact⟨(m+1,()),⟨c,bX d h f (by rcases t with⟨⟩;rcases y with⟨⟩;simp[lS] at r;simp[r])⟩,⟨bn,trivial⟩,trivial,bq c⟩
 ·have o:¬m<a.length:=by rw[bQ] at o;omega
  have s:a=b:=bW (n:=m) (by omega) (by omega) d;exact aO rfl (j3 C.bool (dF s))
theorem U6 {x y:Ac}(a:x.number=y.number) (f:x.routine=y.routine) (c:x.block=y.block) (b:x.index=y.index) (e:x.dst=y.dst) (d:x.slots=y.slots) (h:x.since=y.since):x=y:=by
 rcases x with⟨⟩
 rcases y with⟨⟩
 simp_all
theorem Za (x y:Ac):dI 122 [.agg (Cx x),.agg (Cx y)] (x=y):=by
 refine aq Tryz.func122 KG rfl fun hw _=>?_;have u:Wf (.sl (x.slots.map n9)):=hw.1.2.2.2.2.2.1;refine af (fun o=>?_) (fun o=>?_)
 ·exact aO rfl (j3 C.bool (aD fun e=>(lJ o) (by rw[e])))
 refine af (fun t=>?_) (fun t=>?_)
 ·exact aO rfl (j3 C.bool (aD fun e=>(lJ t) (by rw[e])))
 refine af (fun p=>?_) (fun p=>?_)
 ·exact aO rfl (j3 C.bool (aD fun e=>(lJ p) (by rw[e])))
 refine af (fun v=>?_) (fun v=>?_)
 ·exact aO rfl (j3 C.bool (aD fun e=>(lJ v) (by rw[e])))
 refine af (fun w=>?_) (fun w=>?_)
 ·exact aO rfl (j3 C.bool (aD fun e=>(lJ w) (by rw[e])))
 refine af (fun m=>?_) (fun m=>?_)
 ·exact aO rfl (j3 C.bool (aD fun e=>(jw (by have q:=lJ m;rwa [bQ,bQ] at q)) (by rw[e])))
 have m:=iA m;refine bM (Pz x.since y.since) rfl fun _=>?_;refine af (fun r=>?_) (fun r=>?_)
 ·exact aO rfl (j3 C.bool (aD fun e=>(wR r) (by rw[e])))
 refine aZ x.slots.length 5 [] () (fun _=>[]) (fun _=>[]) (fun k _=>∀j<k,x.slots[j]?=y.slots[j]?) (fun j hj=>p7 hj (by omega)) (aj rfl) trivial trivial (fun _=>rfl) (fun _=>rfl) ?_;rintro f ⟨⟩ ad b _ _ _;refine aK (fun a=>?_) (fun h=>?_)
 ·have a:f<x.slots.length:=by rw[bQ] at a;omega
  have ae:=bA u;obtain⟨xA,d⟩:=aS a;obtain⟨yA,c⟩:=aS (l:=y.slots) (k:=f) (by omega);refine rS d ?_;refine rS c ?_;refine eK (Y8 xA yA) rfl fun _=>?_;refine af (fun s=>?_) (fun s=>?_)
  ·exact aO rfl (j3 C.bool (aD fun e=>cq d c (wR s) (by rw[e])))
  refine Fit.aad (by omega) (by omega) ?_;exact⟨(f+1,()),⟨a,bX b d c (wS s)⟩,⟨bn,trivial⟩,trivial,bq a⟩
 ·have h:¬f<x.slots.length:=by rw[bQ] at h;omega
  have z:x.slots=y.slots:=bW (n:=f) (by omega) (by omega) b;exact aO rfl (j3 C.bool (dF (U6 (rR o) (rR t) (rR p) (rR v) (rR w) z (wS r))))
theorem U7 {x y:Tk}(a:x.state=y.state) (f:x.frames=y.frames) (c:x.loans=y.loans) (b:x.allocs=y.allocs) (e:x.clock=y.clock) (d:x.next=y.next) (h:x.cells=y.cells):x=y:=by
 rcases x with⟨⟩
 rcases y with⟨⟩
 simp_all
theorem t95 (x y:Tk):dI 95 [.agg (z8 x),.agg (z8 y)] (x=y):=by
 refine aq Tryz.func95 OV rfl fun hw _=>?_;have ae:Wf (.sl (x.frames.map Cx)):=hw.1.2.1;have am:Wf (.sl (x.loans.map I6)):=hw.1.2.2.1;refine af (fun z=>?_) (fun z=>?_)
 ·exact aO rfl (j3 C.bool (aD fun e=>(lJ z) (by rw[e])))
 refine af (fun h1=>?_) (fun h1=>?_)
 ·exact aO rfl (j3 C.bool (aD fun e=>(lJ h1) (by rw[e])))
 refine af (fun h2=>?_) (fun h2=>?_)
 ·exact aO rfl (j3 C.bool (aD fun e=>(lJ h2) (by rw[e])))
 refine af (fun h3=>?_) (fun h3=>?_)
 ·exact aO rfl (j3 C.bool (aD fun e=>(lJ h3) (by rw[e])))
 refine bM (Pz x.cells y.cells) rfl fun _=>?_;refine af (fun h4=>?_) (fun h4=>?_)
 ·exact aO rfl (j3 C.bool (aD fun e=>(wR h4) (by rw[e])))
 refine af (fun w=>?_) (fun w=>?_)
 ·exact aO rfl (j3 C.bool (aD fun e=>(jw (by have q:=lJ w;rwa [bQ,bQ] at q)) (by rw[e])))
 have w:=iA w;refine af (fun u=>?_) (fun u=>?_)
 ·exact aO rfl (j3 C.bool (aD fun e=>(jw (by have q:=lJ u;rwa [bQ,bQ] at q)) (by rw[e])))
 have u:=iA u;refine aZ x.frames.length 5 [] () (fun _=>[]) (fun _=>[]) (fun k _=>∀j<k,x.frames[j]?=y.frames[j]?) (fun j hj=>p7 hj (by omega)) (aj rfl) trivial trivial (fun _=>rfl) (fun _=>rfl) ?_;rintro s ⟨⟩ aw d _ _ _;refine aK (fun a=>?_) (fun t=>?_)
 ·have a:s<x.frames.length:=by rw[bQ] at a;omega
  have az:=bA ae;obtain⟨xA,h⟩:=aS a;obtain⟨yA,f⟩:=aS (l:=y.frames) (k:=s) (by omega);refine bw h rfl rfl ?_;refine bw f rfl rfl ?_;refine eK (Za xA yA) rfl fun _=>?_;refine af (fun h8=>?_) (fun h8=>?_)
  ·exact aO rfl (j3 C.bool (aD fun e=>cq h f (wR h8) (by rw[e])))
  refine Fit.aad (by omega) (by omega) ?_;exact⟨(s+1,()),⟨a,bX d h f (wS h8)⟩,⟨bn,trivial⟩,trivial,bq a⟩
 ·have t:¬s<x.frames.length:=by rw[bQ] at t;omega
  have eA:x.frames=y.frames:=bW (n:=s) (by omega) (by omega) d;refine aZ x.loans.length 6 [] () (fun _=>[]) (fun _=>[]) (fun k _=>∀j<k,x.loans[j]?=y.loans[j]?) (fun j hj=>p7 hj (by omega)) (aj rfl) trivial trivial (fun _=>rfl) (fun _=>rfl) ?_;rintro p ⟨⟩ ay c _ _ _;refine aK (fun b=>?_) (fun r=>?_)
  ·have b:p<x.loans.length:=by rw[bQ] at b;omega
   have ap:=bA am;obtain⟨xB,o⟩:=aS b;obtain⟨yB,m⟩:=aS (l:=y.loans) (k:=p) (by omega);refine bw o rfl rfl ?_;refine bw m rfl rfl ?_;refine af (fun v=>?_) (fun v=>?_)
   ·exact aO rfl (j3 C.bool (aD fun e=>cq o m ((fun e=>by subst e;simp[lS] at v)) (by rw[e])))
   refine Fit.aad (by omega) (by omega) ?_;exact⟨(p+1,()),⟨b,bX c o m (by rcases xB with⟨⟩;rcases yB with⟨⟩;simp[lS] at v;simp[v])⟩,⟨bn,trivial⟩,trivial,bq b⟩
  ·have r:¬p<x.loans.length:=by rw[bQ] at r;omega
   have eB:x.loans=y.loans:=bW (n:=p) (by omega) (by omega) c;exact aO rfl (j3 C.bool (dF (U7 (rR z) eA eB (rR h1) (rR h2) (rR h3) (wS h4))))
theorem U8 {x y:Wd}(b:x.cells=y.cells/\x.arenas=y.arenas) (d:x.tasks=y.tasks) (c:x.channels=y.channels) (f:x.outputs=y.outputs) (e:x.made=y.made) (h:x.dropped=y.dropped) (a:x.closed=y.closed):x=y:=by
 rcases x with⟨⟩
 rcases y with⟨⟩
 simp_all
theorem PA {c:Type}{a b:List c}{k:Nat}{x y:c}(e:a[k]?=some x) (d:b[k]?=some y) (h:¬x=y):a≠b:=cq e d h
theorem t58 (i1 i2 j1 j2:List (List C)) (im jm:Int) (x y:Wd):dI 58 [.agg (uX i1 i2 im x),.agg (uX j1 j2 jm y)] (x=y):=by
 refine aq Tryz.func58 Ox rfl fun hw _=>?_;have ax:Wf (.sl (x.tasks.map z8)):=hw.1.2.2.2.2.2.1;have ag:Wf (.sl (x.channels.map Iy)):=hw.1.2.2.2.2.2.2.1;refine bM (t93 x.cells y.cells x.arenas y.arenas) rfl fun _=>?_;refine af (fun h0=>?_) (fun h0=>?_)
 ·exact aO rfl (j3 C.bool (aD fun e=>(wR h0) (by rw[e];exact⟨rfl,rfl⟩)))
 refine af (fun h1=>?_) (fun h1=>?_)
 ·exact aO rfl (j3 C.bool (aD fun e=>(jw (by have q:=lJ h1;rwa [bQ,bQ] at q)) (by rw[e])))
 have h1:=iA h1;refine af (fun h2=>?_) (fun h2=>?_)
 ·exact aO rfl (j3 C.bool (aD fun e=>(jw (by have q:=lJ h2;rwa [bQ,bQ] at q)) (by rw[e])))
 have h2:=iA h2;refine bM (t94 x.outputs y.outputs) rfl fun _=>?_;refine af (fun h3=>?_) (fun h3=>?_)
 ·exact aO rfl (j3 C.bool (aD fun e=>(wR h3) (by rw[e])))
 refine af (fun h4=>?_) (fun h4=>?_)
 ·exact aO rfl (j3 C.bool (aD fun e=>(lJ h4) (by rw[e])))
 refine af (fun h5=>?_) (fun h5=>?_)
 ·exact aO rfl (j3 C.bool (aD fun e=>(lJ h5) (by rw[e])))
 refine af (fun h6=>?_) (fun h6=>?_)
 ·exact aO rfl (j3 C.bool (aD fun e=>(lJ h6) (by rw[e])))
 refine aZ x.tasks.length 5 [] () (fun _=>[]) (fun _=>[]) (fun k _=>∀j<k,x.tasks[j]?=y.tasks[j]?) (fun j hj=>p7 hj (by omega)) (aj rfl) trivial trivial (fun _=>rfl) (fun _=>rfl) ?_;rintro kA ⟨⟩ bk o _ _ _;refine aK (fun c=>?_) (fun ae=>?_)
 ·have c:kA<x.tasks.length:=by rw[bQ] at c;omega
  have bx:=bA ax;obtain⟨xA,u⟩:=aS c;obtain⟨yA,s⟩:=aS (l:=y.tasks) (k:=kA) (by omega);refine bw u rfl rfl ?_;refine bw s rfl rfl ?_;refine eK (t95 xA yA) rfl fun _=>?_;refine af (fun h8=>?_) (fun h8=>?_)
  ·exact aO rfl (j3 C.bool (aD fun e=>cq u s (wR h8) (by rw[e])))
  refine Fit.aad (by omega) (by omega) ?_;exact⟨(kA+1,()),⟨c,bX o u s (wS h8)⟩,⟨bn,trivial⟩,trivial,bq c⟩
 ·have ae:¬kA<x.tasks.length:=by rw[bQ] at ae;omega
  have eA:x.tasks=y.tasks:=bW (n:=kA) (by omega) (by omega) o;refine aZ x.channels.length 6 [] () (fun _=>[]) (fun _=>[]) (fun k _=>∀j<k,x.channels[j]?=y.channels[j]?) (fun j hj=>p7 hj (by omega)) (aj rfl) trivial trivial (fun _=>rfl) (fun _=>rfl) ?_;rintro w ⟨⟩ bv m _ _ _;refine aK (fun f=>?_) (fun aa=>?_)
  ·have f:w<x.channels.length:=by rw[bQ] at f;omega
   have bc:=bA ag;obtain⟨v,a⟩:=aS f;obtain⟨yB,d⟩:=aS (l:=y.channels) (k:=w) (by omega);have ar:Wf (.sl (v.map n9)):=(nX ag (aaS a)).1;refine bw a rfl rfl ?_;refine bw d rfl rfl ?_;refine af (fun h9=>?_) (fun h9=>?_)
   ·exact aO rfl (j3 C.bool (aD fun e=>cq a d (fun e2=>(jw (by have q:=lJ h9;rwa [bQ,bQ] at q)) (by rw[e2])) (by rw[e])))
   have h9:=iA h9;refine aZ v.length 7 [] () (fun _=>[]) (fun _=>[]) (fun k _=>∀j<k,v[j]?=yB[j]?) (fun j hj=>p7 hj (by omega)) (aj rfl) trivial trivial (fun _=>rfl) (fun _=>rfl) ?_;rintro z ⟨⟩ bl h _ _ _;refine bw a rfl rfl ?_;refine aK (fun b=>?_) (fun ac=>?_)
   ·have b:z<v.length:=by rw[bQ] at b;omega
    have bd:=bA ar;obtain⟨xC,t⟩:=aS b;obtain⟨yC,p⟩:=aS (l:=yB) (k:=z) (by omega);refine bw a rfl rfl ?_;refine rS t ?_;refine bw d rfl rfl ?_;refine rS p ?_;refine eK (Y8 xC yC) rfl fun _=>?_;refine af (fun r=>?_) (fun r=>?_)
    ·exact aO rfl (j3 C.bool (aD fun e=>cq a d (PA t p (wR r)) (by rw[e])))
    refine Fit.aad (by omega) (by omega) ?_;exact⟨(z+1,()),⟨b,bX h t p (wS r)⟩,⟨bn,trivial⟩,trivial,bq b⟩
   ·have ac:¬z<v.length:=by rw[bQ] at ac;omega
    have eC:v=yB:=bW (n:=z) (by omega) (by omega) h;refine Fit.aad (by omega) (by omega) ?_;exact⟨(w+1,()),⟨f,bX m a d (eC)⟩,⟨bn,trivial⟩,trivial,bq f⟩
  ·have aa:¬w<x.channels.length:=by rw[bQ] at aa;omega
   have eB:x.channels=y.channels:=bW (n:=w) (by omega) (by omega) m;exact aO rfl (j3 C.bool (dF (U8 (wS h0) eA eB (wS h3) (rR h4) (rR h5) (rR h6))))
theorem t16 (i j:wG) (x y:Wd):dI 16 [.agg (IU i x),.agg (IU j y)] (i=j/\x=y):=by
 refine aq Tryz.func16 NT rfl fun b _=>?_;refine bM (t57 i j) rfl fun _=>?_;refine af (fun a=>?_) (fun a=>aO rfl (j3 C.bool (aD fun e=>kS a e.1)));refine bM (t58 _ _ _ _ _ _ x y) rfl fun _=>?_;exact aO rfl (j3 C.bool (iy ⟨fun h=>⟨jY a,h⟩,fun e=>e.2⟩))
abbrev Ev (f:Nat) (args:List C):Prop:=CallsT PZ f args [] (Such True)
theorem U9:∀(n:Nat) (x:Vl) (l:Int),SizeOf.sizeOf x<n->Al 71 [I3 x,IC l]
 | 0,x,l,h=>p7 h (by omega)
 | n+1,x,l,h=>by
  have o:∀z∈x.fs,∀m,Al 71 [I3 z,IC m]:=fun z r m=>U9 n z m (by have:=LW r;omega);refine aq Tryz.func71 OI rfl fun j _=>?_;have d:Wf (.sl (x.fs.map n9)):=j.1.2.2.2.2.1;refine aZ x.fs.length 6 [5] (_:Int) (fun n=>[IC n]) (fun _=>[]) (fun _ _=>True) trivial (aj rfl) ⟨aj rfl,trivial⟩ trivial (fun _=>rfl) (fun _=>rfl) ?_;rintro e s k _ _ _ _;refine aK (fun a=>?_) (fun q=>?_)
  ·refine aK (fun c=>?_) (fun c=>?_)
   ·have a:e<x.fs.length:=by rw[bQ] at a;omega
    have p:=bA d;obtain⟨f,b⟩:=aS a;refine rS b ?_;refine Fit.mk ?_;refine u6 (o f (aaS b) _) rfl fun m=>?_;refine Fit.mk ?_;refine Fit.aad (by omega) (by omega) ?_;exact⟨(e+1,_),⟨a,trivial⟩,⟨bn,⟨aj rfl,trivial⟩⟩,trivial,bq a⟩
   skip
   exact zb _ rfl rfl
  ·skip
   exact zb _ rfl rfl
theorem VB (x:Vl) (l:Int):Al 71 [I3 x,IC l]:=U9 _ x l (abH _)
def ZC:Vl:=.mk 0 0 0 0 [] false [] []
theorem ZD (l:List Int):Ev 69 [.sl (qK l)]:=by
 refine aq Tryz.func69 OG rfl fun d _=>?_;refine aZ l.length 3 [] () (fun _=>[]) (fun _=>[]) (fun _ _=>True) trivial (aj rfl) trivial trivial (fun _=>rfl) (fun _=>rfl) ?_;rintro c j e _ _ _ _;refine aK (fun a=>?_) (fun f=>?_)
 ·have a:c<l.length:=by rw[zD] at a;omega
  have h:=(bA d.1:l.length<=_);obtain⟨k,b⟩:=aS a;refine Cv b ?_;refine af (fun _=>?_) (fun _=>?_)
  ·exact iG _ rfl rfl fun _=>trivial
  refine Cv b ?_;refine af (fun _=>?_) (fun _=>?_)
  ·exact iG _ rfl rfl fun _=>trivial
  refine Fit.aad (by omega) (by omega) ?_;exact⟨(c+1,()),⟨a,trivial⟩,⟨bn,trivial⟩,trivial,bq a⟩
 ·skip
  exact iG _ rfl rfl fun _=>trivial
theorem ZE (l:List Vl):Ev 70 [.sl (l.map n9)]:=by
 refine aq Tryz.func70 OH rfl fun d _=>?_;refine aZ l.length 3 [] () (fun _=>[]) (fun _=>[]) (fun _ _=>True) trivial (aj rfl) trivial trivial (fun _=>rfl) (fun _=>rfl) ?_;rintro c k h _ _ _ _;refine aK (fun a=>?_) (fun f=>?_)
 ·have a:c<l.length:=by rw[bQ] at a;omega
  have j:=bA d.1;obtain⟨e,b⟩:=aS a;refine rS b ?_;refine u6 (VB e 60) rfl fun m=>?_;refine af (fun _=>?_) (fun _=>?_)
  ·exact iG _ rfl rfl fun _=>trivial
  refine Fit.aad (by omega) (by omega) ?_;exact⟨(c+1,()),⟨a,trivial⟩,⟨bn,trivial⟩,trivial,bq a⟩
 ·skip
  exact iG _ rfl rfl fun _=>trivial
theorem t68 (a:List Ce) (p:List Bool):Ev 68 [.agg [.sl (a.map wO),.sl (p.map EH)],I3 ZC]:=by
 refine aq Tryz.func68 OE rfl fun f _=>?_;have d:Wf (.sl (a.map wO)):=f.1.1;refine af (fun _=>?_) (fun _=>?_)
 ·exact iG _ rfl rfl fun _=>trivial
 refine af (fun _=>?_) (fun _=>?_)
 ·exact iG _ rfl rfl fun _=>trivial
 refine u6 (VB ZC 60) rfl fun m=>?_;refine af (fun _=>?_) (fun _=>?_)
 ·exact iG _ rfl rfl fun _=>trivial
 refine aZ a.length 5 [] () (fun _=>[]) (fun _=>[]) (fun _ _=>True) trivial (aj rfl) trivial trivial (fun _=>rfl) (fun _=>rfl) ?_;rintro e n k _ _ _ _;refine aK (fun b=>?_) (fun j=>?_)
 ·have b:e<a.length:=by rw[bQ] at b;omega
  have l:=bA d;obtain⟨h,c⟩:=aS b;refine G9 c ?_;refine u6 (VB h.value 60) rfl fun m=>?_;refine af (fun _=>?_) (fun _=>?_)
  ·exact iG _ rfl rfl fun _=>trivial
  refine Fit.aad (by omega) (by omega) ?_;exact⟨(e+1,()),⟨b,trivial⟩,⟨bn,trivial⟩,trivial,bq b⟩
 ·skip
  exact iG _ rfl rfl fun _=>trivial
theorem Va:∀(n:Nat) (x:Vl),SizeOf.sizeOf x<n->Ev 26 [I3 x]
 | 0,x,h=>p7 h (by omega)
 | n+1,x,h=>by
  have k:∀z∈x.fs,Ev 26 [I3 z]:=fun z p=>Va n z (by have:=LW p;omega);refine aq Tryz.func26 N8 rfl fun f _=>?_;have c:Wf (.sl (x.fs.map n9)):=f.1.2.2.2.2.1;refine aZ x.fs.length 3 [] () (fun _=>[]) (fun _=>[]) (fun _ _=>True) trivial (aj rfl) trivial trivial (fun _=>rfl) (fun _=>rfl) ?_;rintro d q j _ _ _ _;refine aK (fun a=>?_) (fun o=>?_)
  ·have a:d<x.fs.length:=by rw[bQ] at a;omega
   have l:=bA c;obtain⟨e,b⟩:=aS a;refine rS b ?_;refine qF (k e (aaS b)) rfl fun r _=>?_;refine af (fun _=>?_) (fun _=>?_)
   ·exact iG _ rfl rfl fun _=>trivial
   refine Fit.aad (by omega) (by omega) ?_;exact⟨(d+1,()),⟨a,trivial⟩,⟨bn,trivial⟩,trivial,bq a⟩
  ·skip
   refine af (fun _=>?_) (fun _=>iG _ rfl rfl fun _=>trivial);refine af (fun _=>?_) (fun _=>iG _ rfl rfl fun _=>trivial);refine u6 (VB x 60) rfl fun m=>?_;exact iG _ rfl rfl fun _=>trivial
theorem Zb (x:Vl):Ev 26 [I3 x]:=Va _ x (abH _)
theorem t25 (i1 v:List (List C)) (im:Int) (x:Wd):Ev 25 [.agg (uX i1 v im x)]:=by
 refine aq Tryz.func25 N7 rfl fun o _=>?_;have f:Wf (.sl (x.tasks.map z8)):=o.1.2.2.2.2.2.1;have l:Wf (.sl (x.channels.map Iy)):=o.1.2.2.2.2.2.2.1;refine qF (t68 x.cells x.arenas) rfl fun b1 _=>?_;refine af (fun _=>?_) (fun _=>?_)
 ·exact iG _ rfl rfl fun _=>trivial
 refine af (fun _=>?_) (fun _=>?_)
 ·exact iG _ rfl rfl fun _=>trivial
 refine af (fun _=>?_) (fun _=>?_)
 ·exact iG _ rfl rfl fun _=>trivial
 refine af (fun _=>?_) (fun _=>?_)
 ·exact iG _ rfl rfl fun _=>trivial
 refine af (fun _=>?_) (fun _=>?_)
 ·exact iG _ rfl rfl fun _=>trivial
 refine qF (ZD [x.made,x.dropped,x.closed]) rfl fun b2 _=>?_;refine af (fun _=>?_) (fun _=>?_)
 ·exact iG _ rfl rfl fun _=>trivial
 refine aZ x.tasks.length 3 [] () (fun _=>[]) (fun _=>[]) (fun _ _=>True) trivial (aj rfl) trivial trivial (fun _=>rfl) (fun _=>rfl) ?_;rintro p lA t _ _ _ _;refine aK (fun c=>?_) (fun ad=>?_)
 ·have c:p<x.tasks.length:=by rw[bQ] at c;omega
  have aa:=bA f;obtain⟨e,a⟩:=aS c;have k:Wf (.sl (e.frames.map Cx)):=(nX f (aaS a)).2.1;refine bw a rfl rfl ?_;refine af (fun _=>?_) (fun _=>?_)
  ·exact iG _ rfl rfl fun _=>trivial
  refine bw a rfl rfl ?_;refine af (fun _=>?_) (fun _=>?_)
  ·exact iG _ rfl rfl fun _=>trivial
  refine bw a rfl rfl ?_;refine af (fun _=>?_) (fun _=>?_)
  ·exact iG _ rfl rfl fun _=>trivial
  refine bw a rfl rfl ?_;refine bw a rfl rfl ?_;refine bw a rfl rfl ?_;refine Si (ZD [e.allocs,e.clock,e.next]) rfl fun b3 _=>?_;refine af (fun _=>?_) (fun _=>?_)
  ·exact iG _ rfl rfl fun _=>trivial
  refine aZ e.frames.length 4 [] () (fun _=>[]) (fun _=>[]) (fun _ _=>True) trivial (aj rfl) trivial trivial (fun _=>rfl) (fun _=>rfl) ?_;rintro m lB z _ _ _ _;refine bw a rfl rfl ?_;refine aK (fun d=>?_) (fun s=>?_)
  ·have d:m<e.frames.length:=by rw[bQ] at d;omega
   have r:=bA k;obtain⟨xB,h⟩:=aS d;refine bw a rfl rfl ?_;refine bw h rfl rfl ?_;refine qF (ZE xB.slots) rfl fun b4 _=>?_;refine af (fun _=>?_) (fun _=>?_)
   ·exact iG _ rfl rfl fun _=>trivial
   refine bw a rfl rfl ?_;refine bw h rfl rfl ?_;refine af (fun _=>?_) (fun _=>?_)
   ·exact iG _ rfl rfl fun _=>trivial
   refine Fit.aad (by omega) (by omega) ?_;exact⟨(m+1,()),⟨d,trivial⟩,⟨bn,trivial⟩,trivial,bq d⟩
  ·skip
   refine Fit.aad (by omega) (by omega) ?_;exact⟨(p+1,()),⟨c,trivial⟩,⟨bn,trivial⟩,trivial,bq c⟩
 ·skip
  refine aZ x.channels.length 5 [] () (fun _=>[]) (fun _=>[]) (fun _ _=>True) trivial (aj rfl) trivial trivial (fun _=>rfl) (fun _=>rfl) ?_;rintro n lC u _ _ _ _;refine aK (fun b=>?_) (fun w=>?_)
  ·have b:n<x.channels.length:=by rw[bQ] at b;omega
   have q:=bA l;obtain⟨y,j⟩:=aS b;refine bw j rfl rfl ?_;refine qF (ZE y) rfl fun b5 _=>?_;refine af (fun _=>?_) (fun _=>?_)
   ·exact iG _ rfl rfl fun _=>trivial
   refine Fit.aad (by omega) (by omega) ?_;exact⟨(n+1,()),⟨b,trivial⟩,⟨bn,trivial⟩,trivial,bq b⟩
  ·skip
   exact iG _ rfl rfl fun _=>trivial
theorem t8 (j:wG) (x:Wd):Ev 8 [.agg (IU j x)]:=by
 refine aq Tryz.func8 Sc rfl fun q _=>?_;have v:Wf (.sl (x.cells.map wO)):=q.1.2.2.2.1;have n:Wf (.sl (x.tasks.map z8)):=q.1.2.2.2.2.2.1;have o:Wf (.sl (x.channels.map Iy)):=q.1.2.2.2.2.2.2.1;refine qF (t25 _ _ _ x) rfl fun b1 _=>?_;refine af (fun _=>?_) (fun _=>?_)
 ·exact iG _ rfl rfl fun _=>trivial
 refine qF (t9 j) rfl fun b2 _=>?_;refine af (fun _=>?_) (fun _=>?_)
 ·exact iG _ rfl rfl fun _=>trivial
 refine af (fun _=>?_) (fun _=>?_)
 ·exact iG _ rfl rfl fun _=>trivial
 refine aZ x.cells.length 3 [] () (fun _=>[]) (fun _=>[]) (fun _ _=>True) trivial (aj rfl) trivial trivial (fun _=>rfl) (fun _=>rfl) ?_;rintro kA lA av _ _ _ _;refine aK (fun d=>?_) (fun bj=>?_)
 ·have d:kA<x.cells.length:=by rw[bQ] at d;omega
  have bd:=bA v;obtain⟨xA,u⟩:=aS d;refine G9 u ?_;refine qF (Zb xA.value) rfl fun b3 _=>?_;refine af (fun _=>?_) (fun _=>?_)
  ·exact iG _ rfl rfl fun _=>trivial
  refine Fit.aad (by omega) (by omega) ?_;exact⟨(kA+1,()),⟨d,trivial⟩,⟨bn,trivial⟩,trivial,bq d⟩
 ·skip
  refine aZ x.tasks.length 4 [] () (fun _=>[]) (fun _=>[]) (fun _ _=>True) trivial (aj rfl) trivial trivial (fun _=>rfl) (fun _=>rfl) ?_;rintro kB lB bb _ _ _ _;refine aK (fun e=>?_) (fun ar=>?_)
  ·have e:kB<x.tasks.length:=by rw[bQ] at e;omega
   have am:=bA n;obtain⟨z,h⟩:=aS e;have m:Wf (.sl (z.frames.map Cx)):=(nX n (aaS h)).2.1;refine aZ z.frames.length 5 [] () (fun _=>[]) (fun _=>[]) (fun _ _=>True) trivial (aj rfl) trivial trivial (fun _=>rfl) (fun _=>rfl) ?_;rintro kD lD ba _ _ _ _;refine bw h rfl rfl ?_;refine aK (fun f=>?_) (fun bk=>?_)
   ·have f:kD<z.frames.length:=by rw[bQ] at f;omega
    have ao:=bA m;obtain⟨t,l⟩:=aS f;have y:Wf (.sl (t.slots.map n9)):=(nX m (aaS l)).2.2.2.2.2.1;refine aZ t.slots.length 6 [] () (fun _=>[]) (fun _=>[]) (fun _ _=>True) trivial (aj rfl) trivial trivial (fun _=>rfl) (fun _=>rfl) ?_;rintro kE lE bi _ _ _ _;refine bw h rfl rfl ?_;refine bw l rfl rfl ?_;refine aK (fun b=>?_) (fun bl=>?_)
    ·have b:kE<t.slots.length:=by rw[bQ] at b;omega
     have bc:=bA y;obtain⟨xE,r⟩:=aS b;refine bw h rfl rfl ?_;refine bw l rfl rfl ?_;refine rS r ?_;refine qF (Zb xE) rfl fun b4 _=>?_;refine af (fun _=>?_) (fun _=>?_)
     ·exact iG _ rfl rfl fun _=>trivial
     refine Fit.aad (by omega) (by omega) ?_;exact⟨(kE+1,()),⟨b,trivial⟩,⟨bn,trivial⟩,trivial,bq b⟩
    ·skip
     refine Fit.aad (by omega) (by omega) ?_;exact⟨(kD+1,()),⟨f,trivial⟩,⟨bn,trivial⟩,trivial,bq f⟩
   ·skip
    refine Fit.aad (by omega) (by omega) ?_;exact⟨(kB+1,()),⟨e,trivial⟩,⟨bn,trivial⟩,trivial,bq e⟩
  ·skip
   refine aZ x.channels.length 7 [] () (fun _=>[]) (fun _=>[]) (fun _ _=>True) trivial (aj rfl) trivial trivial (fun _=>rfl) (fun _=>rfl) ?_;rintro kC lC aw _ _ _ _;refine aK (fun a=>?_) (fun az=>?_)
   ·have a:kC<x.channels.length:=by rw[bQ] at a;omega
    have al:=bA o;obtain⟨w,k⟩:=aS a;have p:Wf (.sl (w.map n9)):=(nX o (aaS k)).1;refine aZ w.length 8 [] () (fun _=>[]) (fun _=>[]) (fun _ _=>True) trivial (aj rfl) trivial trivial (fun _=>rfl) (fun _=>rfl) ?_;rintro kG lG be _ _ _ _;refine bw k rfl rfl ?_;refine aK (fun c=>?_) (fun ay=>?_)
    ·have c:kG<w.length:=by rw[bQ] at c;omega
     have ap:=bA p;obtain⟨xG,s⟩:=aS c;refine bw k rfl rfl ?_;refine rS s ?_;refine qF (Zb xG) rfl fun b5 _=>?_;refine af (fun _=>?_) (fun _=>?_)
     ·exact iG _ rfl rfl fun _=>trivial
     refine Fit.aad (by omega) (by omega) ?_;exact⟨(kG+1,()),⟨c,trivial⟩,⟨bn,trivial⟩,trivial,bq c⟩
    ·skip
     refine Fit.aad (by omega) (by omega) ?_;exact⟨(kC+1,()),⟨a,trivial⟩,⟨bn,trivial⟩,trivial,bq a⟩
   ·skip
    exact iG _ rfl rfl fun _=>trivial
end Go.Fr.Tryz
namespace Go.Fr.Tryz
open Go Go.Fr.T
structure RT {α:Type}(d:Dec α) (e:α->Enc):Prop where
 wr:∀x r,(e x).2=true->d ((e x).1++r)=some (x,r)
 rd:∀l x r,d l=some (x,r)->(e x).2=true/\l=(e x).1++r
theorem fD {a b:Enc}:(bD a b).2=true↔a.2=true/\b.2=true:=by simp[bD]
theorem nY {a b:Enc}:(bD a b).1=a.1++b.1:=rfl
theorem fj {b c:Type}{f:Dec b}{k:b->Dec c}{l r:List UInt8}{y:c}(h:gB f k l=some (y,r)):∃x a,f l=some (x,a)/\k x a=some (y,r):=by
 unfold gB at h;split at h
 ·cases h
 ·rename_i x a e;exact⟨x,a,e,h⟩
theorem S2 (z:Nat):zz (I7 z)=z:=by
 unfold I7 zz;split
 ·split<;>omega
 ·split<;>omega
theorem Ew:∀(f k z:Nat) (l:List UInt8) (n:Int) (r:List UInt8),mr f k z l=some (n,r)->∃w,l=bV w++r/\n=I7 (z+w*128 ^ k)/\(0<w\/k=0)
 | 0,k,z,l,n,r,h=>by cases h
 | f+1,k,z,[],n,r,h=>by cases h
 | f+1,k,z,c::l,n,r,h=>by
  simp only[mr] at h;split at h
  ·rename_i d;split at h
   ·rename_i e;injection h with h
    injection h with b a
    subst b a;refine⟨c.toNat,?_,rfl,e⟩;rw[bV,dif_pos d];simp
   ·cases h
  ·rename_i d;obtain⟨w,b,a,q⟩:=Ew f (k+1) _ l n r h;have p:0<w:=by omega
   have m:=c.toNat_lt;refine⟨(c.toNat-128)+128*w,?_,?_,.inl (by omega)⟩
   ·rw[bV,dif_neg (by omega),b];have j:(c.toNat-128+128*w) / 128=w:=by omega
    have o:128+(c.toNat-128+128*w) % 128=c.toNat:=by omega
    rw[j,o];simp
   ·rw[a];congr 1;rw[Nat.pow_succ,Nat.add_mul,Nat.add_assoc,Nat.mul_comm (128 ^ k) 128,<-Nat.mul_assoc,Nat.mul_comm 128 w]
theorem He {l r:List UInt8}{n:Int}(h:getD l=some (n,r)):l=bV (zz n)++r:=by
 obtain⟨w,b,a,c⟩:=Ew 6 0 0 l n r h;have e:n=I7 w:=by rw[a];simp
 rw[e,S2];exact b
theorem iJ:RT gM kW.num:=by
 refine⟨fun n r h=>?_,fun l n r h=>?_⟩
 ·have a:(decide (-1099511627776<=n)&&decide (n<=1099511627776))=true:=h;simp only[yo,abw] at a;show gM (bV (zz n)++r)=_;simp only[gM,mB n r a.1 a.2];rw[o6 ⟨a.1,a.2⟩]
 ·unfold gM at h;split at h
  ·rename_i b c e;split at h
   ·rename_i hb;injection h with h
    injection h with h1 h2
    subst h1 h2;refine⟨?_,He e⟩;show(decide (-1099511627776<=b)&&decide (b<=1099511627776))=true;simp only[yo,abw];exact hb
   ·cases h
  ·cases h
theorem rT:RT oO (oe kW):=by
 refine⟨fun b r h=>?_,fun l b r h=>?_⟩
 ·have a:=iJ.wr (if b=true then 1 else 0) r h;unfold oO;rw[show oe kW b=kW.num (if b=true then 1 else 0) from rfl,a];cases b<;>simp
 ·unfold oO at h;split at h
  ·rename_i d c e;split at h
   ·rename_i hb;injection h with h
    injection h with a h2
    subst a h2;have:=iJ.rd _ _ _ e;rcases hb with rfl | rfl
    ·exact this
    ·exact this
   ·cases h
  ·cases h
theorem kU {a:Type}{d:Dec a}{e:a->Enc}(h:RT d e):∀(l:List a) (r:List UInt8),(aV e l).2=true->bH d l.length ((aV e l).1++r)=some (l,r)
 | [],r,_=>rfl
 | x::l,r,c=>by
  have b:=fD.1 c;have f:(aV e (x::l)).1=(e x).1++(aV e l).1:=rfl;rw[f,aaT];simp only[aaW,bH,h.wr x _ b.1,kU h l r b.2]
theorem kV {b:Type}{d:Dec b}{e:b->Enc}(h:RT d e):∀(n:Nat) (l:List UInt8) (xs:List b) (r:List UInt8),bH d n l=some (xs,r)->(aV e xs).2=true/\l=(aV e xs).1++r/\xs.length=n
 | 0,l,xs,r,a=>by
  injection a with a
  injection a with h1 h2
  subst h1 h2;exact⟨rfl,rfl,rfl⟩
 | n+1,l,xs,r,a=>by
  simp only[bH] at a;split at a
  case h_2=>cases a
  rename_i x f m;split at a
  case h_2=>cases a
  rename_i ys c o;injection a with a
  injection a with h1 h2
  subst h1 h2;obtain⟨s,q⟩:=h.rd l x f m;obtain⟨j,k,p⟩:=kV h n f ys c o;refine⟨fD.2 ⟨s,j⟩,?_,by simp[p]⟩;show l=(e x).1++(aV e ys).1++c;rw[q,k];simp
theorem CK {a:Type}{e:a->Enc}(h:∀x,1<=(e x).1.length):∀l:List a,l.length<=(aV e l).1.length
 | []=>by simp
 | x::l=>by
  have:=h x;have:=CK h l;show(x::l).length<=((e x).1++(aV e l).1).length;rw[aaR,aaW];omega
theorem gH {j:Type}{d:Dec j}{e:j->Enc}(h:RT d e) (s:∀x,1<=(e x).1.length):RT (dN d) (bT kW e):=by
 refine⟨fun l r f=>?_,fun bs l r f=>?_⟩
 ·have c:=fD.1 f;have p:(l.length:Int)<=100000:=aa7 c.1;have a:(bT kW e l).1=bV (zz l.length)++(aV e l).1:=rfl;have w:=CK s l;rw[a,aaT];have k:z9 (bV (zz l.length)++((aV e l).1++r))=some (l.length,(aV e l).1++r):=by
   simp only[z9,mB (l.length:Int) _ (by omega) (by omega)];rw[o6 ⟨by omega,p,by rw[aaR];omega⟩];rfl
  unfold dN;rw[aA k];exact kU h l r c.2
 ·obtain⟨n,r1,a,q⟩:=fj f;obtain⟨m,o,z⟩:=kV h _ _ _ _ q;unfold z9 at a;split at a
  case h_2=>cases a
  rename_i u v t;split at a
  case isFalse=>cases a
  rename_i y;injection a with a
  injection a with c h2
  subst h2;have b:(l.length:Int)=u:=by omega
  refine⟨fD.2 ⟨decide_eq_true (by omega),m⟩,?_⟩;show bs=bV (zz l.length)++(aV e l).1++r;rw[b,He t,o];simp
theorem sG (n:Int):1<=(kW.num n).1.length:=kR _
theorem Hf (b:Bool):1<=(oe kW b).1.length:=kR _
theorem oD:RT (dN gM) (bT kW kW.num):=gH iJ sG
theorem iS {c d:Type}{f:Dec c}{k:c->Dec d}{a b:Enc}{x:c}{y:d}{r:List UInt8}(h:(bD a b).2=true) (l:a.2=true->∀s,f (a.1++s)=some (x,s)) (j:b.2=true->k x (b.1++r)=some (y,r)):gB f k ((bD a b).1++r)=some (y,r):=by
 have e:=fD.1 h;rw[nY,aaT,aA (l e.1 _)];exact j e.2
theorem oE {b c:Type}{f:Dec b}{k:b->Dec c}{a:Enc}{x:b}{y:c}{r:List UInt8}(h:a.2=true) (e:a.2=true->∀s,f (a.1++s)=some (x,s)) (d:k x r=some (y,r)):gB f k (a.1++r)=some (y,r):=by
 rw[aA (e h r)];exact d
theorem Zc {e:Type}{l:List e}(h:l.length=4):∃a b c d,l=[a,b,c,d]:=by
 match l,h with
 | [a,b,c,d],_=>exact⟨a,b,c,d,rfl⟩
theorem LX {b:Type}{l:List b}(h:l.length=1):∃a,l=[a]:=by
 match l,h with
 | [a],_=>exact⟨a,rfl⟩
theorem Vb {c:Type}{l:List c}(h:l.length=2):∃a b,l=[a,b]:=by
 match l,h with
 | [a,b],_=>exact⟨a,b,rfl⟩
theorem S3 {d:Type}{l:List d}(h:l.length=3):∃a b c,l=[a,b,c]:=by
 match l,h with
 | [a,b,c],_=>exact⟨a,b,c,rfl⟩
theorem Zd {f:Type}{l:List f}(h:l.length=5):∃a b c d e,l=[a,b,c,d,e]:=by
 match l,h with
 | [a,b,c,d,e],_=>exact⟨a,b,c,d,e,rfl⟩
theorem oF {a:Type}{x y:a}{l r:List UInt8}(h:wP x l=some (y,r)):x=y/\l=r:=by
 injection h with h
 injection h with h1 h2
 exact⟨h1,h2⟩
theorem FK (v:Vl) (d:Int):1<=(s8 kW v d).1.length:=by
 cases v with
 | mk a b c n f e p l =>
  rw[s8];simp only[nY,aV,aaR];have:=sG a;omega
theorem QJ:∀d:Nat,RT (Ft d) (fun v=>s8 kW v d)
 | 0=>⟨fun v r h=>by
   cases v with
   | mk a b c n f e p l =>
    have j:(s8 kW (.mk a b c n f e p l) ((0:Nat):Int)).2=true:=h;rw[s8] at j;have:=(fD.1 j).1;exact p7 this (by decide),fun l x r h=>by cases h⟩
 | d+1=>by
  have k:RT (Ft d) (fun v=>s8 kW v (((d+1:Nat):Int)-1)):=by
   have e:((d+1:Nat):Int)-1=(d:Int):=by omega
   rw[e];exact QJ d
  refine⟨fun v r h=>?_,fun bs v r h=>?_⟩
  ·cases v with
   | mk a b c n f e p l =>
    have j:(s8 kW (.mk a b c n f e p l) ((d+1:Nat):Int)).2=true:=h;show Ft (d+1) ((s8 kW (.mk a b c n f e p l) ((d+1:Nat):Int)).1++r)=_;rw[s8,pJ] at j ⊢;have h1:=(fD.1 j).2;rw[nY];show Ft (d+1) ((bD (aV kW.num [a,b,c,n]) _).1++r)=_;unfold Ft;refine iS h1 (fun q s=>kU iJ _ _ q) fun o=>?_;refine iS o (fun q s=>(gH k (fun x=>FK x _)).wr f s q) fun h3=>?_;refine iS h3 (fun q s=>kU rT _ _ q) fun h4=>?_;refine iS h4 (fun q s=>oD.wr _ _ q) fun h5=>?_;exact oE h5 (fun q s=>oD.wr _ _ q) rfl
  ·unfold Ft at h;obtain⟨a,r1,e1,h⟩:=fj h;obtain⟨f,r2,e2,h⟩:=fj h;obtain⟨b,r3,e3,h⟩:=fj h;obtain⟨p,r4,e4,h⟩:=fj h;obtain⟨l,r5,e5,h⟩:=fj h;obtain⟨rfl,rfl⟩:=oF h;obtain⟨a1,t,a3⟩:=kV iJ _ _ _ _ e1;obtain⟨f1,f2⟩:=(gH k (fun x=>FK x _)).rd _ _ _ e2;obtain⟨b1,b2,b3⟩:=kV rT _ _ _ _ e3;obtain⟨p1,p2⟩:=oD.rd _ _ _ e4;obtain⟨m,l2⟩:=oD.rd _ _ _ e5;obtain⟨w,x,y,z,rfl⟩:=Zc a3;obtain⟨u,rfl⟩:=LX b3;show(s8 kW (.mk w x y z f u p l) ((d+1:Nat):Int)).2=true/\bs=(s8 kW (.mk w x y z f u p l) ((d+1:Nat):Int)).1++r5;rw[s8,pJ];refine⟨fD.2 ⟨?_,fD.2 ⟨a1,fD.2 ⟨f1,fD.2 ⟨b1,fD.2 ⟨p1,m⟩⟩⟩⟩⟩,?_⟩
   ·show(decide (0<((d+1:Nat):Int))||kW.deep)=true;simp only[abn,abw];exact .inl (by omega)
   ·rw[t,f2,b2,p2,l2];simp only[nY,bT,aaT];rfl
theorem CM:RT GF (uV kW):=QJ 60
theorem LY (v:Vl):1<=(uV kW v).1.length:=FK v 60
theorem Hg:RT TW (Qo kW):=gH CM LY
theorem LZ {a:Type}(e:a->Enc) (l:List a):1<=(bT kW e l).1.length:=by
 show 1<=(bV (zz l.length)++(aV e l).1).length;have:=kR (zz l.length);rw[aaR];omega
theorem pQ {a:Type}{e:a->Enc}(h:∀x,1<=(e x).1.length) (x:a) (l:List a):1<=(aV e (x::l)).1.length:=by
 have:=CK h (x::l);simp only[aaW] at this;omega
theorem xQ {a b:Enc}(h:1<=a.1.length):1<=(bD a b).1.length:=by rw[nY,aaR];omega
theorem QK:RT Qm (O7 kW):=by
 refine⟨fun x r h=>?_,fun bs x r h=>?_⟩
 ·unfold Qm;refine iS h (fun q s=>kU rT _ _ q) fun h=>?_;refine iS h (fun q s=>kU iJ _ _ q) fun h=>?_;exact oE h (fun q s=>CM.wr _ _ q) rfl
 ·obtain⟨b,z,e,h⟩:=fj h;obtain⟨a,t,k,h⟩:=fj h;obtain⟨v,y,l,h⟩:=fj h;obtain⟨rfl,rfl⟩:=oF h;obtain⟨d,c,j⟩:=kV rT _ _ _ _ e;obtain⟨o,m,f⟩:=kV iJ _ _ _ _ k;obtain⟨p,n⟩:=CM.rd _ _ _ l;obtain⟨u,rfl⟩:=LX j;obtain⟨w,rfl⟩:=LX f;refine⟨fD.2 ⟨d,fD.2 ⟨o,p⟩⟩,?_⟩;rw[c,m,n];simp only[O7,nY,aaT];rfl
theorem QL:RT Qn (O8 kW):=by
 refine⟨fun x r h=>?_,fun bs x r h=>?_⟩
 ·unfold Qn;refine iS h (fun q s=>kU iJ _ _ q) fun h=>?_;refine iS h (fun q s=>Hg.wr _ _ q) fun h=>?_;exact oE h (fun q s=>oD.wr _ _ q) rfl
 ·obtain⟨b,z,e,h⟩:=fj h;obtain⟨a,w,j,h⟩:=fj h;obtain⟨v,y,k,h⟩:=fj h;obtain⟨rfl,rfl⟩:=oF h;obtain⟨d,c,f⟩:=kV iJ _ _ _ _ e;obtain⟨n,l⟩:=Hg.rd _ _ _ j;obtain⟨o,m⟩:=oD.rd _ _ _ k;obtain⟨p,q,s,t,u,rfl⟩:=Zd f;refine⟨fD.2 ⟨d,fD.2 ⟨n,o⟩⟩,?_⟩;rw[c,l,m];simp only[O8,nY,aaT];rfl
theorem QM:RT Sk (O9 kW):=by
 refine⟨fun x r h=>?_,fun bs x r h=>?_⟩
 ·unfold Sk;refine iS h (fun q s=>kU iJ _ _ q) fun h=>?_;exact oE h (fun q s=>kU rT [x.excl,x.re,x.over] _ q) rfl
 ·obtain⟨a,o,e,h⟩:=fj h;obtain⟨b,n,k,h⟩:=fj h;obtain⟨rfl,rfl⟩:=oF h;obtain⟨d,c,j⟩:=kV iJ _ _ _ _ e;obtain⟨m,l,f⟩:=kV rT _ _ _ _ k;obtain⟨p,q,rfl⟩:=Vb j;obtain⟨s,t,u,rfl⟩:=S3 f;refine⟨fD.2 ⟨d,m⟩,?_⟩;rw[c,l];simp only[O9,nY,aaT];rfl
theorem L5 (x:Ac):1<=(O8 kW x).1.length:=xQ (pQ sG _ _)
theorem L7 (x:Ln):1<=(O9 kW x).1.length:=xQ (pQ sG _ _)
theorem L8 (x:Ce):1<=(O7 kW x).1.length:=xQ (pQ Hf _ _)
theorem L9 (x:Tk):1<=(Pb kW x).1.length:=xQ (pQ sG _ _)
theorem Ma (x:Ou):1<=(Qp kW x).1.length:=pQ sG _ _
theorem Mb (x:Bool):1<=(Tn kW x).1.length:=pQ Hf _ _
theorem QN:RT My (Pb kW):=by
 refine⟨fun x r h=>?_,fun bs x r h=>?_⟩
 ·unfold My;refine iS h (fun q s=>kU iJ _ _ q) fun h=>?_;refine iS h (fun q s=>(gH QL L5).wr _ _ q) fun h=>?_;refine iS h (fun q s=>(gH QM L7).wr _ _ q) fun h=>?_;refine iS h (fun q s=>kU iJ [x.allocs,x.clock,x.next] _ q) fun h=>?_;exact oE h (fun q s=>oD.wr _ _ q) rfl
 ·obtain⟨a,r1,j,h⟩:=fj h;obtain⟨f,r2,o,h⟩:=fj h;obtain⟨l,r3,z,h⟩:=fj h;obtain⟨n,r4,w,h⟩:=fj h;obtain⟨c,r5,y,h⟩:=fj h;obtain⟨rfl,rfl⟩:=oF h;obtain⟨d,b,m⟩:=kV iJ _ _ _ _ j;obtain⟨b1,b2⟩:=(gH QL L5).rd _ _ _ o;obtain⟨c1,c2⟩:=(gH QM L7).rd _ _ _ z;obtain⟨k,d2,e⟩:=kV iJ _ _ _ _ w;obtain⟨v,f2⟩:=oD.rd _ _ _ y;obtain⟨p,rfl⟩:=LX m;obtain⟨s,t,u,rfl⟩:=S3 e;refine⟨fD.2 ⟨d,fD.2 ⟨b1,fD.2 ⟨c1,fD.2 ⟨k,v⟩⟩⟩⟩,?_⟩;rw[b,b2,c2,d2,f2];simp only[Pb,nY,aaT];rfl
theorem QO:RT TY (Qp kW):=by
 refine⟨fun x r h=>?_,fun bs x r h=>?_⟩
 ·unfold TY;exact oE h (fun q s=>kU iJ [x.task,x.number] _ q) rfl
 ·obtain⟨a,f,b,h⟩:=fj h;obtain⟨rfl,rfl⟩:=oF h;obtain⟨e,c,d⟩:=kV iJ _ _ _ _ b;obtain⟨p,q,rfl⟩:=Vb d;exact⟨e,c⟩
theorem QR:RT T9 (Tn kW):=by
 refine⟨fun x r h=>?_,fun bs x r h=>?_⟩
 ·unfold T9;exact oE h (fun q s=>kU rT [x] _ q) rfl
 ·obtain⟨a,f,b,h⟩:=fj h;obtain⟨rfl,rfl⟩:=oF h;obtain⟨e,c,d⟩:=kV rT _ _ _ _ b;obtain⟨p,rfl⟩:=LX d;exact⟨e,c⟩
theorem Mc (l:List Vl):1<=(Qo kW l).1.length:=LZ _ _
theorem Vc:RT Eb (oU kW):=by
 refine⟨fun x r h=>?_,fun bs x r h=>?_⟩
 ·unfold Eb;refine iS h (fun q s=>(gH QK L8).wr _ _ q) fun h=>?_;refine iS h (fun q s=>(gH QR Mb).wr _ _ q) fun h=>?_;refine iS h (fun q s=>(gH QN L9).wr _ _ q) fun h=>?_;refine iS h (fun q s=>(gH Hg Mc).wr _ _ q) fun h=>?_;refine iS h (fun q s=>(gH QO Ma).wr _ _ q) fun h=>?_;exact oE h (fun q s=>kU iJ [x.made,x.dropped,x.closed] _ q) rfl
 ·obtain⟨a,r1,k,h⟩:=fj h;obtain⟨b,r2,t,h⟩:=fj h;obtain⟨c,r3,z,h⟩:=fj h;obtain⟨d,r4,v,h⟩:=fj h;obtain⟨f,r5,y,h⟩:=fj h;obtain⟨m,r6,w,h⟩:=fj h;obtain⟨rfl,rfl⟩:=oF h;obtain⟨j,e⟩:=(gH QK L8).rd _ _ _ k;obtain⟨b1,b2⟩:=(gH QR Mb).rd _ _ _ t;obtain⟨c1,c2⟩:=(gH QN L9).rd _ _ _ z;obtain⟨l,d2⟩:=(gH Hg Mc).rd _ _ _ v;obtain⟨u,f2⟩:=(gH QO Ma).rd _ _ _ y;obtain⟨o,n,m3⟩:=kV iJ _ _ _ _ w;obtain⟨p,q,s,rfl⟩:=S3 m3;refine⟨fD.2 ⟨j,fD.2 ⟨b1,fD.2 ⟨c1,fD.2 ⟨l,fD.2 ⟨u,o⟩⟩⟩⟩⟩,?_⟩;rw[e,b2,c2,d2,f2,n];simp only[oU,nY,aaT];rfl
end Go.Fr.Tryz
namespace Go.Fr.Try.Pure
def stp (h x:Int):Int:=(h*1000003+x+1) % 2147483647
def run (h:Int) (l:List Int):Int:=l.foldl stp h
end Go.Fr.Try.Pure
namespace Go.Fr.Tryz
open Go Go.Fr.T Go.Fr.Dm
open Go.Fr.Try
theorem Md (bs:List UInt8):(sK bs).length=4:=rfl
theorem zE (b:List UInt8):(gJ b).length=b.length+4:=by simp[gJ,Md]
theorem PD (b:List UInt8):(gJ b).take ((gJ b).length-4)=b:=by
 rw[zE,Nat.add_sub_cancel];simp[gJ]
theorem Me {bs:List UInt8}{x:Wd}:oP bs=some x↔Eb bs=some (x,[]):=by
 unfold oP;constructor
 ·intro h;split at h
  ·rename_i e;injection h with h;subst h;exact e
  ·cases h
 ·intro h;rw[h]
theorem PE {x:Wd}(h:(oU kW x).2=true):vX (lH x)=(some x,0):=by
 unfold lH;rw[o6 h];have f:=zE (di++(oU kW x).1);have d:=PD (di++(oU kW x).1);have a:(di++(oU kW x).1).length=(oU kW x).1.length+3:=by simp[di]
 unfold vX;rw[d,vv,vv (fun q=>q rfl)]
 ·have e:=Vc.wr x [] h;rw[aaX] at e;have c:(di++(oU kW x).1).drop 3=(oU kW x).1:=rfl;rw[c,Me.2 e]
 ·rintro(b | b)
  ·omega
  ·exact b (List.IsPrefix.trans (List.prefix_append _ _) (List.prefix_append _ _))
theorem S5 {x:Wd}(h:(lH x).length≠0):(oU kW x).2=true:=by
 cases e:(oU kW x).2 with
 | true=>rfl
 | false=>unfold lH at h;rw[e] at h;exact p7 rfl h
end Go.Fr.Tryz
