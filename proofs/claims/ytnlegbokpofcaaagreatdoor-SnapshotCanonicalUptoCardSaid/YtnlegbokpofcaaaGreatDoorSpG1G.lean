/- Part of the proofs of the statements of this seat. -/
import Derived.Test.YtnlegbokpofcaaaGreatDoorSpE8G
import Derived.Test.YtnlegbokpofcaaaGreatDoorSpP4G
import Derived.Test.YtnlegbokpofcaaaGreatDoorFW3
import Derived.Test.YtnlegbokpofcaaaGreatDoorSpIds
import Derived.Deep.DeepWitnessRowRef
set_option maxRecDepth 10000
set_option linter.unusedVariables false
set_option linter.unusedSimpArgs false
namespace Go.Fr.Tryz
open Go Go.RowKit Go.Proofs Go.Fr Go.Fr.T Go.Fr.Api
def Vl.kind:Vl->Int | .mk a _ _ _ _ _ _ _=>a
def Vl.id:Vl->Int | .mk _ a _ _ _ _ _ _=>a
def Vl.var:Vl->Int | .mk _ _ a _ _ _ _ _=>a
def Vl.num:Vl->Int | .mk _ _ _ a _ _ _ _=>a
def Vl.fs:Vl->List Vl | .mk _ _ _ _ a _ _ _=>a
def Vl.ex:Vl->Bool | .mk _ _ _ _ _ a _ _=>a
def Vl.path:Vl->List Int | .mk _ _ _ _ _ _ a _=>a
def Vl.lns:Vl->List Int | .mk _ _ _ _ _ _ _ a=>a
def SX (x:Vl):List C:=[IC x.kind,IC x.id,IC x.var,IC x.num,.sl (x.fs.map pT),.bool x.ex,.sl (rK x.path),.sl (rK x.lns)]
theorem Oj (x:Vl):pT x=SX x:=by
 cases x;rw[pT,qO];rfl
def QS (x:Vl):C:=.agg (SX x)
def SY (x:Ce):List C:=.bool x.live::IC x.arena::SX x.value
theorem SA (x:Ce):zW x=SY x:=by rw[zW,Oj];rfl
theorem SB {x y:Vl}(a:x.kind=y.kind) (j:x.id=y.id) (f:x.var=y.var) (d:x.num=y.num) (h:x.ex=y.ex) (b:x.path=y.path) (e:x.lns=y.lns) (c:x.fs=y.fs):x=y:=by
 cases x;cases y
 simp_all [Vl.kind,Vl.id,Vl.var,Vl.num,Vl.ex,Vl.path,Vl.lns,Vl.fs]
theorem SC {x t:Vl}(h:x∈t.fs):SizeOf.sizeOf x<SizeOf.sizeOf t:=by
 cases t;have:=List.sizeOf_lt_of_mem h;simp only[Vl.fs] at this;simp only[Vl.mk.sizeOf_spec];omega
theorem Xe {p:Prop}[Decidable p] (h:lm true (decide p)=true):¬p:=by simpa[lm] using h
theorem Xf {p:Prop}[Decidable p] (h:lm true (decide p)=false):p:=by simpa[lm] using h
section
variable {K:List C->Prop}{k:Nat}
theorem Af {l:List Vl}{x:Vl}(a:l[k]?=some x) (h:K (SX x)):AB (l.map pT) (k:Int) 8 K:=ck a (Oj x) rfl h
theorem Ol {l:List Ce}{x:Ce}(a:l[k]?=some x) (h:K (SY x)):AB (l.map zW) (k:Int) 10 K:=ck a (SA x) rfl h
end
theorem Ns (a b:List Int):dn 121 [.sl (rK a),.sl (rK b)] (a=b):=by
 refine aj Tryz.func121 Jh rfl fun t _=>?_;refine ah (fun p=>?_) (fun p=>?_)
 ·exact aK rfl (j3 C.bool (aC fun e=>(jd (by have q:=kU p;rwa [y9,y9] at q)) (by rw[e])))
 have p:=Kn p;refine bF a.length 5 [] () (fun _=>[]) (fun _=>[]) (fun k _=>∀j<k,a[j]?=b[j]?) (fun j v=>vv v (by omega)) (ak rfl) trivial trivial (fun _=>rfl) (fun _=>rfl) ?_;rintro o ⟨⟩ w d _ _ _;refine aN (fun c=>?_) (fun m=>?_)
 ·have c:o<a.length:=by rw[y9] at c;omega
  have u:=(dL t.1:a.length<=_);obtain⟨y,h⟩:=bf c;obtain⟨x,f⟩:=bf (l:=b) (k:=o) (by omega);refine D6 h ?_;refine D6 f ?_;refine ah (fun r=>?_) (fun r=>?_)
  ·exact aK rfl (j3 C.bool (aC fun e=>bY h f (kU r) (by rw[e])))
  refine Fit.ZA (by omega) (by omega) ?_;exact⟨(o+1,()),⟨c,bS d h f (qY r)⟩,⟨bL,trivial⟩,trivial,bM c⟩
 ·have m:¬o<a.length:=by rw[y9] at m;omega
  have s:a=b:=bR (n:=o) (by omega) (by omega) d;exact aK rfl (j3 C.bool (dh s))
theorem SD:∀(n:Nat) (x y:Vl),SizeOf.sizeOf x<n->dn 96 [QS x,QS y] (x=y)
 | 0,x,y,h=>vv h (by omega)
 | n+1,x,y,h=>by
  have ih:∀z∈x.fs,∀w,dn 96 [QS z,QS w] (z=w):=fun z hz w=>SD n z w (by have:=SC hz;omega);refine aj Tryz.func96 MN rfl fun hw _=>?_;have p:Wf (.sl (x.fs.map pT)):=hw.1.2.2.2.2.1;refine ah (fun s=>?_) (fun s=>?_)
  ·exact aK rfl (j3 C.bool (aC fun e=>(kU s) (by rw[e])))
  refine ah (fun u=>?_) (fun u=>?_)
  ·exact aK rfl (j3 C.bool (aC fun e=>(kU u) (by rw[e])))
  refine ah (fun h2=>?_) (fun h2=>?_)
  ·exact aK rfl (j3 C.bool (aC fun e=>(kU h2) (by rw[e])))
  refine ah (fun h3=>?_) (fun h3=>?_)
  ·exact aK rfl (j3 C.bool (aC fun e=>(kU h3) (by rw[e])))
  refine ah (fun r=>?_) (fun r=>?_)
  ·exact aK rfl (j3 C.bool (aC fun e=>(Xe r) (by rw[e])))
  refine ah (fun o=>?_) (fun o=>?_)
  ·exact aK rfl (j3 C.bool (aC fun e=>(jd (by have q:=kU o;rwa [cq,cq] at q)) (by rw[e])))
  have o:=gY o;refine bA (Ns x.path y.path) rfl fun _=>?_;refine ah (fun t=>?_) (fun t=>?_)
  ·exact aK rfl (j3 C.bool (aC fun e=>(vO t) (by rw[e])))
  refine bA (Ns x.lns y.lns) rfl fun _=>?_;refine ah (fun v=>?_) (fun v=>?_)
  ·exact aK rfl (j3 C.bool (aC fun e=>(vO v) (by rw[e])))
  refine bF x.fs.length 5 [] () (fun _=>[]) (fun _=>[]) (fun k _=>∀j<k,x.fs[j]?=y.fs[j]?) (fun j hj=>vv hj (by omega)) (ak rfl) trivial trivial (fun _=>rfl) (fun _=>rfl) ?_;rintro m ⟨⟩ ar c _ _ _;refine aN (fun a=>?_) (fun f=>?_)
  ·have a:m<x.fs.length:=by rw[cq] at a;omega
   have ao:=dL p;obtain⟨xA,b⟩:=bf a;obtain⟨yA,d⟩:=bf (l:=y.fs) (k:=m) (by omega);refine Af b ?_;refine Af d ?_;refine dW (ih xA (aam b) yA) rfl fun _=>?_;refine ah (fun h8=>?_) (fun h8=>?_)
   ·exact aK rfl (j3 C.bool (aC fun e=>bY b d (vO h8) (by rw[e])))
   refine Fit.ZA (by omega) (by omega) ?_;exact⟨(m+1,()),⟨a,bS c b d (vP h8)⟩,⟨bL,trivial⟩,trivial,bM a⟩
  ·have f:¬m<x.fs.length:=by rw[cq] at f;omega
   have eA:x.fs=y.fs:=bR (n:=m) (by omega) (by omega) c;exact aK rfl (j3 C.bool (dh (SB (qY s) (qY u) (qY h2) (qY h3) (Xf r) (vP t) (vP v) eA)))
theorem WQ (x y:Vl):dn 96 [QS x,QS y] (x=y):=SD _ x y (abh _)
theorem SE {x y:Ce}(a:x.live=y.live) (c:x.arena=y.arena) (b:x.value=y.value):x=y:=by
 rcases x with⟨⟩
 rcases y with⟨⟩
 simp_all
theorem WR (x y:Ce):dn 120 [.agg (SY x),.agg (SY y)] (x=y):=by
 refine aj Tryz.func120 Jg rfl fun c _=>?_;refine aN (fun a=>?_) (fun a=>aK rfl (j3 C.bool (aC fun e=>a (by rw[e]))));refine aN (fun b=>?_) (fun b=>aK rfl (j3 C.bool (aC fun e=>b (by rw[e]))));refine bA (WQ x.value y.value) rfl fun _=>?_;exact aK rfl (j3 C.bool (gW ⟨fun h=>SE a b h,fun e=>by rw[e]⟩))
theorem Zr (a b:List Ce) (p q:List Bool):dn 93 [.agg [.sl (a.map zW),.sl (p.map Fe)],.agg [.sl (b.map zW),.sl (q.map Fe)]] (a=b/\p=q):=by
 refine aj Tryz.func93 MJ rfl fun hw _=>?_;have z:Wf (.sl (a.map zW)):=hw.1.1;have ad:Wf (.sl (p.map Fe)):=hw.1.2.1;refine ah (fun x=>?_) (fun x=>?_)
 ·exact aK rfl (j3 C.bool (aC fun e=>(jd (by have q:=kU x;rwa [cq,cq] at q)) (by rw[e.1])))
 have x:=gY x;refine ah (fun y=>?_) (fun y=>?_)
 ·exact aK rfl (j3 C.bool (aC fun e=>(jd (by have q:=kU y;rwa [cq,cq] at q)) (by rw[e.2])))
 have y:=gY y;refine bF a.length 5 [] () (fun _=>[]) (fun _=>[]) (fun k _=>∀j<k,a[j]?=b[j]?) (fun j hj=>vv hj (by omega)) (ak rfl) trivial trivial (fun _=>rfl) (fun _=>rfl) ?_;rintro w ⟨⟩ av h _ _ _;refine aN (fun d=>?_) (fun t=>?_)
 ·have d:w<a.length:=by rw[cq] at d;omega
  have ar:=dL z;obtain⟨xA,r⟩:=bf d;obtain⟨yA,o⟩:=bf (l:=b) (k:=w) (by omega);refine Ol r ?_;refine Ol o ?_;refine dW (WR xA yA) rfl fun _=>?_;refine ah (fun h2=>?_) (fun h2=>?_)
  ·exact aK rfl (j3 C.bool (aC fun e=>bY r o (vO h2) e.1))
  refine Fit.ZA (by omega) (by omega) ?_;exact⟨(w+1,()),⟨d,bS h r o (vP h2)⟩,⟨bL,trivial⟩,trivial,bM d⟩
 ·have t:¬w<a.length:=by rw[cq] at t;omega
  have eA:a=b:=bR (n:=w) (by omega) (by omega) h;refine bF p.length 6 [] () (fun _=>[]) (fun _=>[]) (fun k _=>∀j<k,p[j]?=q[j]?) (fun j hj=>vv hj (by omega)) (ak rfl) trivial trivial (fun _=>rfl) (fun _=>rfl) ?_;rintro v ⟨⟩ ao f _ _ _;refine aN (fun c=>?_) (fun u=>?_)
  ·have c:v<p.length:=by rw[cq] at c;omega
   have al:=dL ad;obtain⟨xB,s⟩:=bf c;obtain⟨yB,m⟩:=bf (l:=q) (k:=v) (by omega);refine ck s rfl rfl ?_;refine ck m rfl rfl ?_;refine ah (fun h3=>?_) (fun h3=>?_)
   ·exact aK rfl (j3 C.bool (aC fun e=>bY s m (Xe h3) e.2))
   refine Fit.ZA (by omega) (by omega) ?_;exact⟨(v+1,()),⟨c,bS f s m (Xf h3)⟩,⟨bL,trivial⟩,trivial,bM c⟩
  ·have u:¬v<p.length:=by rw[cq] at u;omega
   have eB:p=q:=bR (n:=v) (by omega) (by omega) f;exact aK rfl (j3 C.bool (dh ⟨eA,eB⟩))
theorem Zs (a b:List Ou):dn 94 [.sl (a.map KG),.sl (b.map KG)] (a=b):=by
 refine aj Tryz.func94 MK rfl fun u _=>?_;refine ah (fun p=>?_) (fun p=>?_)
 ·exact aK rfl (j3 C.bool (aC fun e=>(jd (by have q:=kU p;rwa [cq,cq] at q)) (by rw[e])))
 have p:=gY p;refine bF a.length 5 [] () (fun _=>[]) (fun _=>[]) (fun k _=>∀j<k,a[j]?=b[j]?) (fun j x=>vv x (by omega)) (ak rfl) trivial trivial (fun _=>rfl) (fun _=>rfl) ?_;rintro o ⟨⟩ y d _ _ _;refine aN (fun c=>?_) (fun m=>?_)
 ·have c:o<a.length:=by rw[cq] at c;omega
  have w:=dL u.1;obtain⟨v,h⟩:=bf c;obtain⟨t,f⟩:=bf (l:=b) (k:=o) (by omega);refine ck h rfl rfl ?_;refine ck f rfl rfl ?_;refine ah (fun r=>?_) (fun r=>?_)
  ·exact aK rfl (j3 C.bool (aC fun e=>bY h f ((fun e=>by subst e;simp[lm] at r)) (by rw[e])))
  refine Fit.ZA (by omega) (by omega) ?_;exact⟨(o+1,()),⟨c,bS d h f (by rcases v with⟨⟩;rcases t with⟨⟩;simp[lm] at r;simp[r])⟩,⟨bL,trivial⟩,trivial,bM c⟩
 ·have m:¬o<a.length:=by rw[cq] at m;omega
  have s:a=b:=bR (n:=o) (by omega) (by omega) d;exact aK rfl (j3 C.bool (dh s))
theorem SF {x y:Ac}(a:x.number=y.number) (h:x.routine=y.routine) (e:x.block=y.block) (c:x.index=y.index) (f:x.dst=y.dst) (b:x.slots=y.slots) (d:x.since=y.since):x=y:=by
 rcases x with⟨⟩
 rcases y with⟨⟩
 simp_all
theorem WS (x y:Ac):dn 122 [.agg (D8 x),.agg (D8 y)] (x=y):=by
 refine aj Tryz.func122 Ji rfl fun hw _=>?_;have o:Wf (.sl (x.slots.map pT)):=hw.1.2.2.2.2.2.1;refine ah (fun r=>?_) (fun r=>?_)
 ·exact aK rfl (j3 C.bool (aC fun e=>(kU r) (by rw[e])))
 refine ah (fun s=>?_) (fun s=>?_)
 ·exact aK rfl (j3 C.bool (aC fun e=>(kU s) (by rw[e])))
 refine ah (fun u=>?_) (fun u=>?_)
 ·exact aK rfl (j3 C.bool (aC fun e=>(kU u) (by rw[e])))
 refine ah (fun w=>?_) (fun w=>?_)
 ·exact aK rfl (j3 C.bool (aC fun e=>(kU w) (by rw[e])))
 refine ah (fun p=>?_) (fun p=>?_)
 ·exact aK rfl (j3 C.bool (aC fun e=>(kU p) (by rw[e])))
 refine ah (fun m=>?_) (fun m=>?_)
 ·exact aK rfl (j3 C.bool (aC fun e=>(jd (by have q:=kU m;rwa [cq,cq] at q)) (by rw[e])))
 have m:=gY m;refine bA (Ns x.since y.since) rfl fun _=>?_;refine ah (fun t=>?_) (fun t=>?_)
 ·exact aK rfl (j3 C.bool (aC fun e=>(vO t) (by rw[e])))
 refine bF x.slots.length 5 [] () (fun _=>[]) (fun _=>[]) (fun k _=>∀j<k,x.slots[j]?=y.slots[j]?) (fun j hj=>vv hj (by omega)) (ak rfl) trivial trivial (fun _=>rfl) (fun _=>rfl) ?_;rintro h ⟨⟩ ag b _ _ _;refine aN (fun a=>?_) (fun f=>?_)
 ·have a:h<x.slots.length:=by rw[cq] at a;omega
  have ad:=dL o;obtain⟨xA,d⟩:=bf a;obtain⟨yA,c⟩:=bf (l:=y.slots) (k:=h) (by omega);refine Af d ?_;refine Af c ?_;refine dW (WQ xA yA) rfl fun _=>?_;refine ah (fun v=>?_) (fun v=>?_)
  ·exact aK rfl (j3 C.bool (aC fun e=>bY d c (vO v) (by rw[e])))
  refine Fit.ZA (by omega) (by omega) ?_;exact⟨(h+1,()),⟨a,bS b d c (vP v)⟩,⟨bL,trivial⟩,trivial,bM a⟩
 ·have f:¬h<x.slots.length:=by rw[cq] at f;omega
  have z:x.slots=y.slots:=bR (n:=h) (by omega) (by omega) b;exact aK rfl (j3 C.bool (dh (SF (qY r) (qY s) (qY u) (qY w) (qY p) z (vP t))))
theorem SG {x y:Tk}(a:x.state=y.state) (h:x.frames=y.frames) (e:x.loans=y.loans) (c:x.allocs=y.allocs) (f:x.clock=y.clock) (b:x.next=y.next) (d:x.cells=y.cells):x=y:=by
 rcases x with⟨⟩
 rcases y with⟨⟩
 simp_all
theorem Zt (x y:Tk):dn 95 [.agg (CT x),.agg (CT y)] (x=y):=by
 refine aj Tryz.func95 ML rfl fun hw _=>?_;have z:Wf (.sl (x.frames.map D8)):=hw.1.2.1;have am:Wf (.sl (x.loans.map JU)):=hw.1.2.2.1;refine ah (fun h0=>?_) (fun h0=>?_)
 ·exact aK rfl (j3 C.bool (aC fun e=>(kU h0) (by rw[e])))
 refine ah (fun h1=>?_) (fun h1=>?_)
 ·exact aK rfl (j3 C.bool (aC fun e=>(kU h1) (by rw[e])))
 refine ah (fun h2=>?_) (fun h2=>?_)
 ·exact aK rfl (j3 C.bool (aC fun e=>(kU h2) (by rw[e])))
 refine ah (fun h3=>?_) (fun h3=>?_)
 ·exact aK rfl (j3 C.bool (aC fun e=>(kU h3) (by rw[e])))
 refine bA (Ns x.cells y.cells) rfl fun _=>?_;refine ah (fun h4=>?_) (fun h4=>?_)
 ·exact aK rfl (j3 C.bool (aC fun e=>(vO h4) (by rw[e])))
 refine ah (fun u=>?_) (fun u=>?_)
 ·exact aK rfl (j3 C.bool (aC fun e=>(jd (by have q:=kU u;rwa [cq,cq] at q)) (by rw[e])))
 have u:=gY u;refine ah (fun w=>?_) (fun w=>?_)
 ·exact aK rfl (j3 C.bool (aC fun e=>(jd (by have q:=kU w;rwa [cq,cq] at q)) (by rw[e])))
 have w:=gY w;refine bF x.frames.length 5 [] () (fun _=>[]) (fun _=>[]) (fun k _=>∀j<k,x.frames[j]?=y.frames[j]?) (fun j hj=>vv hj (by omega)) (ak rfl) trivial trivial (fun _=>rfl) (fun _=>rfl) ?_;rintro t ⟨⟩ aE d _ _ _;refine aN (fun b=>?_) (fun p=>?_)
 ·have b:t<x.frames.length:=by rw[cq] at b;omega
  have az:=dL z;obtain⟨xA,m⟩:=bf b;obtain⟨yA,h⟩:=bf (l:=y.frames) (k:=t) (by omega);refine ck m rfl rfl ?_;refine ck h rfl rfl ?_;refine dW (WS xA yA) rfl fun _=>?_;refine ah (fun h8=>?_) (fun h8=>?_)
  ·exact aK rfl (j3 C.bool (aC fun e=>bY m h (vO h8) (by rw[e])))
  refine Fit.ZA (by omega) (by omega) ?_;exact⟨(t+1,()),⟨b,bS d m h (vP h8)⟩,⟨bL,trivial⟩,trivial,bM b⟩
 ·have p:¬t<x.frames.length:=by rw[cq] at p;omega
  have eA:x.frames=y.frames:=bR (n:=t) (by omega) (by omega) d;refine bF x.loans.length 6 [] () (fun _=>[]) (fun _=>[]) (fun k _=>∀j<k,x.loans[j]?=y.loans[j]?) (fun j hj=>vv hj (by omega)) (ak rfl) trivial trivial (fun _=>rfl) (fun _=>rfl) ?_;rintro s ⟨⟩ aw c _ _ _;refine aN (fun a=>?_) (fun r=>?_)
  ·have a:s<x.loans.length:=by rw[cq] at a;omega
   have ap:=dL am;obtain⟨xB,o⟩:=bf a;obtain⟨yB,f⟩:=bf (l:=y.loans) (k:=s) (by omega);refine ck o rfl rfl ?_;refine ck f rfl rfl ?_;refine ah (fun v=>?_) (fun v=>?_)
   ·exact aK rfl (j3 C.bool (aC fun e=>bY o f ((fun e=>by subst e;simp[lm] at v)) (by rw[e])))
   refine Fit.ZA (by omega) (by omega) ?_;exact⟨(s+1,()),⟨a,bS c o f (by rcases xB with⟨⟩;rcases yB with⟨⟩;simp[lm] at v;simp[v])⟩,⟨bL,trivial⟩,trivial,bM a⟩
  ·have r:¬s<x.loans.length:=by rw[cq] at r;omega
   have eB:x.loans=y.loans:=bR (n:=s) (by omega) (by omega) c;exact aK rfl (j3 C.bool (dh (SG (qY h0) eA eB (qY h1) (qY h2) (qY h3) (vP h4))))
theorem SH {x y:Wd}(a:x.cells=y.cells/\x.arenas=y.arenas) (f:x.tasks=y.tasks) (d:x.channels=y.channels) (h:x.outputs=y.outputs) (b:x.made=y.made) (e:x.dropped=y.dropped) (c:x.closed=y.closed):x=y:=by
 rcases x with⟨⟩
 rcases y with⟨⟩
 simp_all
theorem Nt {c:Type}{a b:List c}{k:Nat}{x y:c}(e:a[k]?=some x) (d:b[k]?=some y) (h:¬x=y):a≠b:=bY e d h
theorem Zu (i1 i2 j1 j2:List (List C)) (im jm:Int) (x y:Wd):dn 58 [.agg (qb i1 i2 im x),.agg (qb j1 j2 jm y)] (x=y):=by
 refine aj Tryz.func58 Mx rfl fun hw _=>?_;have ao:Wf (.sl (x.tasks.map CT)):=hw.1.2.2.2.2.2.1;have ag:Wf (.sl (x.channels.map M0)):=hw.1.2.2.2.2.2.2.1;refine bA (Zr x.cells y.cells x.arenas y.arenas) rfl fun _=>?_;refine ah (fun h0=>?_) (fun h0=>?_)
 ·exact aK rfl (j3 C.bool (aC fun e=>(vO h0) (by rw[e];exact⟨rfl,rfl⟩)))
 refine ah (fun h1=>?_) (fun h1=>?_)
 ·exact aK rfl (j3 C.bool (aC fun e=>(jd (by have q:=kU h1;rwa [cq,cq] at q)) (by rw[e])))
 have h1:=gY h1;refine ah (fun h2=>?_) (fun h2=>?_)
 ·exact aK rfl (j3 C.bool (aC fun e=>(jd (by have q:=kU h2;rwa [cq,cq] at q)) (by rw[e])))
 have h2:=gY h2;refine bA (Zs x.outputs y.outputs) rfl fun _=>?_;refine ah (fun h3=>?_) (fun h3=>?_)
 ·exact aK rfl (j3 C.bool (aC fun e=>(vO h3) (by rw[e])))
 refine ah (fun h4=>?_) (fun h4=>?_)
 ·exact aK rfl (j3 C.bool (aC fun e=>(kU h4) (by rw[e])))
 refine ah (fun h5=>?_) (fun h5=>?_)
 ·exact aK rfl (j3 C.bool (aC fun e=>(kU h5) (by rw[e])))
 refine ah (fun h6=>?_) (fun h6=>?_)
 ·exact aK rfl (j3 C.bool (aC fun e=>(kU h6) (by rw[e])))
 refine bF x.tasks.length 5 [] () (fun _=>[]) (fun _=>[]) (fun k _=>∀j<k,x.tasks[j]?=y.tasks[j]?) (fun j hj=>vv hj (by omega)) (ak rfl) trivial trivial (fun _=>rfl) (fun _=>rfl) ?_;rintro kA ⟨⟩ cc m _ _ _;refine aN (fun f=>?_) (fun w=>?_)
 ·have f:kA<x.tasks.length:=by rw[cq] at f;omega
  have ca:=dL ao;obtain⟨xA,s⟩:=bf f;obtain⟨yA,p⟩:=bf (l:=y.tasks) (k:=kA) (by omega);refine ck s rfl rfl ?_;refine ck p rfl rfl ?_;refine dW (Zt xA yA) rfl fun _=>?_;refine ah (fun h8=>?_) (fun h8=>?_)
  ·exact aK rfl (j3 C.bool (aC fun e=>bY s p (vO h8) (by rw[e])))
  refine Fit.ZA (by omega) (by omega) ?_;exact⟨(kA+1,()),⟨f,bS m s p (vP h8)⟩,⟨bL,trivial⟩,trivial,bM f⟩
 ·have w:¬kA<x.tasks.length:=by rw[cq] at w;omega
  have eA:x.tasks=y.tasks:=bR (n:=kA) (by omega) (by omega) m;refine bF x.channels.length 6 [] () (fun _=>[]) (fun _=>[]) (fun k _=>∀j<k,x.channels[j]?=y.channels[j]?) (fun j hj=>vv hj (by omega)) (ak rfl) trivial trivial (fun _=>rfl) (fun _=>rfl) ?_;rintro kB ⟨⟩ bp h _ _ _;refine aN (fun d=>?_) (fun z=>?_)
  ·have d:kB<x.channels.length:=by rw[cq] at d;omega
   have bd:=dL ag;obtain⟨v,a⟩:=bf d;obtain⟨yB,c⟩:=bf (l:=y.channels) (k:=kB) (by omega);have ay:Wf (.sl (v.map pT)):=(Ep ag (aam a)).1;refine ck a rfl rfl ?_;refine ck c rfl rfl ?_;refine ah (fun h9=>?_) (fun h9=>?_)
   ·exact aK rfl (j3 C.bool (aC fun e=>bY a c (fun e2=>(jd (by have q:=kU h9;rwa [cq,cq] at q)) (by rw[e2])) (by rw[e])))
   have h9:=gY h9;refine bF v.length 7 [] () (fun _=>[]) (fun _=>[]) (fun k _=>∀j<k,v[j]?=yB[j]?) (fun j hj=>vv hj (by omega)) (ak rfl) trivial trivial (fun _=>rfl) (fun _=>rfl) ?_;rintro kC ⟨⟩ bs o _ _ _;refine ck a rfl rfl ?_;refine aN (fun b=>?_) (fun aa=>?_)
   ·have b:kC<v.length:=by rw[cq] at b;omega
    have bj:=dL ay;obtain⟨xC,u⟩:=bf b;obtain⟨yC,r⟩:=bf (l:=yB) (k:=kC) (by omega);refine ck a rfl rfl ?_;refine Af u ?_;refine ck c rfl rfl ?_;refine Af r ?_;refine dW (WQ xC yC) rfl fun _=>?_;refine ah (fun t=>?_) (fun t=>?_)
    ·exact aK rfl (j3 C.bool (aC fun e=>bY a c (Nt u r (vO t)) (by rw[e])))
    refine Fit.ZA (by omega) (by omega) ?_;exact⟨(kC+1,()),⟨b,bS o u r (vP t)⟩,⟨bL,trivial⟩,trivial,bM b⟩
   ·have aa:¬kC<v.length:=by rw[cq] at aa;omega
    have eC:v=yB:=bR (n:=kC) (by omega) (by omega) o;refine Fit.ZA (by omega) (by omega) ?_;exact⟨(kB+1,()),⟨d,bS h a c (eC)⟩,⟨bL,trivial⟩,trivial,bM d⟩
  ·have z:¬kB<x.channels.length:=by rw[cq] at z;omega
   have eB:x.channels=y.channels:=bR (n:=kB) (by omega) (by omega) h;exact aK rfl (j3 C.bool (dh (SH (vP h0) eA eB (vP h3) (qY h4) (qY h5) (qY h6))))
theorem t16 (i j:G7) (x y:Wd):dn 16 [.agg (Qn i x),.agg (Qn j y)] (i=j/\x=y):=by
 refine aj Tryz.func16 L8 rfl fun b _=>?_;refine bA (Zq i j) rfl fun _=>?_;refine ah (fun a=>?_) (fun a=>aK rfl (j3 C.bool (aC fun e=>kh a e.1)));refine bA (Zu _ _ _ _ _ _ x y) rfl fun _=>?_;exact aK rfl (j3 C.bool (gW ⟨fun h=>⟨jH a,h⟩,fun e=>e.2⟩))
end Go.Fr.Tryz
namespace Go.Fr.Tryz
open Go Go.Fr.T
structure RT {α:Type}(d:Dec α) (e:α->Enc):Prop where
 wr:∀x r,(e x).2=true->d ((e x).1++r)=some (x,r)
 rd:∀l x r,d l=some (x,r)->(e x).2=true/\l=(e x).1++r
theorem bZ {a b:Enc}:(bn a b).2=true↔a.2=true/\b.2=true:=by simp[bn]
theorem n8 {a b:Enc}:(bn a b).1=a.1++b.1:=rfl
theorem eU {c b:Type}{f:Dec c}{k:c->Dec b}{l r:List UInt8}{y:b}(h:fV f k l=some (y,r)):∃x a,f l=some (x,a)/\k x a=some (y,r):=by
 unfold fV at h;split at h
 ·cases h
 ·rename_i x a e;exact⟨x,a,e,h⟩
theorem Qz (z:Nat):zz (G6 z)=z:=by
 unfold G6 zz;split
 ·split<;>omega
 ·split<;>omega
theorem Di:∀(f k z:Nat) (l:List UInt8) (n:Int) (r:List UInt8),lM f k z l=some (n,r)->∃w,l=bP w++r/\n=G6 (z+w*128 ^ k)/\(0<w\/k=0)
 | 0,k,z,l,n,r,h=>by cases h
 | f+1,k,z,[],n,r,h=>by cases h
 | f+1,k,z,c::l,n,r,h=>by
  simp only[lM] at h;split at h
  ·rename_i d;split at h
   ·rename_i e;injection h with h
    injection h with b a
    subst b a;refine⟨c.toNat,?_,rfl,e⟩;rw[bP,dif_pos d];simp
   ·cases h
  ·rename_i d;obtain⟨w,b,a,p⟩:=Di f (k+1) _ l n r h;have q:0<w:=by omega
   have m:=c.toNat_lt;refine⟨(c.toNat-128)+128*w,?_,?_,.inl (by omega)⟩
   ·rw[bP,dif_neg (by omega),b];have j:(c.toNat-128+128*w) / 128=w:=by omega
    have o:128+(c.toNat-128+128*w) % 128=c.toNat:=by omega
    rw[j,o];simp
   ·rw[a];congr 1;rw[Nat.pow_succ,Nat.add_mul,Nat.add_assoc,Nat.mul_comm (128 ^ k) 128,<-Nat.mul_assoc,Nat.mul_comm 128 w]
theorem FK {l r:List UInt8}{n:Int}(h:getD l=some (n,r)):l=bP (zz n)++r:=by
 obtain⟨w,b,a,c⟩:=Di 6 0 0 l n r h;have e:n=G6 w:=by rw[a];simp
 rw[e,Qz];exact b
theorem iw:RT gm kW.num:=by
 refine⟨fun n r h=>?_,fun l n r h=>?_⟩
 ·have a:(decide (-1099511627776<=n)&&decide (n<=1099511627776))=true:=h;simp only[aaj,aaU] at a;show gm (bP (zz n)++r)=_;simp only[gm,lO n r a.1 a.2];rw[o6 ⟨a.1,a.2⟩]
 ·unfold gm at h;split at h
  ·rename_i b c e;split at h
   ·rename_i hb;injection h with h
    injection h with h1 h2
    subst h1 h2;refine⟨?_,FK e⟩;show(decide (-1099511627776<=b)&&decide (b<=1099511627776))=true;simp only[aaj,aaU];exact hb
   ·cases h
  ·cases h
theorem qZ:RT nW (oH kW):=by
 refine⟨fun b r h=>?_,fun l b r h=>?_⟩
 ·have a:=iw.wr (if b=true then 1 else 0) r h;unfold nW;rw[show oH kW b=kW.num (if b=true then 1 else 0) from rfl,a];cases b<;>simp
 ·unfold nW at h;split at h
  ·rename_i c d e;split at h
   ·rename_i hb;injection h with h
    injection h with a h2
    subst a h2;have:=iw.rd _ _ _ e;rcases hb with rfl | rfl
    ·exact this
    ·exact this
   ·cases h
  ·cases h
theorem kD {a:Type}{d:Dec a}{e:a->Enc}(h:RT d e):∀(l:List a) (r:List UInt8),(aS e l).2=true->bB d l.length ((aS e l).1++r)=some (l,r)
 | [],r,_=>rfl
 | x::l,r,f=>by
  have b:=bZ.1 f;have c:(aS e (x::l)).1=(e x).1++(aS e l).1:=rfl;rw[c,aan];simp only[aau,bB,h.wr x _ b.1,kD h l r b.2]
theorem kE {b:Type}{d:Dec b}{e:b->Enc}(h:RT d e):∀(n:Nat) (l:List UInt8) (xs:List b) (r:List UInt8),bB d n l=some (xs,r)->(aS e xs).2=true/\l=(aS e xs).1++r/\xs.length=n
 | 0,l,xs,r,a=>by
  injection a with a
  injection a with h1 h2
  subst h1 h2;exact⟨rfl,rfl,rfl⟩
 | n+1,l,xs,r,a=>by
  simp only[bB] at a;split at a
  case h_2=>cases a
  rename_i x f q;split at a
  case h_2=>cases a
  rename_i ys c k;injection a with a
  injection a with h1 h2
  subst h1 h2;obtain⟨j,s⟩:=h.rd l x f q;obtain⟨m,p,o⟩:=kE h n f ys c k;refine⟨bZ.2 ⟨j,m⟩,?_,by simp[o]⟩;show l=(e x).1++(aS e ys).1++c;rw[s,p];simp
theorem Bw {a:Type}{e:a->Enc}(h:∀x,1<=(e x).1.length):∀l:List a,l.length<=(aS e l).1.length
 | []=>by simp
 | x::l=>by
  have:=h x;have:=Bw h l;show(x::l).length<=((e x).1++(aS e l).1).length;rw[aak,aau];omega
theorem f9 {j:Type}{d:Dec j}{e:j->Enc}(h:RT d e) (s:∀x,1<=(e x).1.length):RT (dF d) (bQ kW e):=by
 refine⟨fun l r f=>?_,fun bs l r f=>?_⟩
 ·have b:=bZ.1 f;have t:(l.length:Int)<=100000:=aaz b.1;have a:(bQ kW e l).1=bP (zz l.length)++(aS e l).1:=rfl;have v:=Bw s l;rw[a,aan];have m:yV (bP (zz l.length)++((aS e l).1++r))=some (l.length,(aS e l).1++r):=by
   simp only[yV,lO (l.length:Int) _ (by omega) (by omega)];rw[o6 ⟨by omega,t,by rw[aak];omega⟩];rfl
  unfold dF;rw[au m];exact kD h l r b.2
 ·obtain⟨n,r1,a,k⟩:=eU f;obtain⟨o,q,y⟩:=kE h _ _ _ _ k;unfold yV at a;split at a
  case h_2=>cases a
  rename_i p z u;split at a
  case isFalse=>cases a
  rename_i w;injection a with a
  injection a with b h2
  subst h2;have c:(l.length:Int)=p:=by omega
  refine⟨bZ.2 ⟨decide_eq_true (by omega),o⟩,?_⟩;show bs=bP (zz l.length)++(aS e l).1++r;rw[c,FK u,q];simp
theorem rH (n:Int):1<=(kW.num n).1.length:=j9 _
theorem FL (b:Bool):1<=(oH kW b).1.length:=j9 _
theorem nM:RT (dF gm) (bQ kW kW.num):=f9 iw rH
theorem iF {c d:Type}{f:Dec c}{k:c->Dec d}{a b:Enc}{x:c}{y:d}{r:List UInt8}(h:(bn a b).2=true) (l:a.2=true->∀s,f (a.1++s)=some (x,s)) (j:b.2=true->k x (b.1++r)=some (y,r)):fV f k ((bn a b).1++r)=some (y,r):=by
 have e:=bZ.1 h;rw[n8,aan,au (l e.1 _)];exact j e.2
theorem nN {b c:Type}{f:Dec b}{k:b->Dec c}{a:Enc}{x:b}{y:c}{r:List UInt8}(h:a.2=true) (e:a.2=true->∀s,f (a.1++s)=some (x,s)) (d:k x r=some (y,r)):fV f k (a.1++r)=some (y,r):=by
 rw[au (e h r)];exact d
theorem WT {e:Type}{l:List e}(h:l.length=4):∃a b c d,l=[a,b,c,d]:=by
 match l,h with
 | [a,b,c,d],_=>exact⟨a,b,c,d,rfl⟩
theorem Ko {b:Type}{l:List b}(h:l.length=1):∃a,l=[a]:=by
 match l,h with
 | [a],_=>exact⟨a,rfl⟩
theorem SI {c:Type}{l:List c}(h:l.length=2):∃a b,l=[a,b]:=by
 match l,h with
 | [a,b],_=>exact⟨a,b,rfl⟩
theorem QA {d:Type}{l:List d}(h:l.length=3):∃a b c,l=[a,b,c]:=by
 match l,h with
 | [a,b,c],_=>exact⟨a,b,c,rfl⟩
theorem WU {f:Type}{l:List f}(h:l.length=5):∃a b c d e,l=[a,b,c,d,e]:=by
 match l,h with
 | [a,b,c,d,e],_=>exact⟨a,b,c,d,e,rfl⟩
theorem nO {a:Type}{x y:a}{l r:List UInt8}(h:vM x l=some (y,r)):x=y/\l=r:=by
 injection h with h
 injection h with h1 h2
 exact⟨h1,h2⟩
theorem Er (v:Vl) (d:Int):1<=(rZ kW v d).1.length:=by
 cases v with
 | mk a b c n f e p l =>
  rw[rZ];simp only[n8,aS,aak];have:=rH a;omega
theorem Om:∀d:Nat,RT (D9 d) (fun v=>rZ kW v d)
 | 0=>⟨fun v r h=>by
   cases v with
   | mk a b c n f e p l =>
    have j:(rZ kW (.mk a b c n f e p l) ((0:Nat):Int)).2=true:=h;rw[rZ] at j;have:=(bZ.1 j).1;exact vv this (by decide),fun l x r h=>by cases h⟩
 | d+1=>by
  have k:RT (D9 d) (fun v=>rZ kW v (((d+1:Nat):Int)-1)):=by
   have e:((d+1:Nat):Int)-1=(d:Int):=by omega
   rw[e];exact Om d
  refine⟨fun v r h=>?_,fun bs v r h=>?_⟩
  ·cases v with
   | mk a b c n f e p l =>
    have j:(rZ kW (.mk a b c n f e p l) ((d+1:Nat):Int)).2=true:=h;show D9 (d+1) ((rZ kW (.mk a b c n f e p l) ((d+1:Nat):Int)).1++r)=_;rw[rZ,oI] at j ⊢;have h1:=(bZ.1 j).2;rw[n8];show D9 (d+1) ((bn (aS kW.num [a,b,c,n]) _).1++r)=_;unfold D9;refine iF h1 (fun q s=>kD iw _ _ q) fun h2=>?_;refine iF h2 (fun q s=>(f9 k (fun x=>Er x _)).wr f s q) fun h3=>?_;refine iF h3 (fun q s=>kD qZ _ _ q) fun t=>?_;refine iF t (fun q s=>nM.wr _ _ q) fun h5=>?_;exact nN h5 (fun q s=>nM.wr _ _ q) rfl
  ·unfold D9 at h;obtain⟨a,r1,e1,h⟩:=eU h;obtain⟨f,r2,e2,h⟩:=eU h;obtain⟨b,r3,e3,h⟩:=eU h;obtain⟨p,r4,e4,h⟩:=eU h;obtain⟨l,r5,m,h⟩:=eU h;obtain⟨rfl,rfl⟩:=nO h;obtain⟨o,a2,a3⟩:=kE iw _ _ _ _ e1;obtain⟨f1,f2⟩:=(f9 k (fun x=>Er x _)).rd _ _ _ e2;obtain⟨b1,b2,b3⟩:=kE qZ _ _ _ _ e3;obtain⟨p1,p2⟩:=nM.rd _ _ _ e4;obtain⟨l1,l2⟩:=nM.rd _ _ _ m;obtain⟨w,x,y,z,rfl⟩:=WT a3;obtain⟨u,rfl⟩:=Ko b3;show(rZ kW (.mk w x y z f u p l) ((d+1:Nat):Int)).2=true/\bs=(rZ kW (.mk w x y z f u p l) ((d+1:Nat):Int)).1++r5;rw[rZ,oI];refine⟨bZ.2 ⟨?_,bZ.2 ⟨o,bZ.2 ⟨f1,bZ.2 ⟨b1,bZ.2 ⟨p1,l1⟩⟩⟩⟩⟩,?_⟩
   ·show(decide (0<((d+1:Nat):Int))||kW.deep)=true;simp only[aaM,aaU];exact .inl (by omega)
   ·rw[a2,f2,b2,p2,l2];simp only[n8,bQ,aan];rfl
theorem Bx:RT Ff (vD kW):=Om 60
theorem Kq (v:Vl):1<=(vD kW v).1.length:=Er v 60
theorem FM:RT Rs (P1 kW):=f9 Bx Kq
theorem Kr {a:Type}(e:a->Enc) (l:List a):1<=(bQ kW e l).1.length:=by
 show 1<=(bP (zz l.length)++(aS e l).1).length;have:=j9 (zz l.length);rw[aak];omega
theorem oN {a:Type}{e:a->Enc}(h:∀x,1<=(e x).1.length) (x:a) (l:List a):1<=(aS e (x::l)).1.length:=by
 have:=Bw h (x::l);simp only[aau] at this;omega
theorem wB {a b:Enc}(h:1<=a.1.length):1<=(bn a b).1.length:=by rw[n8,aak];omega
theorem Oo:RT NS (QJ kW):=by
 refine⟨fun x r h=>?_,fun bs x r h=>?_⟩
 ·unfold NS;refine iF h (fun q s=>kD qZ _ _ q) fun h=>?_;refine iF h (fun q s=>kD iw _ _ q) fun h=>?_;exact nN h (fun q s=>Bx.wr _ _ q) rfl
 ·obtain⟨b,z,k,h⟩:=eU h;obtain⟨a,t,f,h⟩:=eU h;obtain⟨v,y,p,h⟩:=eU h;obtain⟨rfl,rfl⟩:=nO h;obtain⟨d,o,n⟩:=kE qZ _ _ _ _ k;obtain⟨e,j,l⟩:=kE iw _ _ _ _ f;obtain⟨m,c⟩:=Bx.rd _ _ _ p;obtain⟨u,rfl⟩:=Ko n;obtain⟨w,rfl⟩:=Ko l;refine⟨bZ.2 ⟨d,bZ.2 ⟨e,m⟩⟩,?_⟩;rw[o,j,c];simp only[QJ,n8,aan];rfl
theorem Oq:RT NT (QK kW):=by
 refine⟨fun x r h=>?_,fun bs x r h=>?_⟩
 ·unfold NT;refine iF h (fun q s=>kD iw _ _ q) fun h=>?_;refine iF h (fun q s=>FM.wr _ _ q) fun h=>?_;exact nN h (fun q s=>nM.wr _ _ q) rfl
 ·obtain⟨b,z,k,h⟩:=eU h;obtain⟨a,w,f,h⟩:=eU h;obtain⟨v,y,o,h⟩:=eU h;obtain⟨rfl,rfl⟩:=nO h;obtain⟨d,n,m⟩:=kE iw _ _ _ _ k;obtain⟨e,j⟩:=FM.rd _ _ _ f;obtain⟨l,c⟩:=nM.rd _ _ _ o;obtain⟨p,q,s,t,u,rfl⟩:=WU m;refine⟨bZ.2 ⟨d,bZ.2 ⟨e,l⟩⟩,?_⟩;rw[n,j,c];simp only[QK,n8,aan];rfl
theorem Ot:RT P0 (QL kW):=by
 refine⟨fun x r h=>?_,fun bs x r h=>?_⟩
 ·unfold P0;refine iF h (fun q s=>kD iw _ _ q) fun h=>?_;exact nN h (fun q s=>kD qZ [x.excl,x.re,x.over] _ q) rfl
 ·obtain⟨a,o,j,h⟩:=eU h;obtain⟨b,n,e,h⟩:=eU h;obtain⟨rfl,rfl⟩:=nO h;obtain⟨c,m,l⟩:=kE iw _ _ _ _ j;obtain⟨d,f,k⟩:=kE qZ _ _ _ _ e;obtain⟨p,q,rfl⟩:=SI l;obtain⟨s,t,u,rfl⟩:=QA k;refine⟨bZ.2 ⟨c,d⟩,?_⟩;rw[m,f];simp only[QL,n8,aan];rfl
theorem Ks (x:Ac):1<=(QK kW x).1.length:=wB (oN rH _ _)
theorem Kt (x:Ln):1<=(QL kW x).1.length:=wB (oN rH _ _)
theorem Ku (x:Ce):1<=(QJ kW x).1.length:=wB (oN FL _ _)
theorem Kv (x:Tk):1<=(QM kW x).1.length:=wB (oN rH _ _)
theorem Kw (x:Ou):1<=(Rv kW x).1.length:=oN rH _ _
theorem Kx (x:Bool):1<=(Rw kW x).1.length:=oN FL _ _
theorem Ov:RT KH (QM kW):=by
 refine⟨fun x r h=>?_,fun bs x r h=>?_⟩
 ·unfold KH;refine iF h (fun q s=>kD iw _ _ q) fun h=>?_;refine iF h (fun q s=>(f9 Oq Ks).wr _ _ q) fun h=>?_;refine iF h (fun q s=>(f9 Ot Kt).wr _ _ q) fun h=>?_;refine iF h (fun q s=>kD iw [x.allocs,x.clock,x.next] _ q) fun h=>?_;exact nN h (fun q s=>nM.wr _ _ q) rfl
 ·obtain⟨a,r1,w,h⟩:=eU h;obtain⟨f,r2,m,h⟩:=eU h;obtain⟨l,r3,e3,h⟩:=eU h;obtain⟨n,r4,e4,h⟩:=eU h;obtain⟨c,r5,b,h⟩:=eU h;obtain⟨rfl,rfl⟩:=nO h;obtain⟨j,a2,a3⟩:=kE iw _ _ _ _ w;obtain⟨k,o⟩:=(f9 Oq Ks).rd _ _ _ m;obtain⟨c1,d⟩:=(f9 Ot Kt).rd _ _ _ e3;obtain⟨v,z,e⟩:=kE iw _ _ _ _ e4;obtain⟨f1,y⟩:=nM.rd _ _ _ b;obtain⟨p,rfl⟩:=Ko a3;obtain⟨s,t,u,rfl⟩:=QA e;refine⟨bZ.2 ⟨j,bZ.2 ⟨k,bZ.2 ⟨c1,bZ.2 ⟨v,f1⟩⟩⟩⟩,?_⟩;rw[a2,o,d,z,y];simp only[QM,n8,aan];rfl
theorem Ow:RT Rt (Rv kW):=by
 refine⟨fun x r h=>?_,fun bs x r h=>?_⟩
 ·unfold Rt;exact nN h (fun q s=>kD iw [x.task,x.number] _ q) rfl
 ·obtain⟨a,f,b,h⟩:=eU h;obtain⟨rfl,rfl⟩:=nO h;obtain⟨e,d,c⟩:=kE iw _ _ _ _ b;obtain⟨p,q,rfl⟩:=SI c;exact⟨e,d⟩
theorem Ox:RT Ru (Rw kW):=by
 refine⟨fun x r h=>?_,fun bs x r h=>?_⟩
 ·unfold Ru;exact nN h (fun q s=>kD qZ [x] _ q) rfl
 ·obtain⟨a,f,b,h⟩:=eU h;obtain⟨rfl,rfl⟩:=nO h;obtain⟨e,d,c⟩:=kE qZ _ _ _ _ b;obtain⟨p,rfl⟩:=Ko c;exact⟨e,d⟩
theorem Ky (l:List Vl):1<=(P1 kW l).1.length:=Kr _ _
theorem SJ:RT CU (rE kW):=by
 refine⟨fun x r h=>?_,fun bs x r h=>?_⟩
 ·unfold CU;refine iF h (fun q s=>(f9 Oo Ku).wr _ _ q) fun h=>?_;refine iF h (fun q s=>(f9 Ox Kx).wr _ _ q) fun h=>?_;refine iF h (fun q s=>(f9 Ov Kv).wr _ _ q) fun h=>?_;refine iF h (fun q s=>(f9 FM Ky).wr _ _ q) fun h=>?_;refine iF h (fun q s=>(f9 Ow Kw).wr _ _ q) fun h=>?_;exact nN h (fun q s=>kD iw [x.made,x.dropped,x.closed] _ q) rfl
 ·obtain⟨a,r1,y,h⟩:=eU h;obtain⟨b,r2,o,h⟩:=eU h;obtain⟨c,r3,e3,h⟩:=eU h;obtain⟨d,r4,e4,h⟩:=eU h;obtain⟨f,r5,e,h⟩:=eU h;obtain⟨m,r6,k,h⟩:=eU h;obtain⟨rfl,rfl⟩:=nO h;obtain⟨l,a2⟩:=(f9 Oo Ku).rd _ _ _ y;obtain⟨n,t⟩:=(f9 Ox Kx).rd _ _ _ o;obtain⟨c1,j⟩:=(f9 Ov Kv).rd _ _ _ e3;obtain⟨v,d2⟩:=(f9 FM Ky).rd _ _ _ e4;obtain⟨f1,z⟩:=(f9 Ow Kw).rd _ _ _ e;obtain⟨u,m2,w⟩:=kE iw _ _ _ _ k;obtain⟨p,q,s,rfl⟩:=QA w;refine⟨bZ.2 ⟨l,bZ.2 ⟨n,bZ.2 ⟨c1,bZ.2 ⟨v,bZ.2 ⟨f1,u⟩⟩⟩⟩⟩,?_⟩;rw[a2,t,j,d2,z,m2];simp only[rE,n8,aan];rfl
end Go.Fr.Tryz
namespace Go.Fr.Try.Pure
def Zv (h x:Int):Int:=(h*1000003+x+1) % 2147483647
def run (h:Int) (l:List Int):Int:=l.foldl Zv h
end Go.Fr.Try.Pure
namespace Go.Fr.Tryz
open Go Go.Fr.T Go.Fr.Dm
open Go.Fr.Try
theorem Kz (bs:List UInt8):(qa bs).length=4:=rfl
theorem KA (b:List UInt8):(gQ b).length=b.length+4:=by simp[gQ,Kz]
theorem KC {bs:List UInt8}{x:Wd}:nX bs=some x↔CU bs=some (x,[]):=by
 unfold nX;constructor
 ·intro h;split at h
  ·rename_i e;injection h with h;subst h;exact e
  ·cases h
 ·intro h;rw[h]
theorem G0 {bs:List UInt8}:dc <+: bs↔bs.take 3=dc:=by
 rw[List.prefix_iff_eq_take];exact eq_comm
theorem QC {x:Wd}(h:(mF x).length≠0):(rE kW x).2=true:=by
 cases e:(rE kW x).2 with
 | true=>rfl
 | false=>unfold mF at h;rw[e] at h;exact vv rfl h
theorem G3 (bs:List UInt8):(∃x,s8 bs=(some x,0)/\(rE kW x).2=true/\mF x=bs/\7<=bs.length/\qa (bs.take (bs.length-4))=bs.drop (bs.length-4))\/s8 bs=(none,16)\/s8 bs=(none,17):=by
 unfold s8;split
 ·exact .inr (.inl rfl)
 rename_i c;split
 ·exact .inr (.inr rfl)
 rename_i a;split
 ·rename_i x j;refine .inl ⟨x,rfl,?_⟩;have f:7<=bs.length:=Nat.le_of_not_lt fun h=>c (.inl h);have b:dc <+: bs:=Classical.not_not.1 fun h=>c (.inr h);have a:gQ (bs.take (bs.length-4))=bs:=Classical.not_not.1 a;have b:=G0.1 b;obtain⟨e,d⟩:=SJ.rd _ _ _ (KC.1 j);rw[aaA] at d;refine⟨e,?_,f,?_⟩
  ·unfold mF;rw[o6 e,<-d];have k:(bs.take (bs.length-4)).take 3=dc:=by
    rw[List.take_take,Nat.min_eq_left (by omega)];exact b
   rw[<-k,List.take_append_drop];exact a
  ·have l:bs.take (bs.length-4)++qa (bs.take (bs.length-4))=bs.take (bs.length-4)++bs.drop (bs.length-4):=by
    rw[List.take_append_drop];exact a
   exact List.append_cancel_left l
 ·exact .inr (.inl rfl)
theorem Nu {x:Wd}(h:(mF x).length≠0):(mF x).length=(rE kW x).1.length+7:=by
 unfold mF;rw[o6 (QC h),KA];simp[dc]
end Go.Fr.Tryz
namespace Go.Fr.Tryz
open Go Go.RowKit Go.Proofs Go.Fr Go.Fr.T Go.Fr.Api
def i64 (n:Int):Prop:=-9223372036854775808<=n/\n<=9223372036854775807
structure Xg (k:Kd):Prop where
 num:∀n,i64 n->(k.num n).1.length<=10
 siz:∀n:Nat,n<=1099511627776->(k.siz n).1.length<=10
section
variable {k:Kd}(hk:Xg k)
include hk
end
section
variable {k:Kd}(hk:Xg k)
include hk
end
mutual
theorem QD:∀(v:Vl) (d:Int),(rZ kW v d).2=true->(Ea v:Int)<=d
 | .mk a b c n f e p l,d,h=>by
  rw[rZ] at h;have h1:=bZ.1 h;have h2:=bZ.1 h1.2;have h3:=bZ.1 h2.2;have h4:=bZ.1 h3.1;have h5:=Oy f (d-1) h4.2;have h6:(decide (0<d)||false)=true:=h1.1;have h7:0<d:=by simpa using h6
  simp only[Ea];omega
theorem Oy:∀(l:List Vl) (d:Int),(Bk kW l d).2=true->(CV l:Int)<=max d 0
 | [],d,_=>by simp only[CV];omega
 | x::xs,d,h=>by
  rw[Bk] at h;have h1:=bZ.1 h;have h2:=QD x d h1.1;have h3:=Oy xs d h1.2;simp only[CV];omega
end
theorem KD {b:Type}{f:b->Enc}:∀{l:List b},(aS f l).2=true->∀x∈l,(f x).2=true
 | y::l,h,x,a=>by
  have c:=bZ.1 h;rcases aal.1 a with rfl | a
  ·exact c.1
  ·exact KD c.2 x a
theorem yD {a:Type}{f:a->Enc}{l:List a}(h:(bQ kW f l).2=true):∀x∈l,(f x).2=true:=KD (bZ.1 h).2
theorem SK {l:List Vl}(h:(P1 kW l).2=true):vsB l:=fun v a=>by
 have:=QD v 60 (yD h v a);omega
theorem WV {x:Wd}(h:(rE kW x).2=true):Fw x:=by
 have b:=bZ.1 h;have n:=bZ.1 b.2;have a:=bZ.1 n.2;have o:=bZ.1 a.2;refine⟨fun c m=>?_,fun t e f j=>?_,fun l d=>?_⟩
 ·have q:=yD b.1 c m;have:=QD c.value 60 (bZ.1 (bZ.1 q).2).2;unfold SW;omega
 ·have q:=yD a.1 t e;have p:=yD (bZ.1 (bZ.1 q).2).1 f j;exact SK (bZ.1 (bZ.1 p).2).1
 ·exact SK (yD o.1 l d)
end Go.Fr.Tryz
namespace Go.Fr.Tryz
open Go Go.RowKit Go.Proofs Go.Fr Go.Fr.T Go.Fr.Api Go.Fr.Dm
theorem WW (i:G7) (x:Wd) (a:Fw x) (hb:(rE kW x).1.length<=20000000):CallsT PZ 14 [.agg (Qn i x)] [] (iD [] (.sl (af (mF x)))) :=
 (V7 _ _ _ x a (by omega)).give
theorem QE (i:G7) (x:Wd):CallsT PZ 16 [.agg (Qn i x),.agg (Qn i x)] [] (iD [] (.bool true)) :=
 dh (p:=i=i/\x=x) ⟨rfl,rfl⟩▸t16 i i x x
theorem Zw (bs:List UInt8) (x:Wd) (c:CallsT PZ 10 [.agg [.sl [],.sl [],IC 0],.sl (af bs)] [] (iD [] (.tup [.agg (qb [] [] 0 x),IC 0])))
  (b:List UInt8) (a:bs.length<=3000->CallsT PZ 14 [.agg (qb [] [] 0 x)] [] (iD [] (.sl (af b)))) (e:rO ⟨b.toArray⟩ ⟨bs.toArray⟩=true):CallsT PZ 5 [.sl (af bs)] [] (iD [] (.bool true)):=by
 have f:=aM (bs:=bs);refine aj Tryz.func5 D3 rfl fun h _=>?_;refine bA t7 rfl fun _=>?_;refine aN (fun d=>?_) (fun d=>?_)
 ·exact aK rfl rfl
 refine bA c rfl fun _=>?_;refine kN.mk ⟨bs,rfl,?_⟩;refine dW (a (by omega)) rfl fun _=>?_;refine kN.mk ⟨b,rfl,?_⟩;exact aK rfl (j3 C.bool e)
theorem Zx (bs:List UInt8) (b:CallsT PZ 10 [.agg [.sl [],.sl [],IC 0],.sl (af bs)] [] (iD [] (.tup [.agg (qb [] [] 0 w0),IC 16])))
  (a:CallsT PZ 16 [.agg (qb [] [] 0 w0),.agg (qb [] [] 0 w0)] [] (iD [] (.bool true))):CallsT PZ 5 [.sl (af bs)] [] (iD [] (.bool true)):=by
 have d:=aM (bs:=bs);refine aj Tryz.func5 D3 rfl fun e _=>?_;refine bA t7 rfl fun _=>?_;refine aN (fun c=>?_) (fun c=>?_)
 ·exact aK rfl rfl
 refine bA b rfl fun _=>?_;refine bA a rfl fun _=>?_;exact aK rfl rfl
theorem Zy (bs:List UInt8) (b:CallsT PZ 10 [.agg [.sl [],.sl [],IC 0],.sl (af bs)] [] (iD [] (.tup [.agg (qb [] [] 0 w0),IC 17])))
  (a:CallsT PZ 16 [.agg (qb [] [] 0 w0),.agg (qb [] [] 0 w0)] [] (iD [] (.bool true))):CallsT PZ 5 [.sl (af bs)] [] (iD [] (.bool true)):=by
 have d:=aM (bs:=bs);refine aj Tryz.func5 D3 rfl fun e _=>?_;refine bA t7 rfl fun _=>?_;refine aN (fun c=>?_) (fun c=>?_)
 ·exact aK rfl rfl
 refine bA b rfl fun _=>?_;refine bA a rfl fun _=>?_;exact aK rfl rfl
theorem t5 (bs:List UInt8) (hb:bs.length<=1048576):CallsT PZ 5 [.sl (af bs)] [] (iD [] (.bool true)):=by
 have a:=Wg [] [] 0 bs (by omega);have b:CallsT PZ 16 [.agg (qb [] [] 0 w0),.agg (qb [] [] 0 w0)] [] (iD [] (.bool true)):=QE ⟨[],[],0⟩ w0;rcases G3 bs with⟨x,e,d,c,f,j⟩ | e | e
 ·rw[e] at a;refine Zw bs x a (mF x) (fun h=>WW ⟨[],[],0⟩ x (WV d) ?_) (by rw[nL,c];exact decide_eq_true rfl);have:=Nu (x:=x) (by rw[c];omega);rw[c] at this;omega
 ·rw[e] at a;exact Zx bs a b
 ·rw[e] at a;exact Zy bs a b
end Go.Fr.Tryz
namespace Go.Fr.Tryz
open Go Go.RowKit Go.Proofs Go.Fr Go.Fr.T
theorem Bz {W:World}{p:Prop}(h:p):si (pR W):=trivial
end Go.Fr.Tryz
